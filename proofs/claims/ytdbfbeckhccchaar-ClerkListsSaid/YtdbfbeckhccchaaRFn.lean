/- The pure functions. Written by a program of mine. -/
import Derived.Test.YtdbfbeckhccchaaRSx
namespace Go.Tl
open Go
set_option linter.unusedVariables false
set_option linter.unusedSimpArgs false
noncomputable def clerk_Wish_Same (a0 : clerk_Wish) (a1 : pact_Op) : Option Bool :=
  (bif (decide (a0.op.kind = 3)) then
  (bif (decide (a1.kind = 3)) then
  (some (decide (a1.id = a0.op.id)))
  else
  (bif (decide (a1.kind = 4)) then
  (some (decide (a1.id = a0.op.id)))
  else
  (some false)
  )
  )
  else
  (bif (decide (a0.op.kind = 4)) then
  (bif (decide (a1.kind = 3)) then
  (some (decide (a1.id = a0.op.id)))
  else
  (bif (decide (a1.kind = 4)) then
  (some (decide (a1.id = a0.op.id)))
  else
  (some false)
  )
  )
  else
  (some (decide (a0.op = a1)))
  )
  )
noncomputable def slices_Clone_memo_Hop_memo_Hop (a0 : (List memo_Hop)) : Option (List memo_Hop) :=
  (app ([] : List memo_Hop) a0).bind fun l8u =>
  (some l8u)
noncomputable def clerk_Wish_Twin (a0 : clerk_Wish) : Option clerk_Wish :=
  (slices_Clone_memo_Hop_memo_Hop a0.trail).bind fun r16u =>
  (some { a0 with trail := r16u })
noncomputable def slices_Clone_clerk_Wish_clerk_Wish (a0 : (List clerk_Wish)) : Option (List clerk_Wish) :=
  (app ([] : List clerk_Wish) a0).bind fun l8u =>
  (some l8u)
noncomputable def clerk_Add_1 (a0 : clerk_Wish) (a1 : clerk_Wish) : Option Bool :=
  (clerk_Wish_Same a0 a1.op).bind fun r11u =>
  (some r11u)
noncomputable def slices_IndexFunc_clerk_Wish_clerk_Wish_c31ub1 (a0 : (List clerk_Wish)) (a1q0 : clerk_Wish) : Int → Option (Int ⊕ Int) := fun s_ => match s_ with
  | x10u =>
  (bif (decide (x10u < (a0.length : Int))) then
  (ix a0 x10u).bind fun x18u =>
  (clerk_Add_1 x18u a1q0).bind fun r27u =>
  (bif r27u then
  ((
  (some x10u)
  ).map .inr)
  else
  (some (.inl (IntKind.i64.wrap (x10u + 1))))
  )
  else
  ((
  (some (-1))
  ).map .inr)
  )
noncomputable def slices_IndexFunc_clerk_Wish_clerk_Wish_c31 (a0 : (List clerk_Wish)) (a1q0 : clerk_Wish) : Option Int :=
  (loop (slices_IndexFunc_clerk_Wish_clerk_Wish_c31ub1 a0 a1q0) 0)
noncomputable def slices_ContainsFunc_clerk_Wish_clerk_Wish_c31 (a0 : (List clerk_Wish)) (a1q0 : clerk_Wish) : Option Bool :=
  (slices_IndexFunc_clerk_Wish_clerk_Wish_c31 a0 a1q0).bind fun r1u =>
  (some (decide (0 ≤ r1u)))
noncomputable def clerk_Add (a0 : (List clerk_Wish)) (a1 : clerk_Wish) : Option (List clerk_Wish) :=
  (slices_ContainsFunc_clerk_Wish_clerk_Wish_c31 a0 a1).bind fun r7u =>
  (bif r7u then
  (some a0)
  else
  (slices_Clone_clerk_Wish_clerk_Wish a0).bind fun r14u =>
  (clerk_Wish_Twin a1).bind fun r22u =>
  (app r14u ([r22u] : List clerk_Wish)).bind fun l34u =>
  (some l34u)
  )
noncomputable def clerk_Rules_Right (a0 : clerk_Rules) : Option Bool :=
  (bif (decide (1 ≤ a0.margin)) then
  (bif (decide (a0.margin ≤ 100)) then
  (bif (decide (a0.patience ≤ 100)) then
  (bif (decide (1 ≤ a0.longest)) then
  (bif (decide (a0.longest ≤ 10000)) then
  (some (decide (a0.fee.rate ≤ 1000000)))
  else
  (some false)
  )
  else
  (some false)
  )
  else
  (some false)
  )
  else
  (some false)
  )
  else
  (some false)
  )
noncomputable def law20uawake  : Option Bool :=
  (clerk_Add ([]) ({ op := pact_Op.zero, trail := [] } : clerk_Wish)).bind fun r21u =>
  (clerk_Rules_Right ({ fee := money_Fee.zero, margin := 1, patience := 0, longest := 9 } : clerk_Rules)).bind fun r29u =>
  (bif r29u then
  (clerk_Rules_Right ({ fee := money_Fee.zero, margin := 0, patience := 0, longest := 0 } : clerk_Rules)).bind fun r38u =>
  (bif (!r38u) then
  (bif (decide ((r21u.length : Int) = 1)) then
  (clerk_Add r21u ({ op := pact_Op.zero, trail := [] } : clerk_Wish)).bind fun r48u =>
  (some (decide ((r48u.length : Int) = 1)))
  else
  (some false)
  )
  else
  (some false)
  )
  else
  (some false)
  )
noncomputable def law10uTo (a0 : ref10uCond) : Option api_Cond :=
  (some ({ id := a0.id, by_ := a0.by_, amount := a0.amount, hash := a0.hash, expiry := a0.expiry } : api_Cond))
noncomputable def law12uOp (a0 : ref12uOp) : Option pact_Op :=
  (law10uTo a0.cond).bind fun r16u =>
  (some ({ kind := a0.kind, amount := a0.amount, cond := r16u, id := a0.id } : pact_Op))
noncomputable def law04uTo_b1  : (Int × ref04uSig × lamp_Sig × lamp_Sig) → Option ((Int × ref04uSig × lamp_Sig × lamp_Sig) ⊕ lamp_Sig) := fun s_ => match s_ with
  | (x29u, x35u, x41u, x47u) =>
  (bif (decide (x29u < 32)) then
  (ix x35u.open_ x29u).bind fun x50u =>
  (ix x35u.other x29u).bind fun x55u =>
  (ix x47u.open_ x29u).bind fun x60u =>
  (ix { x47u with open_ := (upd x47u.open_ x29u x50u) }.other x29u).bind fun x72u =>
  (some (.inl ((IntKind.i64.wrap (x29u + 1)), x35u, x41u, { { x47u with open_ := (upd x47u.open_ x29u x50u) } with other := (upd { x47u with open_ := (upd x47u.open_ x29u x50u) }.other x29u x55u) })))
  else
  ((
  (some x47u)
  ).map .inr)
  )
noncomputable def law04uTo (a0 : ref04uSig) : Option lamp_Sig :=
  (loop (law04uTo_b1) (0, a0, lamp_Sig.zero, lamp_Sig.zero))
noncomputable def law05uTo_b1 (a0 : ref05uSig) (r16u : lamp_Sig) : (Int × (List (List Int))) → Option ((Int × (List (List Int))) ⊕ ring_Sig) := fun s_ => match s_ with
  | (x129u, x144u) =>
  (bif (decide (x129u < (a0.way.length : Int))) then
  (ix a0.way x129u).bind fun x147u =>
  (app x144u ([x147u] : List (List Int))).bind fun l178u =>
  (some (.inl ((IntKind.i64.wrap (x129u + 1)), l178u)))
  else
  ((
  (some ({ sig := r16u, key := a0.key, way := x144u } : ring_Sig))
  ).map .inr)
  )
noncomputable def law05uTo (a0 : ref05uSig) : Option ring_Sig :=
  (law04uTo a0.s).bind fun r16u =>
  (loop (law05uTo_b1 a0 r16u) (0, ([] : List (List Int))))
noncomputable def law18uTo_b1 (a0 : ref18uMemo) (r16u : pact_Op) (r26u : ring_Sig) : (Int × (List memo_Hop)) → Option ((Int × (List memo_Hop)) ⊕ memo_Memo) := fun s_ => match s_ with
  | (x179u, x194u) =>
  (bif (decide (x179u < (a0.trail.length : Int))) then
  (ix a0.trail x179u).bind fun x197u =>
  (app x194u ([({ channel := x197u.channel, amount := x197u.amount, id := x197u.id } : memo_Hop)] : List memo_Hop)).bind fun l228u =>
  (some (.inl ((IntKind.i64.wrap (x179u + 1)), l228u)))
  else
  ((
  (some ({ kind := a0.kind, channel := a0.channel, round := a0.round, op := r16u, trail := x194u, sig := r26u } : memo_Memo))
  ).map .inr)
  )
noncomputable def law18uTo (a0 : ref18uMemo) : Option memo_Memo :=
  (law12uOp a0.op).bind fun r16u =>
  (law05uTo a0.sig).bind fun r26u =>
  (loop (law18uTo_b1 a0 r16u r26u) (0, ([] : List memo_Hop)))
noncomputable def law20uWishes_b1 (a0 : (List ref20uWish)) : ((List clerk_Wish) × Int) → Option (((List clerk_Wish) × Int) ⊕ (List clerk_Wish)) := fun s_ => match s_ with
  | (x8u, x16u) =>
  (bif (decide (x16u < (a0.length : Int))) then
  (ix a0 x16u).bind fun x19u =>
  (law12uOp x19u.op).bind fun r46u =>
  (law18uTo ({ kind := 0, channel := 0, round := 0, op := ref12uOp.zero, trail := x19u.trail, sig := ref05uSig.zero } : ref18uMemo)).bind fun r58u =>
  (app x8u ([({ op := r46u, trail := r58u.trail } : clerk_Wish)] : List clerk_Wish)).bind fun l74u =>
  (some (.inl (l74u, (IntKind.i64.wrap (x16u + 1)))))
  else
  ((
  (some x8u)
  ).map .inr)
  )
noncomputable def law20uWishes (a0 : (List ref20uWish)) : Option (List clerk_Wish) :=
  (loop (law20uWishes_b1 a0) ([], 0))
noncomputable def octet_Of (a0 : (List Int)) : Option octet_In :=
  (app ([] : List Int) a0).bind fun l5u =>
  (some ({ left := l5u, bad := 0 } : octet_In))
noncomputable def octet_In_Fail (a0 : octet_In) (a1 : Int) : Option octet_In :=
  (bif (decide (a0.bad = 0)) then
  (bif (decide (a1 ≠ 0)) then
  (some { { a0 with left := [] } with bad := a1 })
  else
  (some a0)
  )
  else
  (some a0)
  )
noncomputable def octet_In_Bad (a0 : octet_In) : Option Int :=
  (some a0.bad)
noncomputable def octet_In_cut (a0 : octet_In) (a1 : Int) : Option ((List Int) × octet_In) :=
  (octet_In_Bad a0).bind fun r1u =>
  (bif (decide (r1u ≠ 0)) then
  (some ([], a0))
  else
  (bif (decide ((a0.left.length : Int) < a1)) then
  (octet_In_Fail a0 9).bind fun r11u =>
  (some ([], r11u))
  else
  (slc a0.left 0 a1).bind fun l24u =>
  (slc a0.left a1 (a0.left.length : Int)).bind fun l30u =>
  (some (l24u, { a0 with left := l30u }))
  )
  )
noncomputable def octet_In_num_b1 (r1u : ((List Int) × octet_In)) : (Int × Int) → Option ((Int × Int) ⊕ (Int × octet_In)) := fun s_ => match s_ with
  | (x18u, x24u) =>
  (bif (decide (x24u < (r1u.1.length : Int))) then
  (ix r1u.1 x24u).bind fun x32u =>
  (some (.inl ((bor .u64 (Tl.shl .u64 x18u 8) (IntKind.u64.wrap x32u)), (IntKind.i64.wrap (x24u + 1)))))
  else
  ((
  (some (x18u, r1u.2))
  ).map .inr)
  )
noncomputable def octet_In_num (a0 : octet_In) (a1 : Int) : Option (Int × octet_In) :=
  (octet_In_cut a0 a1).bind fun r1u =>
  (loop (octet_In_num_b1 r1u) (0, 0))
noncomputable def octet_In_One (a0 : octet_In) : Option (Int × octet_In) :=
  (octet_In_num a0 1).bind fun r1u =>
  (some ((IntKind.u8.wrap r1u.1), r1u.2))
noncomputable def octet_In_Many (a0 : octet_In) (a1 : Int) : Option (Int × octet_In) :=
  (octet_In_One a0).bind fun r1u =>
  (bif (decide (a1 < (IntKind.i64.wrap r1u.1))) then
  (octet_In_Fail r1u.2 8).bind fun r13u =>
  (some (0, r13u))
  else
  (some ((IntKind.i64.wrap r1u.1), r1u.2))
  )
noncomputable def octet_In_Eight (a0 : octet_In) : Option (Int × octet_In) :=
  (octet_In_num a0 8).bind fun r1u =>
  (some (r1u.1, r1u.2))
noncomputable def octet_In_Sum (a0 : octet_In) : Option ((List Int) × octet_In) :=
  (octet_In_cut a0 32).bind fun r15u =>
  (some ((cpy (List.replicate 32 0) r15u.1), r15u.2))
noncomputable def deed_takeCond_j1 (r8u : (Int × octet_In)) (r37u : (Int × octet_In)) (r57u : (Int × octet_In)) (r77u : ((List Int) × octet_In)) (r99u : (Int × octet_In)) (x127u : octet_In) : Option (api_Cond × octet_In) :=
  (some (({ id := r8u.1, by_ := (IntKind.i64.wrap r37u.1), amount := r57u.1, hash := r77u.1, expiry := r99u.1 } : api_Cond), x127u))
noncomputable def deed_takeCond (a0 : octet_In) : Option (api_Cond × octet_In) :=
  (octet_In_Eight a0).bind fun r8u =>
  (octet_In_One r8u.2).bind fun r37u =>
  (octet_In_Eight r37u.2).bind fun r57u =>
  (octet_In_Sum r57u.2).bind fun r77u =>
  (octet_In_Eight r77u.2).bind fun r99u =>
  (bif (decide (1 < (IntKind.i64.wrap r37u.1))) then
  (octet_In_Fail r99u.2 10).bind fun r150u =>
  (deed_takeCond_j1 r8u r37u r57u r77u r99u r150u)
  else
  (deed_takeCond_j1 r8u r37u r57u r77u r99u r99u.2)
  )
noncomputable def deed_TakeOp (a0 : octet_In) : Option (pact_Op × octet_In) :=
  (octet_In_One a0).bind fun r8u =>
  (octet_In_Eight r8u.2).bind fun r19u =>
  (octet_In_Eight r19u.2).bind fun r48u =>
  (deed_takeCond r48u.2).bind fun r68u =>
  (octet_In_Bad r68u.2).bind fun r90u =>
  (bif (decide (r90u ≠ 0)) then
  (some (({ kind := 0, amount := 0, cond := api_Cond.zero, id := 0 } : pact_Op), r68u.2))
  else
  (some (({ kind := (IntKind.i64.wrap r8u.1), amount := r19u.1, cond := r68u.1, id := r48u.1 } : pact_Op), r68u.2))
  )
noncomputable def octet_In_Four (a0 : octet_In) : Option (Int × octet_In) :=
  (octet_In_num a0 4).bind fun r1u =>
  (some ((IntKind.u32.wrap r1u.1), r1u.2))
noncomputable def memo_TakeTrail_b1 (r1u : (Int × octet_In)) : ((List memo_Hop) × Int × octet_In) → Option (((List memo_Hop) × Int × octet_In) ⊕ ((List memo_Hop) × octet_In)) := fun s_ => match s_ with
  | (x20u, x25u, x31u) =>
  (bif (decide (x25u < r1u.1)) then
  (octet_In_Four x31u).bind fun r34u =>
  (octet_In_Eight r34u.2).bind fun r45u =>
  (octet_In_Eight r45u.2).bind fun r74u =>
  (app x20u ([({ channel := r34u.1, amount := r45u.1, id := r74u.1 } : memo_Hop)] : List memo_Hop)).bind fun l100u =>
  (some (.inl (l100u, (IntKind.i64.wrap (x25u + 1)), r74u.2)))
  else
  ((
  (octet_In_Bad x31u).bind fun r106u =>
  (bif (decide (r106u ≠ 0)) then
  (some ([], x31u))
  else
  (some (x20u, x31u))
  )
  ).map .inr)
  )
noncomputable def memo_TakeTrail (a0 : octet_In) : Option ((List memo_Hop) × octet_In) :=
  (octet_In_Many a0 7).bind fun r1u =>
  (loop (memo_TakeTrail_b1 r1u) ([], 0, r1u.2))
noncomputable def octet_In_Left (a0 : octet_In) : Option Int :=
  (some (a0.left.length : Int))
noncomputable def octet_In_End_j1 (x8u : octet_In) : Option (Int × octet_In) :=
  (octet_In_Bad x8u).bind fun r9u =>
  (some (r9u, x8u))
noncomputable def octet_In_End (a0 : octet_In) : Option (Int × octet_In) :=
  (octet_In_Left a0).bind fun r15u =>
  (bif (decide (0 < r15u)) then
  (octet_In_Fail a0 10).bind fun r22u =>
  (octet_In_End_j1 r22u)
  else
  (octet_In_End_j1 a0)
  )
noncomputable def clerk_Load_b1 (r12u : (Int × octet_In)) : ((List clerk_Wish) × Int × octet_In) → Option (((List clerk_Wish) × Int × octet_In) ⊕ ((List clerk_Wish) × Int)) := fun s_ => match s_ with
  | (x31u, x36u, x42u) =>
  (bif (decide (x36u < r12u.1)) then
  (deed_TakeOp x42u).bind fun r45u =>
  (memo_TakeTrail r45u.2).bind fun r76u =>
  (app x31u ([({ op := r45u.1, trail := r76u.1 } : clerk_Wish)] : List clerk_Wish)).bind fun l96u =>
  (some (.inl (l96u, (IntKind.i64.wrap (x36u + 1)), r76u.2)))
  else
  ((
  (octet_In_End x42u).bind fun r172u =>
  (bif (decide (r172u.1 ≠ 0)) then
  (some ([], r172u.1))
  else
  (some (x31u, 0))
  )
  ).map .inr)
  )
noncomputable def clerk_Load (a0 : (List Int)) : Option ((List clerk_Wish) × Int) :=
  (octet_Of a0).bind fun r1u =>
  (octet_In_Many r1u 255).bind fun r12u =>
  (loop (clerk_Load_b1 r12u) ([], 0, r12u.2))
noncomputable def ref01uIn_Raw (a0 : ref01uIn) (a1 : Int) : Option ((List Int) × ref01uIn) :=
  (bif (decide (a0.bad ≠ 0)) then
  (some ([], a0))
  else
  (bif (decide ((IntKind.i64.wrap ((a0.b.length : Int) - a0.at_)) < a1)) then
  (some ([], { a0 with bad := 9 }))
  else
  (slc { a0 with at_ := (IntKind.i64.wrap (a0.at_ + a1)) }.b (IntKind.i64.wrap ({ a0 with at_ := (IntKind.i64.wrap (a0.at_ + a1)) }.at_ - a1)) { a0 with at_ := (IntKind.i64.wrap (a0.at_ + a1)) }.at_).bind fun l78u =>
  (app ([] : List Int) l78u).bind fun l82u =>
  (some (l82u, { a0 with at_ := (IntKind.i64.wrap (a0.at_ + a1)) }))
  )
  )
noncomputable def ref01uIn_Num_b1 (r1u : ((List Int) × ref01uIn)) : (Int × Int) → Option ((Int × Int) ⊕ (Int × ref01uIn)) := fun s_ => match s_ with
  | (x21u, x23u) =>
  (bif (decide (x23u < (r1u.1.length : Int))) then
  (ix r1u.1 x23u).bind fun x31u =>
  (some (.inl ((IntKind.u64.wrap ((IntKind.u64.wrap (x21u * 256)) + (IntKind.u64.wrap x31u))), (IntKind.i64.wrap (x23u + 1)))))
  else
  ((
  (some (x21u, r1u.2))
  ).map .inr)
  )
noncomputable def ref01uIn_Num (a0 : ref01uIn) (a1 : Int) : Option (Int × ref01uIn) :=
  (ref01uIn_Raw a0 a1).bind fun r1u =>
  (loop (ref01uIn_Num_b1 r1u) (0, 0))
noncomputable def ref01uIn_Many_j1 (x19u : ref01uIn) : Option (Int × ref01uIn) :=
  (some (0, x19u))
noncomputable def ref01uIn_Many (a0 : ref01uIn) (a1 : Int) : Option (Int × ref01uIn) :=
  (ref01uIn_Num a0 1).bind fun r1u =>
  (bif (decide (a1 < (IntKind.i64.wrap r1u.1))) then
  (bif (decide (r1u.2.bad = 0)) then
  (ref01uIn_Many_j1 { r1u.2 with bad := 8 })
  else
  (ref01uIn_Many_j1 r1u.2)
  )
  else
  (some ((IntKind.i64.wrap r1u.1), r1u.2))
  )
noncomputable def ref01uIn_Sum_b1 (r15u : ((List Int) × ref01uIn)) : (Int × (List Int)) → Option ((Int × (List Int)) ⊕ ((List Int) × ref01uIn)) := fun s_ => match s_ with
  | (x36u, x52u) =>
  (bif (decide (x36u < (r15u.1.length : Int))) then
  (ix r15u.1 x36u).bind fun x55u =>
  (ix x52u x36u).bind fun x63u =>
  (some (.inl ((IntKind.i64.wrap (x36u + 1)), (upd x52u x36u x55u))))
  else
  ((
  (some (x52u, r15u.2))
  ).map .inr)
  )
noncomputable def ref01uIn_Sum (a0 : ref01uIn) : Option ((List Int) × ref01uIn) :=
  (ref01uIn_Raw a0 32).bind fun r15u =>
  (loop (ref01uIn_Sum_b1 r15u) (0, (List.replicate 32 0)))
noncomputable def ref13uTakeCond_j1 (r15u : (Int × ref01uIn)) (r35u : (Int × ref01uIn)) (r55u : (Int × ref01uIn)) (r75u : ((List Int) × ref01uIn)) (r97u : (Int × ref01uIn)) (x125u : ref01uIn) : Option (ref10uCond × ref01uIn) :=
  (some (({ id := r15u.1, by_ := (IntKind.i64.wrap r35u.1), amount := r55u.1, hash := r75u.1, expiry := r97u.1 } : ref10uCond), x125u))
noncomputable def ref13uTakeCond (a0 : ref01uIn) : Option (ref10uCond × ref01uIn) :=
  (ref01uIn_Num a0 8).bind fun r15u =>
  (ref01uIn_Num r15u.2 1).bind fun r35u =>
  (ref01uIn_Num r35u.2 8).bind fun r55u =>
  (ref01uIn_Sum r55u.2).bind fun r75u =>
  (ref01uIn_Num r75u.2 8).bind fun r97u =>
  (bif (decide (1 < (IntKind.i64.wrap r35u.1))) then
  (bif (decide (r97u.2.bad = 0)) then
  (ref13uTakeCond_j1 r15u r35u r55u r75u r97u { r97u.2 with bad := 10 })
  else
  (ref13uTakeCond_j1 r15u r35u r55u r75u r97u r97u.2)
  )
  else
  (ref13uTakeCond_j1 r15u r35u r55u r75u r97u r97u.2)
  )
noncomputable def ref13uTakeOp (a0 : ref01uIn) : Option (ref12uOp × ref01uIn) :=
  (ref01uIn_Num a0 1).bind fun r15u =>
  (ref01uIn_Num r15u.2 8).bind fun r35u =>
  (ref01uIn_Num r35u.2 8).bind fun r55u =>
  (ref13uTakeCond r55u.2).bind fun r75u =>
  (bif (decide (r75u.2.bad ≠ 0)) then
  (some (({ kind := 0, amount := 0, cond := ref10uCond.zero, id := 0 } : ref12uOp), r75u.2))
  else
  (some (({ kind := (IntKind.i64.wrap r15u.1), amount := r35u.1, cond := r75u.1, id := r55u.1 } : ref12uOp), r75u.2))
  )
noncomputable def ref18uTakeTrail_b1 (r1u : (Int × ref01uIn)) : ((List ref18uHop) × Int × ref01uIn) → Option (((List ref18uHop) × Int × ref01uIn) ⊕ ((List ref18uHop) × ref01uIn)) := fun s_ => match s_ with
  | (x20u, x25u, x31u) =>
  (bif (decide (x25u < r1u.1)) then
  (ref01uIn_Num x31u 4).bind fun r41u =>
  (ref01uIn_Num r41u.2 8).bind fun r61u =>
  (ref01uIn_Num r61u.2 8).bind fun r81u =>
  (app x20u ([({ channel := (IntKind.u32.wrap r41u.1), amount := r61u.1, id := r81u.1 } : ref18uHop)] : List ref18uHop)).bind fun l107u =>
  (some (.inl (l107u, (IntKind.i64.wrap (x25u + 1)), r81u.2)))
  else
  ((
  (bif (decide (x31u.bad ≠ 0)) then
  (some ([], x31u))
  else
  (some (x20u, x31u))
  )
  ).map .inr)
  )
noncomputable def ref18uTakeTrail (a0 : ref01uIn) : Option ((List ref18uHop) × ref01uIn) :=
  (ref01uIn_Many a0 7).bind fun r1u =>
  (loop (ref18uTakeTrail_b1 r1u) ([], 0, r1u.2))
noncomputable def ref01uIn_Left (a0 : ref01uIn) : Option Int :=
  (bif (decide (a0.bad ≠ 0)) then
  (some 0)
  else
  (some (IntKind.i64.wrap ((a0.b.length : Int) - a0.at_)))
  )
noncomputable def ref01uIn_End_j1 (x8u : ref01uIn) : Option (Int × ref01uIn) :=
  (some (x8u.bad, x8u))
noncomputable def ref01uIn_End (a0 : ref01uIn) : Option (Int × ref01uIn) :=
  (ref01uIn_Left a0).bind fun r9u =>
  (bif (decide (0 < r9u)) then
  (ref01uIn_End_j1 { a0 with bad := 10 })
  else
  (ref01uIn_End_j1 a0)
  )
noncomputable def ref20uLoad_b1 (r9u : (Int × ref01uIn)) : ((List ref20uWish) × Int × ref01uIn) → Option (((List ref20uWish) × Int × ref01uIn) ⊕ ((List ref20uWish) × Int)) := fun s_ => match s_ with
  | (x28u, x33u, x39u) =>
  (bif (decide (x33u < r9u.1)) then
  (ref13uTakeOp x39u).bind fun r42u =>
  (ref18uTakeTrail r42u.2).bind fun r73u =>
  (app x28u ([({ op := r42u.1, trail := r73u.1 } : ref20uWish)] : List ref20uWish)).bind fun l93u =>
  (some (.inl (l93u, (IntKind.i64.wrap (x33u + 1)), r73u.2)))
  else
  ((
  (ref01uIn_End x39u).bind fun r169u =>
  (bif (decide (r169u.1 ≠ 0)) then
  (some ([], r169u.1))
  else
  (some (x28u, 0))
  )
  ).map .inr)
  )
noncomputable def ref20uLoad (a0 : (List Int)) : Option ((List ref20uWish) × Int) :=
  (ref01uIn_Many ({ b := a0, at_ := 0, bad := 0 } : ref01uIn) 255).bind fun r9u =>
  (loop (ref20uLoad_b1 r9u) ([], 0, r9u.2))
noncomputable def ref20uAlike_j1 (x12u : Int) : Option (Int ⊕ Bool) :=
  (some (.inl (IntKind.i64.wrap (x12u + 1))))
noncomputable def ref20uAlike_b2 (a0 : (List ref20uWish)) (a1 : (List ref20uWish)) (x12u : Int) : Int → Option (Int ⊕ (Int ⊕ Bool)) := fun s_ => match s_ with
  | x360u =>
  (ix a0 x12u).bind fun x362u =>
  (bif (decide (x360u < (x362u.trail.length : Int))) then
  (ix a0 x12u).bind fun x372u =>
  (ix x372u.trail x360u).bind fun x381u =>
  (ix a1 x12u).bind fun x390u =>
  (ix x390u.trail x360u).bind fun x399u =>
  (bif (decide (x381u ≠ x399u)) then
  ((
  ((
  (some false)
  ).map .inr)
  ).map .inr)
  else
  (some (.inl (IntKind.i64.wrap (x360u + 1))))
  )
  else
  ((
  (ref20uAlike_j1 x12u)
  ).map .inr)
  )
noncomputable def ref20uAlike_b1 (a0 : (List ref20uWish)) (a1 : (List ref20uWish)) : Int → Option (Int ⊕ Bool) := fun s_ => match s_ with
  | x12u =>
  (bif (decide (x12u < (a0.length : Int))) then
  (ix a0 x12u).bind fun x23u =>
  (ix a1 x12u).bind fun x32u =>
  (bif (decide (x23u.op ≠ x32u.op)) then
  ((
  (some false)
  ).map .inr)
  else
  (ix a0 x12u).bind fun x150u =>
  (ix a1 x12u).bind fun x159u =>
  (bif (decide ((x150u.trail.length : Int) ≠ (x159u.trail.length : Int))) then
  ((
  (some false)
  ).map .inr)
  else
  (loop (ref20uAlike_b2 a0 a1 x12u) 0)
  )
  )
  else
  ((
  (some true)
  ).map .inr)
  )
noncomputable def ref20uAlike (a0 : (List ref20uWish)) (a1 : (List ref20uWish)) : Option Bool :=
  (bif (decide ((a0.length : Int) ≠ (a1.length : Int))) then
  (some false)
  else
  (loop (ref20uAlike_b1 a0 a1) 0)
  )
noncomputable def law10uFrom (a0 : api_Cond) : Option ref10uCond :=
  (some ({ id := a0.id, by_ := a0.by_, amount := a0.amount, hash := a0.hash, expiry := a0.expiry } : ref10uCond))
noncomputable def law04uFrom_b1  : (Int × lamp_Sig × ref04uSig × ref04uSig) → Option ((Int × lamp_Sig × ref04uSig × ref04uSig) ⊕ ref04uSig) := fun s_ => match s_ with
  | (x29u, x35u, x41u, x47u) =>
  (bif (decide (x29u < 32)) then
  (ix x35u.open_ x29u).bind fun x50u =>
  (ix x35u.other x29u).bind fun x55u =>
  (ix x47u.open_ x29u).bind fun x60u =>
  (ix { x47u with open_ := (upd x47u.open_ x29u x50u) }.other x29u).bind fun x72u =>
  (some (.inl ((IntKind.i64.wrap (x29u + 1)), x35u, x41u, { { x47u with open_ := (upd x47u.open_ x29u x50u) } with other := (upd { x47u with open_ := (upd x47u.open_ x29u x50u) }.other x29u x55u) })))
  else
  ((
  (some x47u)
  ).map .inr)
  )
noncomputable def law04uFrom (a0 : lamp_Sig) : Option ref04uSig :=
  (loop (law04uFrom_b1) (0, a0, ref04uSig.zero, ref04uSig.zero))
noncomputable def law05uFrom_b1 (a0 : ring_Sig) (r16u : ref04uSig) : (Int × (List (List Int))) → Option ((Int × (List (List Int))) ⊕ ref05uSig) := fun s_ => match s_ with
  | (x129u, x144u) =>
  (bif (decide (x129u < (a0.way.length : Int))) then
  (ix a0.way x129u).bind fun x147u =>
  (app x144u ([x147u] : List (List Int))).bind fun l178u =>
  (some (.inl ((IntKind.i64.wrap (x129u + 1)), l178u)))
  else
  ((
  (some ({ s := r16u, key := a0.key, way := x144u } : ref05uSig))
  ).map .inr)
  )
noncomputable def law05uFrom (a0 : ring_Sig) : Option ref05uSig :=
  (law04uFrom a0.sig).bind fun r16u =>
  (loop (law05uFrom_b1 a0 r16u) (0, ([] : List (List Int))))
noncomputable def law18uFrom_b1 (a0 : memo_Memo) (r16u : ref10uCond) (r28u : ref05uSig) : (Int × (List ref18uHop)) → Option ((Int × (List ref18uHop)) ⊕ ref18uMemo) := fun s_ => match s_ with
  | (x223u, x238u) =>
  (bif (decide (x223u < (a0.trail.length : Int))) then
  (ix a0.trail x223u).bind fun x241u =>
  (app x238u ([({ channel := x241u.channel, amount := x241u.amount, id := x241u.id } : ref18uHop)] : List ref18uHop)).bind fun l272u =>
  (some (.inl ((IntKind.i64.wrap (x223u + 1)), l272u)))
  else
  ((
  (some ({ kind := a0.kind, channel := a0.channel, round := a0.round, op := ({ kind := a0.op.kind, amount := a0.op.amount, cond := r16u, id := a0.op.id } : ref12uOp), trail := x238u, sig := r28u } : ref18uMemo))
  ).map .inr)
  )
noncomputable def law18uFrom (a0 : memo_Memo) : Option ref18uMemo :=
  (law10uFrom a0.op.cond).bind fun r16u =>
  (law05uFrom a0.sig).bind fun r28u =>
  (loop (law18uFrom_b1 a0 r16u r28u) (0, ([] : List ref18uHop)))
noncomputable def law20uFrom_b1 (a0 : (List clerk_Wish)) : ((List ref20uWish) × Int) → Option (((List ref20uWish) × Int) ⊕ (List ref20uWish)) := fun s_ => match s_ with
  | (x8u, x16u) =>
  (bif (decide (x16u < (a0.length : Int))) then
  (ix a0 x16u).bind fun x19u =>
  (law18uFrom ({ kind := 0, channel := 0, round := 0, op := x19u.op, trail := x19u.trail, sig := ring_Sig.zero } : memo_Memo)).bind fun r50u =>
  (app x8u ([({ op := r50u.op, trail := r50u.trail } : ref20uWish)] : List ref20uWish)).bind fun l84u =>
  (some (.inl (l84u, (IntKind.i64.wrap (x16u + 1)))))
  else
  ((
  (some x8u)
  ).map .inr)
  )
noncomputable def law20uFrom (a0 : (List clerk_Wish)) : Option (List ref20uWish) :=
  (loop (law20uFrom_b1 a0) ([], 0))
noncomputable def ref20uSame (a0 : ref12uOp) (a1 : ref12uOp) : Option Bool :=
  (bif (decide (a0.kind = 3)) then
  (bif (decide (a1.kind = 3)) then
  (some (decide (a0.id = a1.id)))
  else
  (bif (decide (a1.kind = 4)) then
  (some (decide (a0.id = a1.id)))
  else
  (some (decide (a0 = a1)))
  )
  )
  else
  (bif (decide (a0.kind = 4)) then
  (bif (decide (a1.kind = 3)) then
  (some (decide (a0.id = a1.id)))
  else
  (bif (decide (a1.kind = 4)) then
  (some (decide (a0.id = a1.id)))
  else
  (some (decide (a0 = a1)))
  )
  )
  else
  (some (decide (a0 = a1)))
  )
  )
noncomputable def ref20uAdd_b1 (a0 : (List ref20uWish)) (l11u : (List ref20uWish)) : (Int × ref20uWish) → Option ((Int × ref20uWish) ⊕ (List ref20uWish)) := fun s_ => match s_ with
  | (x29u, x35u) =>
  (bif (decide (x29u < (a0.length : Int))) then
  (ix a0 x29u).bind fun x38u =>
  (ref20uSame x38u.op x35u.op).bind fun r49u =>
  (bif r49u then
  ((
  (some l11u)
  ).map .inr)
  else
  (some (.inl ((IntKind.i64.wrap (x29u + 1)), x35u)))
  )
  else
  ((
  (app l11u ([x35u] : List ref20uWish)).bind fun l130u =>
  (some l130u)
  ).map .inr)
  )
noncomputable def ref20uAdd (a0 : (List ref20uWish)) (a1 : ref20uWish) : Option (List ref20uWish) :=
  (app ([] : List ref20uWish) a0).bind fun l11u =>
  (loop (ref20uAdd_b1 a0 l11u) (0, a1))
noncomputable def octet_Out_One (a0 : (List Int)) (a1 : (List Int)) : Option (List Int) :=
  (app a0 a1).bind fun l1u =>
  (some l1u)
noncomputable def octet_Out_num_b1 (a1 : Int) : ((List Int) × Int) → Option (((List Int) × Int) ⊕ (List Int)) := fun s_ => match s_ with
  | (x7u, x12u) =>
  (bif (decide (0 ≤ x12u)) then
  (bif (decide (0 ≤ (IntKind.i64.wrap (8 * x12u)))) then
  (app x7u ([(IntKind.u8.wrap (Tl.shr .u64 a1 (IntKind.i64.wrap (8 * x12u))))] : List Int)).bind fun l20u =>
  (some (.inl (l20u, (IntKind.i64.wrap (x12u - 1)))))
  else none)
  else
  ((
  (some x7u)
  ).map .inr)
  )
noncomputable def octet_Out_num (a0 : (List Int)) (a1 : Int) (a2 : Int) : Option (List Int) :=
  (loop (octet_Out_num_b1 a1) (a0, (IntKind.i64.wrap (a2 - 1))))
noncomputable def octet_Out_Four_b1 (a1 : (List Int)) : ((List Int) × Int) → Option (((List Int) × Int) ⊕ (List Int)) := fun s_ => match s_ with
  | (x7u, x15u) =>
  (bif (decide (x15u < (a1.length : Int))) then
  (ix a1 x15u).bind fun x18u =>
  (octet_Out_num x7u (IntKind.u64.wrap x18u) 4).bind fun r25u =>
  (some (.inl (r25u, (IntKind.i64.wrap (x15u + 1)))))
  else
  ((
  (some x7u)
  ).map .inr)
  )
noncomputable def octet_Out_Four (a0 : (List Int)) (a1 : (List Int)) : Option (List Int) :=
  (loop (octet_Out_Four_b1 a1) (a0, 0))
noncomputable def octet_Out_Eight_b1 (a1 : (List Int)) : ((List Int) × Int) → Option (((List Int) × Int) ⊕ (List Int)) := fun s_ => match s_ with
  | (x7u, x15u) =>
  (bif (decide (x15u < (a1.length : Int))) then
  (ix a1 x15u).bind fun x18u =>
  (octet_Out_num x7u x18u 8).bind fun r25u =>
  (some (.inl (r25u, (IntKind.i64.wrap (x15u + 1)))))
  else
  ((
  (some x7u)
  ).map .inr)
  )
noncomputable def octet_Out_Eight (a0 : (List Int)) (a1 : (List Int)) : Option (List Int) :=
  (loop (octet_Out_Eight_b1 a1) (a0, 0))
noncomputable def memo_LayTrail_b1 (a1 : (List memo_Hop)) : ((List Int) × Int) → Option (((List Int) × Int) ⊕ (List Int)) := fun s_ => match s_ with
  | (x17u, x25u) =>
  (bif (decide (x25u < (a1.length : Int))) then
  (ix a1 x25u).bind fun x28u =>
  (octet_Out_Four x17u ([x28u.channel] : List Int)).bind fun r57u =>
  (octet_Out_Eight r57u ([x28u.amount, x28u.id] : List Int)).bind fun r67u =>
  (some (.inl (r67u, (IntKind.i64.wrap (x25u + 1)))))
  else
  ((
  (some x17u)
  ).map .inr)
  )
noncomputable def memo_LayTrail (a0 : (List Int)) (a1 : (List memo_Hop)) : Option (List Int) :=
  (octet_Out_One a0 ([(IntKind.u8.wrap (a1.length : Int))] : List Int)).bind fun r5u =>
  (loop (memo_LayTrail_b1 a1) (r5u, 0))
noncomputable def octet_Out_Sum_b1 (a1 : (List (List Int))) : ((List Int) × Int) → Option (((List Int) × Int) ⊕ (List Int)) := fun s_ => match s_ with
  | (x7u, x15u) =>
  (bif (decide (x15u < (a1.length : Int))) then
  (ix a1 x15u).bind fun x18u =>
  (app x7u x18u).bind fun l43u =>
  (some (.inl (l43u, (IntKind.i64.wrap (x15u + 1)))))
  else
  ((
  (some x7u)
  ).map .inr)
  )
noncomputable def octet_Out_Sum (a0 : (List Int)) (a1 : (List (List Int))) : Option (List Int) :=
  (loop (octet_Out_Sum_b1 a1) (a0, 0))
noncomputable def deed_layCond (a0 : (List Int)) (a1 : api_Cond) : Option (List Int) :=
  (octet_Out_Eight a0 ([a1.id] : List Int)).bind fun r11u =>
  (octet_Out_One r11u ([(IntKind.u8.wrap a1.by_)] : List Int)).bind fun r21u =>
  (octet_Out_Eight r21u ([a1.amount] : List Int)).bind fun r31u =>
  (octet_Out_Sum r31u ([a1.hash] : List (List Int))).bind fun r43u =>
  (octet_Out_Eight r43u ([a1.expiry] : List Int)).bind fun r53u =>
  (some r53u)
noncomputable def deed_LayOp (a0 : (List Int)) (a1 : pact_Op) : Option (List Int) :=
  (octet_Out_One a0 ([(IntKind.u8.wrap a1.kind)] : List Int)).bind fun r11u =>
  (octet_Out_Eight r11u ([a1.amount, a1.id] : List Int)).bind fun r21u =>
  (deed_layCond r21u a1.cond).bind fun r29u =>
  (some r29u)
noncomputable def clerk_Save_b1 (l1u : (List clerk_Wish)) : ((List Int) × Int) → Option (((List Int) × Int) ⊕ (List Int)) := fun s_ => match s_ with
  | (x25u, x33u) =>
  (bif (decide (x33u < (l1u.length : Int))) then
  (ix l1u x33u).bind fun x36u =>
  (deed_LayOp x25u x36u.op).bind fun r63u =>
  (memo_LayTrail r63u x36u.trail).bind fun r71u =>
  (some (.inl (r71u, (IntKind.i64.wrap (x33u + 1)))))
  else
  ((
  (some x25u)
  ).map .inr)
  )
noncomputable def clerk_Save (a0 : (List clerk_Wish)) : Option (List Int) :=
  (slc a0 0 (mn (a0.length : Int) 255)).bind fun l1u =>
  (octet_Out_One ([] : List Int) ([(IntKind.u8.wrap (l1u.length : Int))] : List Int)).bind fun r13u =>
  (loop (clerk_Save_b1 l1u) (r13u, 0))
noncomputable def ref01uNum_b1 (a0 : (List Int)) : (Int × (List Int) × Int) → Option ((Int × (List Int) × Int) ⊕ (List Int)) := fun s_ => match s_ with
  | (x20u, x22u, x26u) =>
  (bif (decide (0 ≤ x26u)) then
  (ix x22u x26u).bind fun x29u =>
  (some (.inl ((IntKind.u64.wrap (Int.tdiv x20u 256)), (upd x22u x26u (IntKind.u8.wrap (Int.tmod x20u 256))), (IntKind.i64.wrap (x26u - 1)))))
  else
  ((
  (app ([] : List Int) a0).bind fun l53u =>
  (app l53u x22u).bind fun l59u =>
  (some l59u)
  ).map .inr)
  )
noncomputable def ref01uNum (a0 : (List Int)) (a1 : Int) (a2 : Int) : Option (List Int) :=
  (mk a2 (0 : Int)).bind fun l1u =>
  (loop (ref01uNum_b1 a0) (a1, l1u, (IntKind.i64.wrap (a2 - 1))))
noncomputable def ref18uTrail_b1 (a1 : (List ref18uHop)) : ((List Int) × Int) → Option (((List Int) × Int) ⊕ (List Int)) := fun s_ => match s_ with
  | (x27u, x34u) =>
  (bif (decide (x34u < (a1.length : Int))) then
  (ix a1 x34u).bind fun x37u =>
  (ref01uNum x27u (IntKind.u64.wrap x37u.channel) 4).bind fun r44u =>
  (ix a1 x34u).bind fun x50u =>
  (ref01uNum r44u x50u.amount 8).bind fun r57u =>
  (ix a1 x34u).bind fun x63u =>
  (ref01uNum r57u x63u.id 8).bind fun r70u =>
  (some (.inl (r70u, (IntKind.i64.wrap (x34u + 1)))))
  else
  ((
  (some x27u)
  ).map .inr)
  )
noncomputable def ref18uTrail (a0 : (List Int)) (a1 : (List ref18uHop)) : Option (List Int) :=
  (app ([] : List Int) a0).bind fun l5u =>
  (app l5u ([(IntKind.u8.wrap (a1.length : Int))] : List Int)).bind fun l15u =>
  (loop (ref18uTrail_b1 a1) (l15u, 0))
noncomputable def ref13uCond (a0 : (List Int)) (a1 : ref10uCond) : Option (List Int) :=
  (ref01uNum a0 a1.id 8).bind fun r7u =>
  (app r7u ([(IntKind.u8.wrap a1.by_)] : List Int)).bind fun l17u =>
  (ref01uNum l17u a1.amount 8).bind fun r81u =>
  (app r81u a1.hash).bind fun l87u =>
  (ref01uNum l87u a1.expiry 8).bind fun r146u =>
  (some r146u)
noncomputable def ref13uOp (a0 : (List Int)) (a1 : ref12uOp) : Option (List Int) :=
  (app ([] : List Int) a0).bind fun l11u =>
  (app l11u ([(IntKind.u8.wrap a1.kind)] : List Int)).bind fun l21u =>
  (ref01uNum l21u a1.amount 8).bind fun r82u =>
  (ref01uNum r82u a1.id 8).bind fun r88u =>
  (ref13uCond r88u a1.cond).bind fun r96u =>
  (some r96u)
noncomputable def ref20uSave_b1 (x3u : (List ref20uWish)) : ((List Int) × Int) → Option (((List Int) × Int) ⊕ (List Int)) := fun s_ => match s_ with
  | (x19u, x23u) =>
  (bif (decide (x23u < (x3u.length : Int))) then
  (ix x3u x23u).bind fun x26u =>
  (ref13uOp x19u x26u.op).bind fun r35u =>
  (ix x3u x23u).bind fun x41u =>
  (ref18uTrail r35u x41u.trail).bind fun r50u =>
  (some (.inl (r50u, (IntKind.i64.wrap (x23u + 1)))))
  else
  ((
  (some x19u)
  ).map .inr)
  )
noncomputable def ref20uSave_j1 (x3u : (List ref20uWish)) : Option (List Int) :=
  (loop (ref20uSave_b1 x3u) (([(IntKind.u8.wrap (x3u.length : Int))] : List Int), 0))
noncomputable def ref20uSave (a0 : (List ref20uWish)) : Option (List Int) :=
  (bif (decide (255 < (a0.length : Int))) then
  (slc a0 0 255).bind fun l158u =>
  (ref20uSave_j1 l158u)
  else
  (ref20uSave_j1 a0)
  )
noncomputable def law20uClerkLists_b2 (a0 : (List ref20uWish)) : (Int × ref20uWish × clerk_Wish) → Option ((Int × ref20uWish × clerk_Wish) ⊕ Bool) := fun s_ => match s_ with
  | (x1327u, x1333u, x1339u) =>
  (bif (decide (x1327u < (a0.length : Int))) then
  (ix a0 x1327u).bind fun x1342u =>
  (law12uOp x1342u.op).bind fun r1371u =>
  (clerk_Wish_Same x1339u r1371u).bind fun r1379u =>
  (ref20uSame x1333u.op x1342u.op).bind fun r1389u =>
  (bif (r1379u != r1389u) then
  ((
  (some false)
  ).map .inr)
  else
  (some (.inl ((IntKind.i64.wrap (x1327u + 1)), x1333u, x1339u)))
  )
  else
  ((
  (law20uawake).bind fun r1483u =>
  (some r1483u)
  ).map .inr)
  )
noncomputable def law20uClerkLists_b1 (a0 : (List ref20uWish)) (a1 : ref20uWish) (a2 : (List Int)) : Int → Option (Int ⊕ Bool) := fun s_ => match s_ with
  | x45u =>
  (bif (decide (x45u < (a0.length : Int))) then
  (ix a0 x45u).bind fun x53u =>
  (bif (decide (60 < (x53u.trail.length : Int))) then
  (law20uawake).bind fun r81u =>
  ((
  (some r81u)
  ).map .inr)
  else
  (some (.inl (IntKind.i64.wrap (x45u + 1))))
  )
  else
  ((
  (law20uWishes ([a1] : List ref20uWish)).bind fun r93u =>
  (ix r93u 0).bind fun x99u =>
  (clerk_Load a2).bind fun r125u =>
  (ref20uLoad a2).bind fun r135u =>
  (law20uWishes a0).bind fun r145u =>
  (clerk_Add r145u x99u).bind fun r156u =>
  (law20uFrom r156u).bind fun r162u =>
  (ref20uAdd a0 a1).bind fun r170u =>
  (ref20uAlike r162u r170u).bind fun r176u =>
  (bif (!r176u) then
  (some false)
  else
  (law20uWishes a0).bind fun r341u =>
  (clerk_Save r341u).bind fun r347u =>
  (ref20uSave a0).bind fun r353u =>
  (bif (decide ((strOfNums r347u) ≠ (strOfNums r353u))) then
  (some false)
  else
  (bif (decide (r125u.2 ≠ r135u.2)) then
  (some false)
  else
  (law20uFrom r125u.1).bind fun r759u =>
  (ref20uAlike r759u r135u.1).bind fun r765u =>
  (bif (!r765u) then
  (some false)
  else
  (clerk_Wish_Twin x99u).bind fun r1002u =>
  (law20uFrom ([r1002u] : List clerk_Wish)).bind fun r1014u =>
  (ref20uAlike r1014u ([a1] : List ref20uWish)).bind fun r1026u =>
  (bif (!r1026u) then
  (some false)
  else
  (loop (law20uClerkLists_b2 a0) (0, a1, x99u))
  )
  )
  )
  )
  )
  ).map .inr)
  )
noncomputable def law20uClerkLists (a0 : (List ref20uWish)) (a1 : ref20uWish) (a2 : (List Int)) : Option Bool :=
  (bif (decide (300 < (a0.length : Int))) then
  (law20uawake).bind fun r8u =>
  (some r8u)
  else
  (bif (decide (20000 < (a2.length : Int))) then
  (law20uawake).bind fun r15u =>
  (some r15u)
  else
  (bif (decide (60 < (a1.trail.length : Int))) then
  (law20uawake).bind fun r24u =>
  (some r24u)
  else
  (loop (law20uClerkLists_b1 a0 a1 a2) 0)
  )
  )
  )
end Go.Tl
