/- ClerkLists: the pure law: wishes off bytes. -/
import Derived.Test.YtdbfbeckhccchaaRPv
namespace Go.Tl
open Go
set_option linter.unusedVariables false
set_option linter.unusedSimpArgs false
theorem loop_two {S T R R' : Type} {b : S → Option (S ⊕ R)} {c : T → Option (T ⊕ R')} (I : S → T → Prop) (m : S → Nat) (Q : R → R' → Prop)
    (h : ∀ s t, I s t → (∃ r r', b s = some (.inr r) ∧ c t = some (.inr r') ∧ Q r r') ∨ (∃ s' t', b s = some (.inl s') ∧ c t = some (.inl t') ∧ I s' t' ∧ m s' < m s)) : ∀ s t, I s t → ∃ r r', loop b s = some r ∧ loop c t = some r' ∧ Q r r' := by
  have key : ∀ n s t, m s ≤ n → I s t → ∃ r r', loop b s = some r ∧ loop c t = some r' ∧ Q r r' := by
    intro n
    induction n with
    | zero =>
      intro s t hs hI
      rcases h s t hI with ⟨r, r', h1, h2, hq⟩ | ⟨s', t', _, _, _, hm⟩
      · exact ⟨r, r', loop_end h1, loop_end h2, hq⟩
      · omega
    | succ n ih =>
      intro s t hs hI
      rcases h s t hI with ⟨r, r', h1, h2, hq⟩ | ⟨s', t', h1, h2, hI', hm⟩
      · exact ⟨r, r', loop_end h1, loop_end h2, hq⟩
      · rw [loop_go h1, loop_go h2]; exact ih s' t' (by omega) hI'
  exact fun s t => key (m s) s t (Nat.le_refl _)
/-! ### The two readers -/
structure RelI (p : octet_In) (q : ref01uIn) : Prop where
  bad : p.bad = q.bad
  a0 : 0 ≤ q.at_
  a1 : q.at_ ≤ q.b.length
  lf : q.bad = 0 → p.left = q.b.drop q.at_.toNat
  er : q.bad ≠ 0 → p.left = []
  bl : q.b.length ≤ 20000
  bt : ∀ v ∈ q.b, 0 ≤ v ∧ v < 256
theorem fail {p : octet_In} {q : ref01uIn} (R : RelI p q) (e : Int) (he : e ≠ 0) : ∃ p', octet_In_Fail p e = some p' ∧ RelI p' (bif decide (q.bad = 0) then { q with bad := e } else q) := by
  unfold octet_In_Fail
  rw [R.bad]
  by_cases h : q.bad = 0
  · rw [decide_eq_true h, bif_true, bif_true, decide_eq_true he, bif_true]
    exact ⟨_, rfl, rfl, R.a0, R.a1, fun h => absurd h he, fun _ => rfl, R.bl, R.bt⟩
  · rw [decide_eq_false h, bif_false, bif_false]
    exact ⟨_, rfl, R⟩
theorem cutRel {p : octet_In} {q : ref01uIn} (k : Nat) (hk : k ≤ 64) (R : RelI p q) : ∃ l p' q', octet_In_cut p k = some (l, p') ∧ ref01uIn_Raw q k = some (l, q') ∧ RelI p' q' ∧ (l = [] ∨ l.length = k) ∧ ∀ v ∈ l, 0 ≤ v ∧ v < 256 := by
  have ha0 := R.a0
  have ha1 := R.a1
  have hbl := R.bl
  unfold octet_In_cut ref01uIn_Raw octet_In_Bad
  rw [Option.bind_some, R.bad]
  by_cases h : q.bad = 0
  · have hl := R.lf h
    obtain ⟨a, ha⟩ := Int.eq_ofNat_of_zero_le ha0
    have hlen : p.left.length = q.b.length - a := by rw [hl, ha]; simp
    rw [show decide (q.bad ≠ 0) = false by simp [h], bif_false, bif_false, wrap_i64 (n := (q.b.length : Int) - q.at_) (by omega) (by omega)]
    by_cases hs : (q.b.length : Int) - q.at_ < k
    · rw [dlt_t hs, bif_true, dlt_t (by omega), bif_true]
      obtain ⟨p', h1, h2⟩ := fail R 9 (by decide)
      rw [h1, Option.bind_some]
      rw [decide_eq_true h, bif_true] at h2
      exact ⟨[], p', _, rfl, rfl, h2, .inl rfl, fun v hv => by cases hv⟩
    · rw [dlt_f hs, bif_false, dlt_f (by omega), bif_false]
      rw [wrap_i64 (n := q.at_ + (k : Int)) (by omega) (by omega), wrap_i64 (n := q.at_ + (k : Int) - k) (by omega) (by omega)]
      have e1 : slc p.left 0 (k : Int) = some (p.left.take k) := slc_take _ k (by omega)
      have e2 : slc p.left (k : Int) (p.left.length : Int) = some (p.left.drop k) := by
        unfold slc; rw [if_pos ⟨by omega, by omega, by omega⟩]; simp
      have e3 : slc q.b (q.at_ + (k : Int) - k) (q.at_ + (k : Int)) = some (p.left.take k) := by
        unfold slc; rw [if_pos ⟨by omega, by omega, by omega⟩, hl, ha]
        congr 1
        have t1 : ((a : Int) + (k : Int)).toNat = a + k := by omega
        have t2 : ((a : Int) + (k : Int) - k).toNat = a := by omega
        have t3 : ((a : Int)).toNat = a := by omega
        rw [t1, t2, t3, List.drop_take]; congr 1; omega
      rw [e1, Option.bind_some, e2, Option.bind_some, e3, Option.bind_some, app_ok (by simp; omega), Option.bind_some]
      refine ⟨_, _, _, rfl, rfl, ⟨rfl, by show 0 ≤ q.at_ + (k : Int); omega, by show q.at_ + (k : Int) ≤ (q.b.length : Int); omega, fun _ => ?_, fun h' => absurd h h', hbl, R.bt⟩, .inr ?_, fun v hv => ?_⟩
      · show p.left.drop k = q.b.drop (q.at_ + (k : Int)).toNat
        rw [hl, List.drop_drop, ha]; congr 1
      · rw [List.length_take]; omega
      · have := List.mem_of_mem_take (show v ∈ p.left.take k from hv)
        rw [hl] at this
        exact R.bt v (List.mem_of_mem_drop this)
  · rw [show decide (q.bad ≠ 0) = true by simp [h], bif_true, bif_true]
    exact ⟨[], p, q, rfl, rfl, R, .inl rfl, fun v hv => by cases hv⟩
theorem bor8 (x b : Int) (hx0 : 0 ≤ x) (hx1 : x < 72057594037927936) (hb0 : 0 ≤ b) (hb1 : b < 256) : bor .u64 (shl .u64 x 8) (IntKind.u64.wrap b) = x * 256 + b := by
  obtain ⟨x, rfl⟩ := Int.eq_ofNat_of_zero_le hx0
  obtain ⟨b, rfl⟩ := Int.eq_ofNat_of_zero_le hb0
  have e1 : shl .u64 (x : Int) 8 = ((256 * x : Nat) : Int) := by
    unfold shl
    rw [show min (8 : Int).toNat IntKind.u64.bits = 8 from rfl, u64w]; omega
  have e2 : IntKind.u64.wrap (b : Int) = (b : Int) := by rw [u64w]; omega
  rw [e1, e2]
  unfold bor
  have t : ∀ n : Nat, n < 18446744073709551616 → (BitVec.ofInt IntKind.u64.bits (n : Int)).toNat = n := fun n hn => by
    rw [BitVec.toNat_ofInt]
    show (((n : Int)) % ((2 ^ 64 : Nat) : Int)).toNat = n
    rw [show ((2 ^ 64 : Nat) : Int) = 18446744073709551616 by decide]; omega
  rw [BitVec.toNat_or, t _ (by omega), t _ (by omega)]
  have := Nat.two_pow_add_eq_or_of_lt (b := b) (i := 8) (by omega) x
  rw [show (256 * x ||| b) = 256 * x + b by rw [← this], u64w]
  omega
theorem pow256 (i : Nat) (h : i < 8) : (256 : Int) ^ i ≤ 72057594037927936 := by
  have : i = 0 ∨ i = 1 ∨ i = 2 ∨ i = 3 ∨ i = 4 ∨ i = 5 ∨ i = 6 ∨ i = 7 := by omega
  rcases this with rfl | rfl | rfl | rfl | rfl | rfl | rfl | rfl <;> decide
theorem numRel {p : octet_In} {q : ref01uIn} (k : Nat) (hk : k ≤ 8) (R : RelI p q) : ∃ v p' q', octet_In_num p k = some (v, p') ∧ ref01uIn_Num q k = some (v, q') ∧ RelI p' q' ∧ 0 ≤ v ∧ v < 256 ^ k := by
  obtain ⟨l, p', q', h1, h2, R', hl, hb⟩ := cutRel k (by omega) R
  unfold octet_In_num ref01uIn_Num
  rw [h1, h2, Option.bind_some, Option.bind_some]
  have hlk : l.length ≤ k := by
    rcases hl with rfl | h
    · exact Nat.zero_le _
    · omega
  have step : ∀ i (h : i < l.length) (x : Int), (0 ≤ x ∧ x < 256 ^ i) → (0 ≤ x * 256 + l[i] ∧ x * 256 + l[i] < 256 ^ (i + 1)) := fun i h x hx => by
    have := hb _ (List.getElem_mem h)
    rw [Int.pow_succ]
    omega
  have f1 := loop_fold (b := octet_In_num_b1 (l, p')) l (fun i x => (x, (i : Int))) (fun x b => x * 256 + b) (fun i x => 0 ≤ x ∧ x < 256 ^ i) (fun x => some (x, p'))
    (fun i hi x hx => by
      have hp := pow256 i (by omega)
      have hby := hb _ (List.getElem_mem hi)
      simp only [octet_In_num_b1]
      rw [dlt_t (by omega), bif_true, ix_nat hi, Option.bind_some, bor8 _ _ hx.1 (by omega) hby.1 hby.2, wrap_s (by omega)]
      exact ⟨rfl, step i hi x hx⟩)
    (fun x hx => by simp only [octet_In_num_b1]; rw [dlt_f (by omega)]; rfl) 0 ⟨by decide, by decide⟩
  have f2 := loop_fold (b := ref01uIn_Num_b1 (l, q')) l (fun i x => (x, (i : Int))) (fun x b => x * 256 + b) (fun i x => 0 ≤ x ∧ x < 256 ^ i) (fun x => some (x, q'))
    (fun i hi x hx => by
      have hp := pow256 i (by omega)
      have hby := hb _ (List.getElem_mem hi)
      simp only [ref01uIn_Num_b1]
      rw [dlt_t (by omega), bif_true, ix_nat hi, Option.bind_some, u64w, u64w, u64w, wrap_s (by omega)]
      refine ⟨?_, step i hi x hx⟩
      congr 3; omega)
    (fun x hx => by simp only [ref01uIn_Num_b1]; rw [dlt_f (by omega)]; rfl) 0 ⟨by decide, by decide⟩
  have inv : ∀ (xs : List Int) (x : Int) (j : Nat), (∀ v ∈ xs, 0 ≤ v ∧ v < 256) → 0 ≤ x ∧ x < 256 ^ j → 0 ≤ xs.foldl (fun x b => x * 256 + b) x ∧ xs.foldl (fun x b => x * 256 + b) x < 256 ^ (j + xs.length) := by
    intro xs
    induction xs with
    | nil => intro x j _ h; exact h
    | cons b xs ih =>
      intro x j hb h
      have := hb b (by simp)
      have h2 := ih (x * 256 + b) (j + 1) (fun v hv => hb v (by simp [hv])) (by rw [Int.pow_succ]; omega)
      rw [List.foldl_cons, List.length_cons, show j + (xs.length + 1) = j + 1 + xs.length by omega]
      exact h2
  have hv := inv l 0 0 hb ⟨by decide, by decide⟩
  refine ⟨_, p', q', f1, f2, R', hv.1, ?_⟩
  rcases hl with rfl | h
  · exact Int.lt_of_lt_of_le hv.2 (by
      show (256 : Int) ^ (0 + 0) ≤ 256 ^ k
      have : (0 : Int) < 256 ^ k := Int.pow_pos (by decide)
      simp; omega)
  · have := hv.2; rw [h, Nat.zero_add] at this; exact this
theorem sumRel {p : octet_In} {q : ref01uIn} (R : RelI p q) : ∃ d p' q', octet_In_Sum p = some (d, p') ∧ ref01uIn_Sum q = some (d, q') ∧ RelI p' q' := by
  obtain ⟨l, p', q', h1, h2, R', hl, hb⟩ := cutRel 32 (by omega) R
  unfold octet_In_Sum ref01uIn_Sum
  rw [show (32 : Int) = ((32 : Nat) : Int) from rfl, h1, h2, Option.bind_some, Option.bind_some]
  have hl32 : l.length ≤ 32 := by
    rcases hl with rfl | h
    · exact Nat.zero_le _
    · omega
  obtain ⟨r, hr, rfl⟩ := loop_tot (b := ref01uIn_Sum_b1 (l, q')) (fun (i, d) => ∃ n : Nat, i = n ∧ n ≤ l.length ∧ d = l.take n ++ (List.replicate 32 0).drop n) (fun (i, _) => (32 - i).toNat) (fun r => r = (cpy (List.replicate 32 0) l, q')) (by
    rintro ⟨_, _⟩ ⟨n, rfl, hn, rfl⟩
    simp only [ref01uIn_Sum_b1]
    by_cases hi : n < l.length
    · right
      have hlen : (l.take n ++ (List.replicate 32 (0 : Int)).drop n).length = 32 := by simp; omega
      rw [dlt_t (by omega), bif_true, ix_nat hi, Option.bind_some, ix_nat (by omega), Option.bind_some, wrap_s (by omega), upd_nat]
      refine ⟨_, rfl, ⟨n + 1, rfl, by omega, ?_⟩, by simp only; omega⟩
      rw [List.set_append, if_neg (by simp; omega)]
      rw [show n - (l.take n).length = 0 by simp; omega]
      rw [List.drop_eq_getElem_cons (i := n) (by simp; omega), List.set_cons_zero, List.take_succ_eq_append_getElem hi, List.append_assoc]
      rfl
    · left
      have : n = l.length := by omega
      subst this
      rw [dlt_f (by omega)]
      refine ⟨_, rfl, ?_⟩
      rw [List.take_length]; unfold cpy
      rw [List.take_of_length_le (by simp; omega)]) (0, List.replicate 32 0) ⟨0, rfl, by omega, by simp⟩
  exact ⟨_, p', q', rfl, hr, R'⟩
theorem oneRel {p : octet_In} {q : ref01uIn} (R : RelI p q) : ∃ v p' q', octet_In_One p = some (v, p') ∧ ref01uIn_Num q 1 = some (v, q') ∧ RelI p' q' ∧ 0 ≤ v ∧ v < 256 := by
  obtain ⟨v, p', q', h1, h2, R', h3, h4⟩ := numRel 1 (by omega) R
  rw [Int.pow_one] at h4
  refine ⟨v, p', q', ?_, h2, R', h3, h4⟩
  unfold octet_In_One
  rw [show (1 : Int) = ((1 : Nat) : Int) from rfl, h1, Option.bind_some]
  show some (IntKind.u8.wrap v, p') = _
  rw [u8w, Int.emod_eq_of_lt h3 h4]
theorem fourRel {p : octet_In} {q : ref01uIn} (R : RelI p q) : ∃ v p' q', octet_In_Four p = some (v, p') ∧ ref01uIn_Num q 4 = some (v, q') ∧ RelI p' q' ∧ IntKind.u32.wrap v = v := by
  obtain ⟨v, p', q', h1, h2, R', h3, h4⟩ := numRel 4 (by omega) R
  have h4 : v < 4294967296 := h4
  have e : IntKind.u32.wrap v = v := by rw [u32w, Int.emod_eq_of_lt h3 h4]
  refine ⟨v, p', q', ?_, h2, R', e⟩
  unfold octet_In_Four
  rw [show (4 : Int) = ((4 : Nat) : Int) from rfl, h1, Option.bind_some]
  show some (IntKind.u32.wrap v, p') = _
  rw [e]
theorem eightRel {p : octet_In} {q : ref01uIn} (R : RelI p q) : ∃ v p' q', octet_In_Eight p = some (v, p') ∧ ref01uIn_Num q 8 = some (v, q') ∧ RelI p' q' := by
  obtain ⟨v, p', q', h1, h2, R', _, _⟩ := numRel 8 (by omega) R
  refine ⟨v, p', q', ?_, h2, R'⟩
  unfold octet_In_Eight
  rw [show (8 : Int) = ((8 : Nat) : Int) from rfl, h1, Option.bind_some]
theorem manyRel {p : octet_In} {q : ref01uIn} (m : Int) (hm : 0 ≤ m) (R : RelI p q) : ∃ n p' q', octet_In_Many p m = some (n, p') ∧ ref01uIn_Many q m = some (n, q') ∧ RelI p' q' ∧ n ≤ m ∧ n < 256 := by
  obtain ⟨v, p', q', h1, h2, R', h3, h4⟩ := oneRel R
  unfold octet_In_Many ref01uIn_Many
  rw [h1, h2, Option.bind_some, Option.bind_some]
  simp only
  rw [wrap_i64 (n := v) (by omega) (by omega)]
  by_cases h : m < v
  · rw [dlt_t h, bif_true, bif_true]
    obtain ⟨p2, h5, R2⟩ := fail R' 8 (by decide)
    rw [h5, Option.bind_some]
    refine ⟨0, p2, _, rfl, ?_, R2, hm, by omega⟩
    cases hd : decide (q'.bad = 0) <;> rfl
  · rw [dlt_f h, bif_false, bif_false]
    exact ⟨v, p', q', rfl, rfl, R', by omega, h4⟩
theorem condRel {p : octet_In} {q : ref01uIn} (R : RelI p q) : ∃ c p' q', deed_takeCond p = some (cnd c, p') ∧ ref13uTakeCond q = some (c, q') ∧ RelI p' q' := by
  obtain ⟨v1, p1, q1, a1, b1, R1⟩ := eightRel R
  obtain ⟨v2, p2, q2, a2, b2, R2, h2, h2'⟩ := oneRel R1
  obtain ⟨v3, p3, q3, a3, b3, R3⟩ := eightRel R2
  obtain ⟨v4, p4, q4, a4, b4, R4⟩ := sumRel R3
  obtain ⟨v5, p5, q5, a5, b5, R5⟩ := eightRel R4
  unfold deed_takeCond ref13uTakeCond
  rw [a1, b1, Option.bind_some, Option.bind_some]; simp only
  rw [a2, b2, Option.bind_some, Option.bind_some]; simp only
  rw [a3, b3, Option.bind_some, Option.bind_some]; simp only
  rw [a4, b4, Option.bind_some, Option.bind_some]; simp only
  rw [a5, b5, Option.bind_some, Option.bind_some]; simp only
  by_cases h : (1 : Int) < IntKind.i64.wrap v2
  · rw [dlt_t h, bif_true, bif_true]
    obtain ⟨p6, h6, R6⟩ := fail R5 10 (by decide)
    rw [h6, Option.bind_some]
    refine ⟨⟨v1, IntKind.i64.wrap v2, v3, v4, v5⟩, p6, _, rfl, ?_, R6⟩
    cases hd : decide (q5.bad = 0) <;> rfl
  · rw [dlt_f h, bif_false, bif_false]
    exact ⟨⟨v1, IntKind.i64.wrap v2, v3, v4, v5⟩, p5, q5, rfl, rfl, R5⟩
theorem opRel {p : octet_In} {q : ref01uIn} (R : RelI p q) : ∃ o p' q', deed_TakeOp p = some (opc o, p') ∧ ref13uTakeOp q = some (o, q') ∧ RelI p' q' := by
  obtain ⟨v1, p1, q1, a1, b1, R1, _⟩ := oneRel R
  obtain ⟨v2, p2, q2, a2, b2, R2⟩ := eightRel R1
  obtain ⟨v3, p3, q3, a3, b3, R3⟩ := eightRel R2
  obtain ⟨v4, p4, q4, a4, b4, R4⟩ := condRel R3
  unfold deed_TakeOp ref13uTakeOp octet_In_Bad
  rw [a1, b1, Option.bind_some, Option.bind_some]; simp only
  rw [a2, b2, Option.bind_some, Option.bind_some]; simp only
  rw [a3, b3, Option.bind_some, Option.bind_some]; simp only
  rw [a4, b4, Option.bind_some, Option.bind_some, Option.bind_some]; simp only
  rw [R4.bad]
  cases decide (q4.bad ≠ 0) with
  | true => exact ⟨ref12uOp.zero, p4, q4, rfl, rfl, R4⟩
  | false => exact ⟨⟨IntKind.i64.wrap v1, v2, v4, v3⟩, p4, q4, rfl, rfl, R4⟩
theorem trailRel {p : octet_In} {q : ref01uIn} (R : RelI p q) : ∃ l p' q', memo_TakeTrail p = some (l.map hopc, p') ∧ ref18uTakeTrail q = some (l, q') ∧ RelI p' q' ∧ l.length ≤ 7 := by
  obtain ⟨n, p1, q1, a1, b1, R1, hn, _⟩ := manyRel 7 (by decide) R
  unfold memo_TakeTrail ref18uTakeTrail
  rw [a1, b1, Option.bind_some, Option.bind_some]
  obtain ⟨r, r', h1, h2, l, p', q', rfl, rfl, R', hl⟩ := loop_two (b := memo_TakeTrail_b1 (n, p1)) (c := ref18uTakeTrail_b1 (n, q1))
    (fun (l, i, p) (l', i', q) => l = l'.map hopc ∧ i = i' ∧ RelI p q ∧ i = (l'.length : Int) ∧ l'.length ≤ 7) (fun (_, i, _) => (n - i).toNat) (fun r r' => ∃ l p' q', r = (l.map hopc, p') ∧ r' = (l, q') ∧ RelI p' q' ∧ l.length ≤ 7) (by
    rintro ⟨_, _, p⟩ ⟨l, _, q⟩ ⟨rfl, rfl, R, rfl, hl⟩
    simp only [memo_TakeTrail_b1, ref18uTakeTrail_b1]
    by_cases hi : (l.length : Int) < n
    · right
      obtain ⟨v1, p1, q1, a1, b1, R1, hw⟩ := fourRel R
      obtain ⟨v2, p2, q2, a2, b2, R2⟩ := eightRel R1
      obtain ⟨v3, p3, q3, a3, b3, R3⟩ := eightRel R2
      rw [dlt_t hi, bif_true, bif_true]
      rw [a1, b1, Option.bind_some, Option.bind_some]; simp only
      rw [a2, b2, Option.bind_some, Option.bind_some]; simp only
      rw [a3, b3, Option.bind_some, Option.bind_some]; simp only
      rw [hw, app_ok (by simp; omega), app_ok (by simp; omega), Option.bind_some, Option.bind_some, wrap_s (by omega)]
      refine ⟨_, _, rfl, rfl, ⟨?_, rfl, R3, by simp, by simp; omega⟩, by simp only; omega⟩
      simp [hopc]
    · left
      unfold octet_In_Bad
      rw [dlt_f hi, bif_false, bif_false, Option.bind_some, R.bad]
      cases decide (q.bad ≠ 0) with
      | true => exact ⟨_, _, rfl, rfl, [], p, q, rfl, rfl, R, by simp⟩
      | false => exact ⟨_, _, rfl, rfl, l, p, q, rfl, rfl, R, hl⟩) ([], 0, p1) ([], 0, q1) ⟨rfl, rfl, R1, rfl, by simp⟩
  exact ⟨l, p', q', h1, h2, R', hl⟩
theorem endRel {p : octet_In} {q : ref01uIn} (R : RelI p q) : ∃ e p' q', octet_In_End p = some (e, p') ∧ ref01uIn_End q = some (e, q') := by
  have ha0 := R.a0
  have ha1 := R.a1
  have hbl := R.bl
  unfold octet_In_End ref01uIn_End octet_In_Left ref01uIn_Left
  rw [Option.bind_some]
  by_cases h : q.bad = 0
  · have hl := R.lf h
    have hlen : (p.left.length : Int) = (q.b.length : Int) - q.at_ := by rw [hl, List.length_drop]; omega
    rw [show decide (q.bad ≠ 0) = false by simp [h], bif_false, Option.bind_some, wrap_i64 (n := (q.b.length : Int) - q.at_) (by omega) (by omega), hlen]
    cases decide (0 < (q.b.length : Int) - q.at_) with
    | true =>
      obtain ⟨p', h1, R'⟩ := fail R 10 (by decide)
      rw [decide_eq_true h, bif_true] at R'
      rw [bif_true, bif_true, h1, Option.bind_some]
      refine ⟨10, p', _, ?_, rfl⟩
      show some (p'.bad, p') = _
      rw [R'.bad]
    | false =>
      refine ⟨p.bad, p, q, rfl, ?_⟩
      show some (q.bad, q) = _
      rw [R.bad]
  · have hl := R.er h
    rw [show decide (q.bad ≠ 0) = true by simp [h], bif_true, Option.bind_some, hl]
    refine ⟨p.bad, p, q, rfl, ?_⟩
    show some (q.bad, q) = _
    rw [R.bad]
theorem load (b : List Int) (hb : b.length ≤ 20000) (hv : ∀ v ∈ b, 0 ≤ v ∧ v < 256) : ∃ l e, clerk_Load b = some (l.map wsh, e) ∧ ref20uLoad b = some (l, e) ∧ Sm l := by
  have R : RelI { left := b, bad := 0 } { b := b, at_ := 0, bad := 0 } := ⟨rfl, Int.le_refl 0, by simp, fun _ => by simp, fun h => absurd rfl h, hb, hv⟩
  obtain ⟨n, p1, q1, a1, b1, R1, hn, _⟩ := manyRel 255 (by decide) R
  unfold clerk_Load ref20uLoad octet_Of
  rw [app_ok (by simp; omega), Option.bind_some, List.nil_append, Option.bind_some, a1, b1, Option.bind_some, Option.bind_some]
  obtain ⟨r, r', h1, h2, l, e, rfl, rfl, hl⟩ := loop_two (b := clerk_Load_b1 (n, p1)) (c := ref20uLoad_b1 (n, q1))
    (fun (l, i, p) (l', i', q) => l = l'.map wsh ∧ i = i' ∧ RelI p q ∧ i = (l'.length : Int) ∧ l'.length ≤ 255 ∧ ∀ w ∈ l', w.trail.length ≤ 1000) (fun (_, i, _) => (n - i).toNat) (fun r r' => ∃ l e, r = (l.map wsh, e) ∧ r' = (l, e) ∧ Sm l) (by
    rintro ⟨_, _, p⟩ ⟨l, _, q⟩ ⟨rfl, rfl, R, rfl, hl, ht⟩
    simp only [clerk_Load_b1, ref20uLoad_b1]
    by_cases hi : (l.length : Int) < n
    · right
      obtain ⟨o, p1, q1, a1, b1, R1⟩ := opRel R
      obtain ⟨t, p2, q2, a2, b2, R2, htl⟩ := trailRel R1
      rw [dlt_t hi, bif_true, bif_true]
      rw [a1, b1, Option.bind_some, Option.bind_some]; simp only
      rw [a2, b2, Option.bind_some, Option.bind_some]; simp only
      rw [app_ok (by simp; omega), app_ok (by simp; omega), Option.bind_some, Option.bind_some, wrap_s (by omega)]
      refine ⟨_, _, rfl, rfl, ⟨?_, rfl, R2, by simp, by simp; omega, ?_⟩, by simp only; omega⟩
      · simp [wsh]
      · intro w hw
        rcases List.mem_append.1 hw with h | h
        · exact ht w h
        · simp at h; subst h; show t.length ≤ 1000; omega
    · left
      obtain ⟨e, p', q', h1, h2⟩ := endRel R
      rw [dlt_f hi, bif_false, bif_false, h1, h2, Option.bind_some, Option.bind_some]
      simp only
      cases decide (e ≠ 0) with
      | true => exact ⟨_, _, rfl, rfl, [], e, rfl, rfl, by simp, fun w hw => by cases hw⟩
      | false => exact ⟨_, _, rfl, rfl, l, 0, rfl, rfl, by omega, ht⟩) ([], 0, p1) ([], 0, q1) ⟨rfl, rfl, R1, rfl, by simp, fun w hw => by cases hw⟩
  exact ⟨l, e, h1, h2, hl⟩
end Go.Tl
