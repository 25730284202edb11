/- Each Go function does what its pure function says. Written by a program of mine. -/
import Derived.Test.YtdbfbeckhccchaaRWv1
import Derived.Test.YtdbfbeckhccchaaRFn
namespace Go.Tl
open Go
set_option linter.unusedVariables false
set_option linter.unusedSimpArgs false
set_option maxRecDepth 100000
set_option maxHeartbeats 0
theorem ref01uIn_Left_ok {g0 : GW} {Z : Nat → Prop} (hZ : ∀ c, Z c → c = 0 ∨ 4100 ≤ c) (z0 : Z 0) (lo : Lo Z g0)  {a0 : ref01uIn} {La0 : List Value} {ba0 i0 : Nat} (hba0 : Blk g0 ba0 i0 94 La0) (hla0 : La0.length = k_ref01uIn.sz) (ma0 : At k_ref01uIn g0 0 a0 La0 0) (hi0 : 4100 ≤ i0) (zi0 : Z i0) {r : Int} (hF0 : ref01uIn_Left a0 = some r) :
    Calls P 50 [.pointer (some ⟨ba0, 0, none⟩)].toArray g0.w (Rets (RR (no) Z g0 (PEq (.int .i64 r)))) := by
  refine calls_of Go.Proofs.Try.func50 rfl (Nat.le_of_ble_eq_true rfl) (by kernel_rfl) ?_
  have I : Inv (or_ (no) (iv 4000 4100)) (or_ Z (iv 4000 4100)) g0 g0 := Inv.start (lo.mono (fun _ h => .inl h))
  have fz : ¬ iv 4000 4100 0 := nz0 rfl
  unfold ref01uIn_Left at hF0
  refine EW.seq ?_
  refine EW.region (by kernel_rfl) ?_
  refine EWL.op rfl ?_
  refine s_as ?_
  refine EW.seq ?_
  refine EW.seq ?_
  refine EW.region (by kernel_rfl) ?_
  refine EWL.op rfl ?_
  refine s_mv ?_
  refine EWL.op rfl ?_
  refine s_nil rfl ?_
  refine EWL.op rfl ?_
  refine s_fa f94u2 rfl ?_
  refine EWL.op rfl ?_
  refine s_ldS t3 rfl (Blk.cells hba0) (At.fld ma0 2 rfl) ?_
  refine EWL.op rfl ?_
  refine s_neq rfl rfl ?_
  refine EW.condS rfl rfl (fun hb1u => ?_) (fun hb1u => ?_)
  · replace hF0 := bif_t hb1u hF0
    refine EW.seq ?_
    refine EW.region (by kernel_rfl) ?_
    refine EWL.op rfl ?_
    refine s_as ?_
    refine EW.ret ?_
    obtain rfl := som hF0
    refine ends1 (.inl rfl)  ?_
    exact ret_ (g := g0) I lo hZ z0 rfl rfl
  · replace hF0 := bif_f hb1u hF0
    refine EW.skip ?_
    refine EW.seq ?_
    refine EW.drawn [] [⟨SF.val 0 (.pointer (some ⟨ba0, 0, none⟩)), none, none⟩, ⟨SF.bx ba0 i0 94 k_ref01uIn rfl a0, none, none⟩, ⟨SF.val 8 (.pointer (some ⟨ba0, 0, none⟩)), some 0, none⟩, ⟨SF.val 9 (.pointer (some ⟨ba0, 0, none⟩)), some 1, none⟩, ⟨SF.val 10 (.pointer (some ⟨ba0, 0 + 0, none⟩)), some 2, none⟩, ⟨SF.sl 11 (kInt .u8) rfl 0 a0.b, some 3, none⟩, ⟨SF.val 12 (.int .i64 (a0.b.length : Int)), some 4, none⟩, ⟨SF.val 13 (.pointer (some ⟨ba0, 0, none⟩)), some 5, none⟩, ⟨SF.val 14 (.pointer (some ⟨ba0, 0, none⟩)), some 6, none⟩, ⟨SF.val 15 (.pointer (some ⟨ba0, 0 + 1, none⟩)), some 7, none⟩, ⟨SF.val 16 (.int .i64 a0.at_), some 8, none⟩, ⟨SF.val 17 (.int .i64 (IntKind.i64.wrap ((a0.b.length : Int) - a0.at_))), some 9, none⟩, ⟨SF.val 2 (.int .i64 (IntKind.i64.wrap ((a0.b.length : Int) - a0.at_))), some 10, none⟩] [] (by kernel_rfl) (by kernel_rfl) (by kernel_rfl) ?_ I ?_ (dcons ?_ (dcons ?_ (dcons ?_ (dcons ?_ (dcons ?_ (dcons ?_ (dcons ?_ (dcons ?_ (dcons ?_ (dcons ?_ (dcons ?_ dnil))))))))))) ?_
    · exact trivial
    · exact (nwc (pf_val rfl) (nwc (pf_bx rfl hba0 hla0 ma0) nwn))
    · intro ρ g I av
      have hr10u := av 0 _ rfl (by kernel_rfl)
      refine ddo (up1 rfl hr10u) rfl ?_
      refine s_mv ?_
      exact ⟨_, rfl, (Stp.refl _ _), I, (nwc (pf_val rfl) nwn)⟩
    · intro ρ g I av
      have hr12u := av 2 _ rfl (by kernel_rfl)
      refine ddo (up1 rfl hr12u) rfl ?_
      refine s_nil rfl ?_
      exact ⟨_, rfl, (Stp.refl _ _), I, (nwc (pf_val rfl) nwn)⟩
    · intro ρ g I av
      have hr14u := av 3 _ rfl (by kernel_rfl)
      refine ddo (up1 rfl hr14u) rfl ?_
      refine s_fa f94u0 rfl ?_
      exact ⟨_, rfl, (Stp.refl _ _), I, (nwc (pf_val rfl) nwn)⟩
    · intro ρ g I av
      obtain ⟨L16u, hb17u, hl18u, ha19u⟩ := av 1 _ rfl (by kernel_rfl)
      have hr20u := av 4 _ rfl (by kernel_rfl)
      refine ddo (up1 rfl hr20u) rfl ?_
      refine s_ldSl t32 rfl (Blk.cells hb17u) (At.fld ha19u 0 rfl) fun v22u m23u => ?_
      exact ⟨_, rfl, (Stp.refl _ _), I, (nwc (pf_sl rfl rfl m23u) nwn)⟩
    · intro ρ g I av
      obtain ⟨v26u, hr24u, m25u⟩ := av 5 _ rfl (by kernel_rfl)
      refine ddo (up1 rfl hr24u) rfl ?_
      refine s_lenR (kd := (kInt .u8)) (xs := a0.b) s32 rfl (Sl.rs m25u) ?_
      exact ⟨_, rfl, (Stp.refl _ _), I, (nwc (pf_val rfl) nwn)⟩
    · intro ρ g I av
      have hr27u := av 0 _ rfl (by kernel_rfl)
      refine ddo (up1 rfl hr27u) rfl ?_
      refine s_mv ?_
      exact ⟨_, rfl, (Stp.refl _ _), I, (nwc (pf_val rfl) nwn)⟩
    · intro ρ g I av
      have hr29u := av 7 _ rfl (by kernel_rfl)
      refine ddo (up1 rfl hr29u) rfl ?_
      refine s_nil rfl ?_
      exact ⟨_, rfl, (Stp.refl _ _), I, (nwc (pf_val rfl) nwn)⟩
    · intro ρ g I av
      have hr31u := av 8 _ rfl (by kernel_rfl)
      refine ddo (up1 rfl hr31u) rfl ?_
      refine s_fa f94u1 rfl ?_
      exact ⟨_, rfl, (Stp.refl _ _), I, (nwc (pf_val rfl) nwn)⟩
    · intro ρ g I av
      obtain ⟨L33u, hb34u, hl35u, ha36u⟩ := av 1 _ rfl (by kernel_rfl)
      have hr37u := av 9 _ rfl (by kernel_rfl)
      refine ddo (up1 rfl hr37u) rfl ?_
      refine s_ldS t3 rfl (Blk.cells hb34u) (At.fld ha36u 1 rfl) ?_
      exact ⟨_, rfl, (Stp.refl _ _), I, (nwc (pf_val rfl) nwn)⟩
    · intro ρ g I av
      have hr39u := av 6 _ rfl (by kernel_rfl)
      have hr41u := av 10 _ rfl (by kernel_rfl)
      refine ddo (up1 (up1 rfl hr39u) hr41u) rfl ?_
      refine s_sub rfl rfl ?_
      exact ⟨_, rfl, (Stp.refl _ _), I, (nwc (pf_val rfl) nwn)⟩
    · intro ρ g I av
      have hr43u := av 11 _ rfl (by kernel_rfl)
      refine ddo (up1 rfl hr43u) rfl ?_
      refine s_as ?_
      exact ⟨_, rfl, (Stp.refl _ _), I, (nwc (pf_val rfl) nwn)⟩
    · intro ρ g I av
      obtain ⟨L4u, hb5u, hl6u, ha7u⟩ := av 1 _ rfl rfl
      have hr8u := av 12 _ rfl rfl
      refine ⟨_, (up1 rfl hr8u), ?_⟩
      refine EW.ret ?_
      obtain rfl := som hF0
      refine ends1 (.inl rfl)  ?_
      exact ret_ (g := g) I lo hZ z0 rfl rfl
theorem ref01uIn_End_ok {g0 : GW} {Z : Nat → Prop} (hZ : ∀ c, Z c → c = 0 ∨ 4200 ≤ c) (z0 : Z 0) (lo : Lo Z g0)  {a0 : ref01uIn} {La0 : List Value} {ba0 i0 : Nat} (hba0 : Blk g0 ba0 i0 94 La0) (hla0 : La0.length = k_ref01uIn.sz) (ma0 : At k_ref01uIn g0 0 a0 La0 0) (hi0 : 4200 ≤ i0) (zi0 : Z i0) {r : (Int × ref01uIn)} (hF0 : ref01uIn_End a0 = some r) :
    Calls P 28 [.pointer (some ⟨ba0, 0, none⟩)].toArray g0.w (Rets (RR (at_ i0) Z g0 (PAnd (PEq (.int .i64 r.1)) (fun h => Ob0 94 k_ref01uIn h i0 ba0 r.2)))) := by
  refine calls_of Go.Proofs.Try.func28 rfl (Nat.le_of_ble_eq_true rfl) (by kernel_rfl) ?_
  have I : Inv (or_ (at_ i0) (iv 4100 4200)) (or_ Z (iv 4100 4200)) g0 g0 := Inv.start (lo.mono (fun _ h => .inl h))
  have fz : ¬ iv 4100 4200 0 := nz0 rfl
  unfold ref01uIn_End at hF0
  refine EW.seq ?_
  refine EW.region (by kernel_rfl) ?_
  refine EWL.op rfl ?_
  refine s_as ?_
  refine EW.seqJ (fun ρ w => ∃ (g1u : GW) (L4u : List Value) (x8u : ref01uIn), w = g1u.w ∧ Inv (or_ (at_ i0) (iv 4100 4200)) (or_ Z (iv 4100 4200)) g0 g1u ∧ ref01uIn_End_j1 x8u = some r ∧ ρ 0 = .pointer (some ⟨ba0, 0, none⟩) ∧ Blk g1u ba0 i0 94 L4u ∧ L4u.length = 3 ∧ At k_ref01uIn g1u 0 x8u L4u 0) ?_ ?_
  · rintro ρ w ⟨g1u, L4u, x8u, rfl, I, hF0, hr2u, hb5u, hl7u, ha6u⟩
    refine EW.re (up1 rfl hr2u) ?_
    unfold ref01uIn_End_j1 at hF0
    refine EW.seq ?_
    refine EW.region (by kernel_rfl) ?_
    refine EWL.op rfl ?_
    refine s_mv ?_
    refine EWL.op rfl ?_
    refine s_nil rfl ?_
    refine EWL.op rfl ?_
    refine s_fa f94u2 rfl ?_
    refine EWL.op rfl ?_
    refine s_ldS t3 rfl (Blk.cells hb5u) (At.fld ha6u 2 rfl) ?_
    refine EWL.op rfl ?_
    refine s_as ?_
    refine EW.ret ?_
    obtain rfl := som hF0
    refine ends1 (.inl rfl)  ?_
    exact ret_ (g := g1u) I lo hZ z0 rfl (And.intro rfl ⟨_, Blk.up (Stp.rc g1u 4100 4200 0) (iv_o hi0) hb5u, hl7u, At.up ha6u (Stp.rc g1u 4100 4200 0) fz nc0⟩)
  · refine EW.seq ?_
    refine EW.region (by kernel_rfl) ?_
    refine EWL.op rfl ?_
    refine s_mv ?_
    refine EWL.op rfl ?_
    obtain ⟨r9u, h10u, hF0⟩ := bnd hF0
    refine s_cf I k50 rfl (ref01uIn_Left_ok (zle hZ rfl rfl) (.inl z0) I.l hba0 hla0 ma0 (le_b rfl hi0) (.inl zi0) h10u) no_any fun g13u v11u s14u I p12u => ?_
    obtain rfl := p12u
    refine EWL.op rfl ?_
    refine s_gtr rfl rfl ?_
    refine EW.condS rfl rfl (fun hb15u => ?_) (fun hb15u => ?_)
    · replace hF0 := bif_t hb15u hF0
      refine EW.region (by kernel_rfl) ?_
      refine EWL.op rfl ?_
      refine s_mv ?_
      refine EWL.op rfl ?_
      refine s_nil rfl ?_
      refine EWL.op rfl ?_
      refine s_fa f94u2 rfl ?_
      refine EWL.opn rfl ?_
      have m16u : (kInt .i64).M g13u 0 10 _ := rfl
      refine s_stK (kd := (kInt .i64)) I t3 rfl rfl m16u rfl (Blk.up s14u no_ hba0) (ble_ hla0 rfl) (ne_od hi0 rfl) nc0 (.inl rfl) fun g17u L19u s18u I hb20u hu21u hn22u => ?_
      have ha23u := (At.setF (At.up (At.up ma0 s14u no_ nc0) s18u (Ne.symm (ne_od hi0 rfl)) nc0) 2 rfl (S94u2 _ _) hu21u (by decide) (by decide) hn22u)
      have hl24u := hu21u.1.trans hla0
      exact ⟨g17u, _, { a0 with bad := 10 }, rfl, I, hF0, rfl, hb20u, hl24u, ha23u⟩
    · replace hF0 := bif_f hb15u hF0
      refine EW.skip ?_
      exact ⟨g13u, _, a0, rfl, I, hF0, rfl, (Blk.up s14u no_ hba0), hla0, (At.up ma0 s14u no_ nc0)⟩
theorem ref20uLoad_ok {g0 : GW} {Z : Nat → Prop} (hZ : ∀ c, Z c → c = 0 ∨ 4300 ≤ c) (z0 : Z 0) (lo : Lo Z g0) (rc0 : Nat) (zrc0 : Z rc0) {a0 : (List Int)} {va0 : Value} (ma0 : Sl (kInt .u8) g0 0 a0 va0) {r : ((List ref20uWish) × Int)} (hF0 : ref20uLoad a0 = some r) :
    Calls P 7 [va0].toArray g0.w (Rets (RR (no) Z g0 ((PTup [(fun h v => Row 31 k_ref20uWish h rc0 r.1 v), PEq (.int .i64 r.2)])))) := by
  refine calls_of Go.Proofs.Try.func7 rfl (Nat.le_of_ble_eq_true rfl) (by kernel_rfl) ?_
  have I : Inv (or_ (no) (iv 4200 4300)) (or_ Z (iv 4200 4300)) g0 g0 := Inv.start (lo.mono (fun _ h => .inl h))
  have fz : ¬ iv 4200 4300 0 := nz0 rfl
  unfold ref20uLoad at hF0
  refine EW.seq ?_
  refine EW.region (by kernel_rfl) ?_
  refine EWL.op rfl ?_
  refine s_as ?_
  refine EWL.op rfl ?_
  refine s_as ?_
  refine EW.seq ?_
  refine EW.region (by kernel_rfl) ?_
  refine EWL.op rfl ?_
  refine s_mv ?_
  refine EWL.op rfl ?_
  refine s_bldK (kd := k_ref01uIn) (r := ({ b := a0, at_ := 0, bad := 0 } : ref01uIn)) (g := g0) zs94 Z94 l94 P94 (And.intro (congrArg some (kl (d := (kSl (kInt .u8) rfl)) (Sl.kdv rfl ma0)).symm) (trivial)) (SM.flat (fs := fs_ref01uIn) tl_ref01uIn (allc (Sl.kdv rfl ma0) (allc rfl (allc rfl alln)))) fun cs1u m2u => ?_
  refine EWL.op rfl ?_
  refine s_boxK (kd := k_ref01uIn) (r := ({ b := a0, at_ := 0, bad := 0 } : ref01uIn)) 4201 I (zpv rfl) m2u rfl rfl fun g7u b3u s8u I hb4u hl6u ha5u => ?_
  refine EWL.op rfl ?_
  refine s_as ?_
  refine EW.seq ?_
  refine EW.region (by kernel_rfl) ?_
  refine EWL.op rfl ?_
  refine s_as ?_
  refine EW.seq ?_
  refine EW.region (by kernel_rfl) ?_
  refine EWL.op rfl ?_
  refine s_mv ?_
  refine EWL.op rfl ?_
  obtain ⟨r9u, h10u, hF0⟩ := bnd hF0
  refine s_cf I k25 rfl (ref01uIn_Many_ok (zle hZ rfl rfl) (.inl z0) I.l hb4u hl6u ha5u (Nat.le_of_ble_eq_true rfl) (zpv rfl) h10u) (at_in (zpv rfl)) fun g13u v11u s14u I p12u => ?_
  obtain ⟨p12u, o15u⟩ := p12u
  obtain ⟨L16u, hb17u, hl18u, ha19u⟩ := o15u
  obtain rfl := p12u
  refine EWL.op rfl ?_
  refine s_as ?_
  refine EW.seq ?_
  refine EW.seq ?_
  refine EW.region (by kernel_rfl) ?_
  refine EWL.op rfl ?_
  refine s_as ?_
  refine EW.block ?_
  refine EW.loop (b := (ref20uLoad_b1 r9u)) (fun (s : ((List ref20uWish) × Int × ref01uIn)) ρ w => ∃ (g25u : GW) (x28u : (List ref20uWish)) (v29u : Value) (x33u : Int) (L35u : List Value) (x39u : ref01uIn), w = g25u.w ∧ Inv (or_ (no) (iv 4200 4300)) (or_ Z (iv 4200 4300)) g0 g25u ∧ (x28u, x33u, x39u) = s ∧ ρ 4 = .pointer (some ⟨b3u, 0, none⟩) ∧ ρ 5 = v29u ∧ Row 31 k_ref20uWish g25u 4205 x28u v29u ∧ ρ 6 = .int .i64 r9u.1 ∧ ρ 7 = .int .i64 x33u ∧ Blk g25u b3u 4201 94 L35u ∧ L35u.length = 3 ∧ At k_ref01uIn g25u 0 x39u L35u 0) hF0 ⟨g13u, [], _, 0, _, r9u.2, rfl, I, rfl, rfl, rfl, Row.none, rfl, rfl, hb17u, hl18u, ha19u⟩ ?_
  · rintro s_ o40u ρ w ⟨g25u, x28u, v29u, x33u, L35u, x39u, rfl, I, eo, hr26u, hr27u, m30u, hr31u, hr32u, hb36u, hl38u, ha37u⟩ hF1 hr1
    subst eo
    unfold ref20uLoad_b1 at hF1
    refine EW.re (up1 (up1 (up1 (up1 rfl hr26u) hr27u) hr31u) hr32u) ?_
    refine EW.seq ?_
    refine EW.seq ?_
    refine EW.region (by kernel_rfl) ?_
    refine EWL.op rfl ?_
    refine s_mv ?_
    refine EWL.op rfl ?_
    refine s_mv ?_
    refine EWL.op rfl ?_
    refine s_lss rfl rfl ?_
    refine EW.condS rfl rfl (fun hb41u => ?_) (fun hb41u => ?_)
    · replace hF1 := bif_t hb41u hF1
      refine EW.skip ?_
      refine EW.seq ?_
      refine EW.block ?_
      refine EW.seq ?_
      refine EW.region (by kernel_rfl) ?_
      refine EWL.op rfl ?_
      refine s_mv ?_
      refine EWL.op rfl ?_
      obtain ⟨r42u, h43u, hF1⟩ := bnd hF1
      refine s_cf I k26 rfl (ref13uTakeOp_ok (zle hZ rfl rfl) (.inl z0) I.l hb36u hl38u ha37u (Nat.le_of_ble_eq_true rfl) (zpv rfl) h43u) (at_in (zpv rfl)) fun g46u v44u s47u I p45u => ?_
      obtain ⟨p45u, o48u⟩ := p45u
      obtain ⟨L49u, hb50u, hl51u, ha52u⟩ := o48u
      obtain ⟨cs53u, rfl, m54u⟩ := p45u
      refine EWL.op rfl ?_
      refine s_newK k_ref12uOp 4202 I (zpv rfl) z28 rfl fun g60u b55u L59u s61u I hb56u hl58u ha57u => ?_
      refine EWL.opn rfl ?_
      have m62u : k_ref12uOp.M g60u 0 r42u.1 _ := (Kd.upK rfl s61u no_ m54u)
      refine s_stK (kd := k_ref12uOp) I t28 rfl rfl m62u rfl hb56u (ble_ hl58u rfl) (by decide) nc0 (zpv rfl) fun g63u L65u s64u I hb66u hu67u hn68u => ?_
      have ha69u := hn68u
      have hl70u := hu67u.1.trans hl58u
      obtain ⟨r73u, h74u, hF1⟩ := bnd hF1
      obtain ⟨l93u, h94u, hF1⟩ := bnd hF1
      refine EW.drawn [(5, 4, 3), (6, 5, 4)] [⟨SF.row 5 31 k_ref20uWish rfl 4205 x28u, none, some 6⟩, ⟨SF.val 8 (.pointer (some ⟨b55u, 0, none⟩)), none, none⟩, ⟨SF.bx b55u 4202 28 k_ref12uOp rfl r42u.1, none, none⟩, ⟨SF.val 4 (.pointer (some ⟨b3u, 0, none⟩)), none, none⟩, ⟨SF.bx b3u 4201 94 k_ref01uIn rfl r42u.2, none, some 3⟩, ⟨SF.val 6 (.int .i64 r9u.1), none, none⟩, ⟨SF.val 7 (.int .i64 x33u), none, none⟩, ⟨SF.row 22 31 k_ref20uWish rfl 4205 x28u, some 0, some 6⟩, ⟨SF.agg 23 k_ref12uOp rfl r42u.1, some 1, none⟩, ⟨SF.val 24 (.pointer (some ⟨b3u, 0, none⟩)), some 2, none⟩, ⟨SF.bx b3u 4201 94 k_ref01uIn rfl r73u.2, some 3, none⟩, ⟨SF.row 25 99 k_ref18uHop rfl 4203 r73u.1, some 3, some 4⟩, ⟨SF.agg 26 k_ref20uWish rfl ({ op := r42u.1, trail := r73u.1 } : ref20uWish), some 4, none⟩, ⟨SF.row 27 31 k_ref20uWish rfl 4204 ([({ op := r42u.1, trail := r73u.1 } : ref20uWish)] : List ref20uWish), some 5, none⟩, ⟨SF.row 28 31 k_ref20uWish rfl 4205 l93u, some 6, none⟩, ⟨SF.row 5 31 k_ref20uWish rfl 4205 l93u, some 7, none⟩] [(3, at_ 4201), (4, at_ 4203), (6, at_ 4205)] (by kernel_rfl) (by kernel_rfl) (by kernel_rfl) ?_ I ?_ (dcons ?_ (dcons ?_ (dcons ?_ (dcons ?_ (dcons ?_ (dcons ?_ (dcons ?_ (dcons ?_ dnil)))))))) ?_
      · exact (And.intro (And.intro (Nat.ne_of_beq_eq_false rfl) (And.intro (And.intro (Nat.ne_of_beq_eq_false rfl) trivial) (And.intro trivial (And.intro (And.intro (Nat.ne_of_beq_eq_false rfl) trivial) (And.intro trivial (And.intro trivial (And.intro trivial (And.intro trivial (And.intro (And.intro (Nat.ne_of_beq_eq_false rfl) trivial) (And.intro trivial (And.intro trivial (And.intro trivial (And.intro trivial (And.intro trivial (And.intro trivial (And.intro trivial (And.intro trivial trivial))))))))))))))))) (And.intro (And.intro (Nat.ne_of_beq_eq_false rfl) (And.intro (And.intro (Nat.ne_of_beq_eq_false rfl) trivial) (And.intro trivial (And.intro (And.intro (Nat.ne_of_beq_eq_false rfl) trivial) (And.intro trivial (And.intro trivial (And.intro trivial (And.intro trivial (And.intro (And.intro (Nat.ne_of_beq_eq_false rfl) trivial) (And.intro trivial (And.intro trivial (And.intro (And.intro (Nat.ne_of_beq_eq_false rfl) trivial) (And.intro trivial (And.intro trivial (And.intro trivial (And.intro trivial (And.intro trivial trivial))))))))))))))))) (And.intro (And.intro (Nat.ne_of_beq_eq_false rfl) (And.intro trivial (And.intro trivial (And.intro (And.intro (Nat.ne_of_beq_eq_false rfl) trivial) (And.intro trivial (And.intro trivial (And.intro trivial (And.intro trivial (And.intro trivial (And.intro trivial (And.intro trivial (And.intro (And.intro (Nat.ne_of_beq_eq_false rfl) trivial) (And.intro trivial (And.intro trivial (And.intro (And.intro (Nat.ne_of_beq_eq_false rfl) trivial) (And.intro trivial (And.intro trivial trivial))))))))))))))))) trivial)))
      · exact (nwc (pf_row rfl rfl (Row.up rfl s64u (Nat.ne_of_beq_eq_false rfl) (Nat.ne_of_beq_eq_false rfl) (Row.up rfl s61u no_ no_ (Row.up rfl s47u (Nat.ne_of_beq_eq_false rfl) (Nat.ne_of_beq_eq_false rfl) m30u)))) (nwc (pf_val rfl) (nwc (pf_bx rfl hb66u hl70u ha69u) (nwc (pf_val rfl) (nwc (pf_bx rfl (Blk.up s64u (Nat.ne_of_beq_eq_false rfl) (Blk.up s61u no_ hb50u)) hl51u (At.up (At.up ha52u s61u no_ nc0) s64u (Nat.ne_of_beq_eq_false rfl) nc0)) (nwc (pf_val rfl) (nwc (pf_val rfl) nwn)))))))
      · intro ρ g I av
        obtain ⟨v114u, hr112u, m113u⟩ := av 0 _ rfl (by kernel_rfl)
        refine ddo (up1 rfl hr112u) rfl ?_
        refine s_mv ?_
        exact ⟨_, rfl, (Stp.refl _ _), I, (nwc (pf_row rfl rfl m113u) nwn)⟩
      · intro ρ g I av
        obtain ⟨L115u, hb116u, hl117u, ha118u⟩ := av 2 _ rfl (by kernel_rfl)
        have hr119u := av 1 _ rfl (by kernel_rfl)
        refine ddo (up1 rfl hr119u) rfl ?_
        refine s_ldK t28 rfl (Blk.cells hb116u) ha118u rfl rfl fun cs121u m122u => ?_
        exact ⟨_, rfl, (Stp.refl _ _), I, (nwc (pf_agg rfl rfl m122u) nwn)⟩
      · intro ρ g I av
        have hr123u := av 3 _ rfl (by kernel_rfl)
        refine ddo (up1 rfl hr123u) rfl ?_
        refine s_mv ?_
        exact ⟨_, rfl, (Stp.refl _ _), I, (nwc (pf_val rfl) nwn)⟩
      · intro ρ g I av
        obtain ⟨L125u, hb126u, hl127u, ha128u⟩ := av 4 _ rfl (by kernel_rfl)
        have hr129u := av 9 _ rfl (by kernel_rfl)
        refine ddo (up1 rfl hr129u) rfl ?_
        refine s_cf I k27 rfl (ref18uTakeTrail_ok (zle hZ rfl rfl) (.inl z0) I.l 4203 (zpv rfl) hb126u hl127u ha128u (Nat.le_of_ble_eq_true rfl) (zpv rfl) h74u) (at_in (zpv rfl)) fun g133u v131u s134u I p132u => ?_
        obtain ⟨p132u, o135u⟩ := p132u
        obtain ⟨L136u, hb137u, hl138u, ha139u⟩ := o135u
        exact ⟨_, rfl, s134u, I, (nwc (pf_bx rfl hb137u hl138u ha139u) (nwc (pf_row rfl rfl p132u) nwn))⟩
      · intro ρ g I av
        obtain ⟨_, hr140u, m141u⟩ := av 8 _ rfl (by kernel_rfl)
        obtain ⟨v144u, hr142u, m143u⟩ := av 11 _ rfl (by kernel_rfl)
        refine ddo (up1 (up1 rfl hr140u) hr142u) rfl ?_
        have m145u := Row.rc rfl (by decide) m143u 0
        have s147u := Stp.rc1 g 4203 0
        replace I := I.to s147u (Lo.rc (d := 0) I.l (.inl z0)) (at_in (zpv rfl))
        obtain ⟨g146u, rc_⟩ : ∃ q, q = g.rc 4203 (4203 + 1) 0 := ⟨_, rfl⟩
        rw [← rc_] at m145u s147u I
        refine stp.wld (w := g146u.w) (by rw [rc_]; rfl) ?_
        clear rc_
        refine s_bldK (kd := k_ref20uWish) (r := ({ op := r42u.1, trail := r73u.1 } : ref20uWish)) (g := g146u) zs31 Z31 l31 P31 (And.intro (congrArg some (kl (d := k_ref12uOp) (Kd.upK rfl s147u (Nat.ne_of_beq_eq_false rfl) m141u)).symm) (And.intro (congrArg some (kl (d := (kSl k_ref18uHop rfl)) (Sl.kdv rfl (Row.sl m145u))).symm) (trivial))) (SM.flat (fs := fs_ref20uWish) tl_ref20uWish (allc (Kd.upK rfl s147u (Nat.ne_of_beq_eq_false rfl) m141u) (allc (Sl.kdv rfl (Row.sl m145u)) alln))) fun cs148u m149u => ?_
        exact ⟨_, rfl, s147u, I, (nwc (pf_agg rfl rfl m149u) nwn)⟩
      · intro ρ g I av
        obtain ⟨_, hr150u, m151u⟩ := av 12 _ rfl (by kernel_rfl)
        refine ddo (up1 rfl hr150u) rfl ?_
        refine s_bslK (kd := k_ref20uWish) (xs := ([({ op := r42u.1, trail := r73u.1 } : ref20uWish)] : List ref20uWish)) 4204 I s22 t31 z31 rfl rfl (by decide) rfl (by decide) (And.intro (congrArg some (kl (d := k_ref20uWish) m151u).symm) (trivial)) (Seg.flat (d := k_ref20uWish) (g := g) (alls m151u alle)) rfl (zpv rfl) fun g154u v152u s155u I m153u => ?_
        exact ⟨_, rfl, s155u, I, (nwc (pf_row rfl rfl m153u) nwn)⟩
      · intro ρ g I av
        obtain ⟨v158u, hr156u, m157u⟩ := av 7 _ rfl (by kernel_rfl)
        obtain ⟨v161u, hr159u, m160u⟩ := av 13 _ rfl (by kernel_rfl)
        refine ddo (up1 (up1 rfl hr156u) hr159u) rfl ?_
        refine s_app (kd := k_ref20uWish) I s22 rfl s22 t31 z31 rfl m157u (Sl.rs (Row.sl m160u)) h94u (by decide) (zpv rfl) (zpv rfl) fun g164u v162u s165u I m163u => ?_
        exact ⟨_, rfl, s165u, I, (nwc (pf_row rfl rfl m163u) nwn)⟩
      · intro ρ g I av
        obtain ⟨v168u, hr166u, m167u⟩ := av 14 _ rfl (by kernel_rfl)
        refine ddo (up1 rfl hr166u) rfl ?_
        refine s_as ?_
        exact ⟨_, rfl, (Stp.refl _ _), I, (nwc (pf_row rfl rfl m167u) nwn)⟩
      · intro ρ g I av
        obtain ⟨L99u, hb100u, hl101u, ha102u⟩ := av 10 _ rfl rfl
        have hr103u := av 3 _ rfl rfl
        obtain ⟨v107u, hr105u, m106u⟩ := av 15 _ rfl rfl
        have hr108u := av 5 _ rfl rfl
        have hr110u := av 6 _ rfl rfl
        refine ⟨_, (up1 (up1 (up1 (up1 rfl hr103u) hr105u) hr108u) hr110u), ?_⟩
        refine EW.region (by kernel_rfl) ?_
        refine EWL.op rfl ?_
        refine s_mv ?_
        refine EWL.op rfl ?_
        refine s_add rfl rfl ?_
        refine EWL.op rfl ?_
        refine s_as ?_
        exact ⟨_, (som hF1).symm, g, l93u, _, (IntKind.i64.wrap (x33u + 1)), _, r73u.2, rfl, I, rfl, rfl, rfl, m106u, rfl, rfl, hb100u, hl101u, ha102u⟩
    · replace hF1 := bif_f hb41u hF1
      refine EW.exit ?_
      have hF0 := out_ hF1 hr1
      refine EW.seq ?_
      refine EW.region (by kernel_rfl) ?_
      refine EWL.op rfl ?_
      refine s_mv ?_
      refine EWL.op rfl ?_
      obtain ⟨r169u, h170u, hF0⟩ := bnd hF0
      refine s_cf I k28 rfl (ref01uIn_End_ok (zle hZ rfl rfl) (.inl z0) I.l hb36u hl38u ha37u (Nat.le_of_ble_eq_true rfl) (zpv rfl) h170u) (at_in (zpv rfl)) fun g173u v171u s174u I p172u => ?_
      obtain ⟨p172u, o175u⟩ := p172u
      obtain ⟨L176u, hb177u, hl178u, ha179u⟩ := o175u
      obtain rfl := p172u
      refine EWL.op rfl ?_
      refine s_as ?_
      refine EW.seq ?_
      refine EW.seq ?_
      refine EW.region (by kernel_rfl) ?_
      refine EWL.op rfl ?_
      refine s_mv ?_
      refine EWL.op rfl ?_
      refine s_neq rfl rfl ?_
      refine EW.condS rfl rfl (fun hb180u => ?_) (fun hb180u => ?_)
      · replace hF0 := bif_t hb180u hF0
        refine EW.seq ?_
        refine EW.region (by kernel_rfl) ?_
        refine EWL.op rfl ?_
        refine s_mv ?_
        refine EWL.op rfl ?_
        refine s_as ?_
        refine EWL.op rfl ?_
        refine s_as ?_
        refine EW.ret ?_
        obtain rfl := som hF0
        refine ends2 (.inl rfl)  ?_
        exact ret_ (g := g173u) I lo hZ z0 rfl (mk2 Row.none rfl)
      · replace hF0 := bif_f hb180u hF0
        refine EW.skip ?_
        refine EW.seq ?_
        refine EW.region (by kernel_rfl) ?_
        refine EWL.op rfl ?_
        refine s_mv ?_
        refine EWL.op rfl ?_
        refine s_as ?_
        refine EWL.op rfl ?_
        refine s_as ?_
        refine EW.ret ?_
        obtain rfl := som hF0
        refine ends2 (.inl rfl)  ?_
        have m181u := Row.rc rfl (by decide) (Row.up rfl s174u (Nat.ne_of_beq_eq_false rfl) (Nat.ne_of_beq_eq_false rfl) m30u) rc0
        have s183u := Stp.rc1 g173u 4205 rc0
        replace I := I.to s183u (Lo.rc (d := rc0) I.l (.inl zrc0)) (at_in (zpv rfl))
        exact ret_ (g := (g173u.rc 4205 (4205 + 1) rc0)) I lo hZ z0 rfl (mk2 (Row.up rfl (Stp.rc (g173u.rc 4205 (4205 + 1) rc0) 4200 4300 0) fz (iv_z hZ rfl zrc0) m181u) rfl)
theorem ref20uAlike_ok {g0 : GW} {Z : Nat → Prop} (hZ : ∀ c, Z c → c = 0 ∨ 4400 ≤ c) (z0 : Z 0) (lo : Lo Z g0)  {a0 : (List ref20uWish)} {va0 : Value} {ka0 : Nat} {a1 : (List ref20uWish)} {va1 : Value} {ka1 : Nat} (ma0 : Sl k_ref20uWish g0 ka0 a0 va0) (hka0 : ka0 = 0 ∨ 4400 ≤ ka0) (ma1 : Sl k_ref20uWish g0 ka1 a1 va1) (hka1 : ka1 = 0 ∨ 4400 ≤ ka1) {r : Bool} (hF0 : ref20uAlike a0 a1 = some r) :
    Calls P 8 [va0, va1].toArray g0.w (Rets (RR (no) Z g0 (PEq (.bool r)))) := by
  refine calls_of Go.Proofs.Try.func8 rfl (Nat.le_of_ble_eq_true rfl) (by kernel_rfl) ?_
  have I : Inv (or_ (no) (iv 4300 4400)) (or_ Z (iv 4300 4400)) g0 g0 := Inv.start (lo.mono (fun _ h => .inl h))
  have fz : ¬ iv 4300 4400 0 := nz0 rfl
  unfold ref20uAlike at hF0
  refine EW.seq ?_
  refine EW.region (by kernel_rfl) ?_
  refine EWL.op rfl ?_
  refine s_as ?_
  refine EW.seq ?_
  refine EW.seq ?_
  refine EW.region (by kernel_rfl) ?_
  refine EWL.op rfl ?_
  refine s_mv ?_
  refine EWL.op rfl ?_
  refine s_lenR (kd := k_ref20uWish) (xs := a0) s22 rfl (Sl.rs ma0) ?_
  refine EWL.op rfl ?_
  refine s_mv ?_
  refine EWL.op rfl ?_
  refine s_lenR (kd := k_ref20uWish) (xs := a1) s22 rfl (Sl.rs ma1) ?_
  refine EWL.op rfl ?_
  refine s_neq rfl rfl ?_
  refine EW.condS rfl rfl (fun hb1u => ?_) (fun hb1u => ?_)
  · replace hF0 := bif_t hb1u hF0
    refine EW.seq ?_
    refine EW.region (by kernel_rfl) ?_
    refine EWL.op rfl ?_
    refine s_as ?_
    refine EW.ret ?_
    obtain rfl := som hF0
    refine ends1 (.inl rfl)  ?_
    exact ret_ (g := g0) I lo hZ z0 rfl rfl
  · replace hF0 := bif_f hb1u hF0
    refine EW.skip ?_
    refine EW.seq ?_
    refine EW.seq ?_
    refine EW.region (by kernel_rfl) ?_
    refine EWL.op rfl ?_
    refine s_as ?_
    refine EW.block ?_
    refine EW.loop (b := (ref20uAlike_b1 a0 a1)) (fun (s : Int) ρ w => ∃ (g4u : GW) (v6u : Value) (v9u : Value) (x12u : Int), w = g4u.w ∧ Inv (or_ (no) (iv 4300 4400)) (or_ Z (iv 4300 4400)) g0 g4u ∧ x12u = s ∧ ρ 0 = v6u ∧ Sl k_ref20uWish g4u ka0 a0 v6u ∧ ρ 1 = v9u ∧ Sl k_ref20uWish g4u ka1 a1 v9u ∧ ρ 5 = .int .i64 x12u) hF0 ⟨g0, _, _, 0, rfl, I, rfl, rfl, ma0, rfl, ma1, rfl⟩ ?_
    · rintro s_ o13u ρ w ⟨g4u, v6u, v9u, x12u, rfl, I, eo, hr5u, m7u, hr8u, m10u, hr11u⟩ hF1 hr1
      subst eo
      unfold ref20uAlike_b1 at hF1
      refine EW.re (up1 (up1 (up1 rfl hr5u) hr8u) hr11u) ?_
      refine EW.seq ?_
      refine EW.seq ?_
      refine EW.region (by kernel_rfl) ?_
      refine EWL.op rfl ?_
      refine s_mv ?_
      refine EWL.op rfl ?_
      refine s_mv ?_
      refine EWL.op rfl ?_
      refine s_lenR (kd := k_ref20uWish) (xs := a0) s22 rfl (Sl.rs m7u) ?_
      refine EWL.op rfl ?_
      refine s_lss rfl rfl ?_
      refine EW.condS rfl rfl (fun hb14u => ?_) (fun hb14u => ?_)
      · replace hF1 := bif_t hb14u hF1
        refine EW.skip ?_
        refine EW.seqJ (fun ρ w => ∃ (g15u : GW) (v17u : Value) (v20u : Value), w = g15u.w ∧ Inv (or_ (no) (iv 4300 4400)) (or_ Z (iv 4300 4400)) g0 g15u ∧ ref20uAlike_j1 x12u = some o13u ∧ ρ 0 = v17u ∧ Sl k_ref20uWish g15u ka0 a0 v17u ∧ ρ 1 = v20u ∧ Sl k_ref20uWish g15u ka1 a1 v20u ∧ ρ 5 = .int .i64 x12u) ?_ ?_
        · rintro ρ w ⟨g15u, v17u, v20u, rfl, I, hF1, hr16u, m18u, hr19u, m21u, hr22u⟩
          refine EW.re (up1 (up1 (up1 rfl hr16u) hr19u) hr22u) ?_
          unfold ref20uAlike_j1 at hF1
          refine EW.region (by kernel_rfl) ?_
          refine EWL.op rfl ?_
          refine s_mv ?_
          refine EWL.op rfl ?_
          refine s_add rfl rfl ?_
          refine EWL.op rfl ?_
          refine s_as ?_
          exact ⟨_, (som hF1).symm, g15u, _, _, (IntKind.i64.wrap (x12u + 1)), rfl, I, rfl, rfl, m18u, rfl, m21u, rfl⟩
        · refine EW.block ?_
          refine EW.seq ?_
          refine EW.seq ?_
          obtain ⟨x23u, h24u, hF1⟩ := bnd hF1
          obtain ⟨x32u, h33u, hF1⟩ := bnd hF1
          rcases Bool.eq_false_or_eq_true (decide (x23u.op ≠ x32u.op)) with hb41u | hb41u
          · replace hF1 := bif_t hb41u hF1
            refine EW.drawn [] [⟨SF.sl 0 k_ref20uWish rfl ka0 a0, none, none⟩, ⟨SF.val 5 (.int .i64 x12u), none, none⟩, ⟨SF.sl 1 k_ref20uWish rfl ka1 a1, none, none⟩, ⟨SF.sl 18 k_ref20uWish rfl ka0 a0, some 0, none⟩, ⟨SF.val 19 (.int .i64 x12u), some 1, none⟩, ⟨SF.ep 20 k_ref20uWish rfl ka0 x23u (fun o => o), some 2, none⟩, ⟨SF.ep 21 k_ref20uWish rfl ka0 x23u (fun o => o + 0), some 3, none⟩, ⟨SF.agg 22 k_ref12uOp rfl x23u.op, some 4, none⟩, ⟨SF.sl 23 k_ref20uWish rfl ka1 a1, some 5, none⟩, ⟨SF.val 24 (.int .i64 x12u), some 6, none⟩, ⟨SF.ep 25 k_ref20uWish rfl ka1 x32u (fun o => o), some 7, none⟩, ⟨SF.ep 26 k_ref20uWish rfl ka1 x32u (fun o => o + 0), some 8, none⟩, ⟨SF.agg 27 k_ref12uOp rfl x32u.op, some 9, none⟩, ⟨SF.val 28 (.bool (decide (x23u.op ≠ x32u.op))), some 10, none⟩, ⟨SF.val 29 (.bool (decide (x23u.op ≠ x32u.op))), some 11, none⟩, ⟨SF.val 42 (undef), some 24, none⟩, ⟨SF.val 43 (.bool true), some 25, none⟩] [] (by kernel_rfl) (by kernel_rfl) (by kernel_rfl) ?_ I ?_ (dcons ?_ (dcons ?_ (dcons ?_ (dcons ?_ (dcons ?_ (dcons ?_ (dcons ?_ (dcons ?_ (dcons ?_ (dcons ?_ (dcons ?_ (dcons ?_ (dcons ?_ (dcons ?_ (dcons ?_ (dcons ?_ (dcons ?_ (dcons ?_ (dcons ?_ (dcons ?_ (dcons ?_ (dcons ?_ (dcons ?_ (dcons ?_ (dcons ?_ (dcons ?_ dnil)))))))))))))))))))))))))) ?_
            · exact trivial
            · exact (nwc (pf_sl rfl rfl m7u) (nwc (pf_val rfl) (nwc (pf_sl rfl rfl m10u) nwn)))
            · intro ρ g I av
              obtain ⟨v54u, hr52u, m53u⟩ := av 0 _ rfl (by kernel_rfl)
              refine ddo (up1 rfl hr52u) rfl ?_
              refine s_mv ?_
              exact ⟨_, rfl, (Stp.refl _ _), I, (nwc (pf_sl rfl rfl m53u) nwn)⟩
            · intro ρ g I av
              have hr55u := av 1 _ rfl (by kernel_rfl)
              refine ddo (up1 rfl hr55u) rfl ?_
              refine s_mv ?_
              exact ⟨_, rfl, (Stp.refl _ _), I, (nwc (pf_val rfl) nwn)⟩
            · intro ρ g I av
              obtain ⟨v59u, hr57u, m58u⟩ := av 3 _ rfl (by kernel_rfl)
              have hr60u := av 4 _ rfl (by kernel_rfl)
              refine ddo (up1 (up1 rfl hr57u) hr60u) rfl ?_
              refine s_idxS s22 t31 rfl m58u rfl h24u fun b62u o63u L64u hc65u ha66u => ?_
              exact ⟨_, rfl, (Stp.refl _ _), I, (nwc (pf_ep rfl rfl hc65u ha66u) nwn)⟩
            · intro ρ g I av
              obtain ⟨b69u, o70u, L71u, hr67u, hc72u, ha73u⟩ := av 5 _ rfl (by kernel_rfl)
              refine ddo (up1 rfl hr67u) rfl ?_
              refine s_fa f31u0 rfl ?_
              exact ⟨_, rfl, (Stp.refl _ _), I, (nwc (pf_ep rfl rfl hc72u ha73u) nwn)⟩
            · intro ρ g I av
              obtain ⟨b76u, o77u, L78u, hr74u, hc79u, ha80u⟩ := av 6 _ rfl (by kernel_rfl)
              refine ddo (up1 rfl hr74u) rfl ?_
              refine s_ldK t28 rfl (Imm.cells hc79u) (At.fld ha80u 0 rfl) rfl rfl fun cs81u m82u => ?_
              exact ⟨_, rfl, (Stp.refl _ _), I, (nwc (pf_agg rfl rfl m82u) nwn)⟩
            · intro ρ g I av
              obtain ⟨v85u, hr83u, m84u⟩ := av 2 _ rfl (by kernel_rfl)
              refine ddo (up1 rfl hr83u) rfl ?_
              refine s_mv ?_
              exact ⟨_, rfl, (Stp.refl _ _), I, (nwc (pf_sl rfl rfl m84u) nwn)⟩
            · intro ρ g I av
              have hr86u := av 1 _ rfl (by kernel_rfl)
              refine ddo (up1 rfl hr86u) rfl ?_
              refine s_mv ?_
              exact ⟨_, rfl, (Stp.refl _ _), I, (nwc (pf_val rfl) nwn)⟩
            · intro ρ g I av
              obtain ⟨v90u, hr88u, m89u⟩ := av 8 _ rfl (by kernel_rfl)
              have hr91u := av 9 _ rfl (by kernel_rfl)
              refine ddo (up1 (up1 rfl hr88u) hr91u) rfl ?_
              refine s_idxS s22 t31 rfl m89u rfl h33u fun b93u o94u L95u hc96u ha97u => ?_
              exact ⟨_, rfl, (Stp.refl _ _), I, (nwc (pf_ep rfl rfl hc96u ha97u) nwn)⟩
            · intro ρ g I av
              obtain ⟨b100u, o101u, L102u, hr98u, hc103u, ha104u⟩ := av 10 _ rfl (by kernel_rfl)
              refine ddo (up1 rfl hr98u) rfl ?_
              refine s_fa f31u0 rfl ?_
              exact ⟨_, rfl, (Stp.refl _ _), I, (nwc (pf_ep rfl rfl hc103u ha104u) nwn)⟩
            · intro ρ g I av
              obtain ⟨b107u, o108u, L109u, hr105u, hc110u, ha111u⟩ := av 11 _ rfl (by kernel_rfl)
              refine ddo (up1 rfl hr105u) rfl ?_
              refine s_ldK t28 rfl (Imm.cells hc110u) (At.fld ha111u 0 rfl) rfl rfl fun cs112u m113u => ?_
              exact ⟨_, rfl, (Stp.refl _ _), I, (nwc (pf_agg rfl rfl m113u) nwn)⟩
            · intro ρ g I av
              obtain ⟨_, hr114u, m115u⟩ := av 7 _ rfl (by kernel_rfl)
              obtain ⟨_, hr116u, m117u⟩ := av 12 _ rfl (by kernel_rfl)
              refine ddo (up1 (up1 rfl hr114u) hr116u) rfl ?_
              refine s_neA E28 rfl (by kernel_rfl) rfl rfl m115u m117u ?_
              exact ⟨_, rfl, (Stp.refl _ _), I, (nwc (pf_val rfl) nwn)⟩
            · intro ρ g I av
              have hr118u := av 13 _ rfl (by kernel_rfl)
              refine ddo (up1 rfl hr118u) rfl ?_
              refine s_mv ?_
              exact ⟨_, rfl, (Stp.refl _ _), I, (nwc (pf_val rfl) nwn)⟩
            · intro ρ g I av
              have hr120u := av 14 _ rfl (by kernel_rfl)
              exact dskip (up1 rfl hr120u) (want_of rfl rfl (beq_ hb41u)) rfl nwn
            · intro ρ g I av
              have hr122u := av 14 _ rfl (by kernel_rfl)
              exact dskip (up1 rfl hr122u) (want_of rfl rfl (beq_ hb41u)) rfl nwn
            · intro ρ g I av
              have hr124u := av 14 _ rfl (by kernel_rfl)
              exact dskip (up1 rfl hr124u) (want_of rfl rfl (beq_ hb41u)) rfl nwn
            · intro ρ g I av
              have hr126u := av 14 _ rfl (by kernel_rfl)
              exact dskip (up1 rfl hr126u) (want_of rfl rfl (beq_ hb41u)) rfl nwn
            · intro ρ g I av
              have hr128u := av 14 _ rfl (by kernel_rfl)
              exact dskip (up1 rfl hr128u) (want_of rfl rfl (beq_ hb41u)) rfl nwn
            · intro ρ g I av
              have hr130u := av 14 _ rfl (by kernel_rfl)
              exact dskip (up1 rfl hr130u) (want_of rfl rfl (beq_ hb41u)) rfl nwn
            · intro ρ g I av
              have hr132u := av 14 _ rfl (by kernel_rfl)
              exact dskip (up1 rfl hr132u) (want_of rfl rfl (beq_ hb41u)) rfl nwn
            · intro ρ g I av
              have hr134u := av 14 _ rfl (by kernel_rfl)
              exact dskip (up1 rfl hr134u) (want_of rfl rfl (beq_ hb41u)) rfl nwn
            · intro ρ g I av
              have hr136u := av 14 _ rfl (by kernel_rfl)
              exact dskip (up1 rfl hr136u) (want_of rfl rfl (beq_ hb41u)) rfl nwn
            · intro ρ g I av
              have hr138u := av 14 _ rfl (by kernel_rfl)
              exact dskip (up1 rfl hr138u) (want_of rfl rfl (beq_ hb41u)) rfl nwn
            · intro ρ g I av
              have hr140u := av 14 _ rfl (by kernel_rfl)
              exact dskip (up1 rfl hr140u) (want_of rfl rfl (beq_ hb41u)) rfl nwn
            · intro ρ g I av
              have hr142u := av 14 _ rfl (by kernel_rfl)
              exact dskip (up1 rfl hr142u) (want_of rfl rfl (beq_ hb41u)) rfl nwn
            · intro ρ g I av
              have hr144u := av 14 _ rfl (by kernel_rfl)
              exact dskip (up1 rfl hr144u) (want_of rfl rfl (beq_ hb41u)) rfl (nwc (pf_val rfl) nwn)
            · intro ρ g I av
              have hr146u := av 14 _ rfl (by kernel_rfl)
              have hr148u := av 15 _ rfl (by kernel_rfl)
              refine ddo (up1 (up1 rfl hr146u) hr148u) rfl ?_
              refine s_pT rfl hb41u ?_
              exact ⟨_, rfl, (Stp.refl _ _), I, (nwc (pf_val rfl) nwn)⟩
            · intro ρ g I av
              obtain ⟨v44u, hr42u, m43u⟩ := av 0 _ rfl rfl
              obtain ⟨v47u, hr45u, m46u⟩ := av 2 _ rfl rfl
              have hr48u := av 1 _ rfl rfl
              have hr50u := av 16 _ rfl rfl
              refine ⟨_, (up1 (up1 (up1 (up1 rfl hr42u) hr45u) hr48u) hr50u), ?_⟩
              refine EW.condS rfl rfl (fun hb => ?_) (fun hb => (tf_ rfl hb).elim)
              refine EW.seq ?_
              refine EW.region (by kernel_rfl) ?_
              refine EWL.op rfl ?_
              refine s_as ?_
              refine EW.ret ?_
              have hF0 := out_ hF1 hr1
              obtain rfl := som hF0
              refine ends1 (.inl rfl)  ?_
              exact ret_ (g := g) I lo hZ z0 rfl rfl
          · replace hF1 := bif_f hb41u hF1
            obtain ⟨x150u, h151u, hF1⟩ := bnd hF1
            obtain ⟨x159u, h160u, hF1⟩ := bnd hF1
            refine EW.drawn [] [⟨SF.sl 0 k_ref20uWish rfl ka0 a0, none, none⟩, ⟨SF.val 5 (.int .i64 x12u), none, none⟩, ⟨SF.sl 1 k_ref20uWish rfl ka1 a1, none, none⟩, ⟨SF.sl 18 k_ref20uWish rfl ka0 a0, some 0, none⟩, ⟨SF.val 19 (.int .i64 x12u), some 1, none⟩, ⟨SF.ep 20 k_ref20uWish rfl ka0 x23u (fun o => o), some 2, none⟩, ⟨SF.ep 21 k_ref20uWish rfl ka0 x23u (fun o => o + 0), some 3, none⟩, ⟨SF.agg 22 k_ref12uOp rfl x23u.op, some 4, none⟩, ⟨SF.sl 23 k_ref20uWish rfl ka1 a1, some 5, none⟩, ⟨SF.val 24 (.int .i64 x12u), some 6, none⟩, ⟨SF.ep 25 k_ref20uWish rfl ka1 x32u (fun o => o), some 7, none⟩, ⟨SF.ep 26 k_ref20uWish rfl ka1 x32u (fun o => o + 0), some 8, none⟩, ⟨SF.agg 27 k_ref12uOp rfl x32u.op, some 9, none⟩, ⟨SF.val 28 (.bool (decide (x23u.op ≠ x32u.op))), some 10, none⟩, ⟨SF.val 29 (.bool (decide (x23u.op ≠ x32u.op))), some 11, none⟩, ⟨SF.sl 30 k_ref20uWish rfl ka0 a0, some 12, none⟩, ⟨SF.val 31 (.int .i64 x12u), some 13, none⟩, ⟨SF.ep 32 k_ref20uWish rfl ka0 x150u (fun o => o), some 14, none⟩, ⟨SF.ep 33 k_ref20uWish rfl ka0 x150u (fun o => o + 39), some 15, none⟩, ⟨SF.sl 34 k_ref18uHop rfl 0 x150u.trail, some 16, none⟩, ⟨SF.val 35 (.int .i64 (x150u.trail.length : Int)), some 17, none⟩, ⟨SF.sl 36 k_ref20uWish rfl ka1 a1, some 18, none⟩, ⟨SF.val 37 (.int .i64 x12u), some 19, none⟩, ⟨SF.ep 38 k_ref20uWish rfl ka1 x159u (fun o => o), some 20, none⟩, ⟨SF.ep 39 k_ref20uWish rfl ka1 x159u (fun o => o + 39), some 21, none⟩, ⟨SF.sl 40 k_ref18uHop rfl 0 x159u.trail, some 22, none⟩, ⟨SF.val 41 (.int .i64 (x159u.trail.length : Int)), some 23, none⟩, ⟨SF.val 42 (.bool (decide ((x150u.trail.length : Int) ≠ (x159u.trail.length : Int)))), some 24, none⟩, ⟨SF.val 43 (.bool (decide ((x150u.trail.length : Int) ≠ (x159u.trail.length : Int)))), some 25, none⟩] [] (by kernel_rfl) (by kernel_rfl) (by kernel_rfl) ?_ I ?_ (dcons ?_ (dcons ?_ (dcons ?_ (dcons ?_ (dcons ?_ (dcons ?_ (dcons ?_ (dcons ?_ (dcons ?_ (dcons ?_ (dcons ?_ (dcons ?_ (dcons ?_ (dcons ?_ (dcons ?_ (dcons ?_ (dcons ?_ (dcons ?_ (dcons ?_ (dcons ?_ (dcons ?_ (dcons ?_ (dcons ?_ (dcons ?_ (dcons ?_ (dcons ?_ dnil)))))))))))))))))))))))))) ?_
            · exact trivial
            · exact (nwc (pf_sl rfl rfl m7u) (nwc (pf_val rfl) (nwc (pf_sl rfl rfl m10u) nwn)))
            · intro ρ g I av
              obtain ⟨v180u, hr178u, m179u⟩ := av 0 _ rfl (by kernel_rfl)
              refine ddo (up1 rfl hr178u) rfl ?_
              refine s_mv ?_
              exact ⟨_, rfl, (Stp.refl _ _), I, (nwc (pf_sl rfl rfl m179u) nwn)⟩
            · intro ρ g I av
              have hr181u := av 1 _ rfl (by kernel_rfl)
              refine ddo (up1 rfl hr181u) rfl ?_
              refine s_mv ?_
              exact ⟨_, rfl, (Stp.refl _ _), I, (nwc (pf_val rfl) nwn)⟩
            · intro ρ g I av
              obtain ⟨v185u, hr183u, m184u⟩ := av 3 _ rfl (by kernel_rfl)
              have hr186u := av 4 _ rfl (by kernel_rfl)
              refine ddo (up1 (up1 rfl hr183u) hr186u) rfl ?_
              refine s_idxS s22 t31 rfl m184u rfl h24u fun b188u o189u L190u hc191u ha192u => ?_
              exact ⟨_, rfl, (Stp.refl _ _), I, (nwc (pf_ep rfl rfl hc191u ha192u) nwn)⟩
            · intro ρ g I av
              obtain ⟨b195u, o196u, L197u, hr193u, hc198u, ha199u⟩ := av 5 _ rfl (by kernel_rfl)
              refine ddo (up1 rfl hr193u) rfl ?_
              refine s_fa f31u0 rfl ?_
              exact ⟨_, rfl, (Stp.refl _ _), I, (nwc (pf_ep rfl rfl hc198u ha199u) nwn)⟩
            · intro ρ g I av
              obtain ⟨b202u, o203u, L204u, hr200u, hc205u, ha206u⟩ := av 6 _ rfl (by kernel_rfl)
              refine ddo (up1 rfl hr200u) rfl ?_
              refine s_ldK t28 rfl (Imm.cells hc205u) (At.fld ha206u 0 rfl) rfl rfl fun cs207u m208u => ?_
              exact ⟨_, rfl, (Stp.refl _ _), I, (nwc (pf_agg rfl rfl m208u) nwn)⟩
            · intro ρ g I av
              obtain ⟨v211u, hr209u, m210u⟩ := av 2 _ rfl (by kernel_rfl)
              refine ddo (up1 rfl hr209u) rfl ?_
              refine s_mv ?_
              exact ⟨_, rfl, (Stp.refl _ _), I, (nwc (pf_sl rfl rfl m210u) nwn)⟩
            · intro ρ g I av
              have hr212u := av 1 _ rfl (by kernel_rfl)
              refine ddo (up1 rfl hr212u) rfl ?_
              refine s_mv ?_
              exact ⟨_, rfl, (Stp.refl _ _), I, (nwc (pf_val rfl) nwn)⟩
            · intro ρ g I av
              obtain ⟨v216u, hr214u, m215u⟩ := av 8 _ rfl (by kernel_rfl)
              have hr217u := av 9 _ rfl (by kernel_rfl)
              refine ddo (up1 (up1 rfl hr214u) hr217u) rfl ?_
              refine s_idxS s22 t31 rfl m215u rfl h33u fun b219u o220u L221u hc222u ha223u => ?_
              exact ⟨_, rfl, (Stp.refl _ _), I, (nwc (pf_ep rfl rfl hc222u ha223u) nwn)⟩
            · intro ρ g I av
              obtain ⟨b226u, o227u, L228u, hr224u, hc229u, ha230u⟩ := av 10 _ rfl (by kernel_rfl)
              refine ddo (up1 rfl hr224u) rfl ?_
              refine s_fa f31u0 rfl ?_
              exact ⟨_, rfl, (Stp.refl _ _), I, (nwc (pf_ep rfl rfl hc229u ha230u) nwn)⟩
            · intro ρ g I av
              obtain ⟨b233u, o234u, L235u, hr231u, hc236u, ha237u⟩ := av 11 _ rfl (by kernel_rfl)
              refine ddo (up1 rfl hr231u) rfl ?_
              refine s_ldK t28 rfl (Imm.cells hc236u) (At.fld ha237u 0 rfl) rfl rfl fun cs238u m239u => ?_
              exact ⟨_, rfl, (Stp.refl _ _), I, (nwc (pf_agg rfl rfl m239u) nwn)⟩
            · intro ρ g I av
              obtain ⟨_, hr240u, m241u⟩ := av 7 _ rfl (by kernel_rfl)
              obtain ⟨_, hr242u, m243u⟩ := av 12 _ rfl (by kernel_rfl)
              refine ddo (up1 (up1 rfl hr240u) hr242u) rfl ?_
              refine s_neA E28 rfl (by kernel_rfl) rfl rfl m241u m243u ?_
              exact ⟨_, rfl, (Stp.refl _ _), I, (nwc (pf_val rfl) nwn)⟩
            · intro ρ g I av
              have hr244u := av 13 _ rfl (by kernel_rfl)
              refine ddo (up1 rfl hr244u) rfl ?_
              refine s_mv ?_
              exact ⟨_, rfl, (Stp.refl _ _), I, (nwc (pf_val rfl) nwn)⟩
            · intro ρ g I av
              obtain ⟨v248u, hr246u, m247u⟩ := av 0 _ rfl (by kernel_rfl)
              have hr249u := av 14 _ rfl (by kernel_rfl)
              refine ddo (up1 (up1 rfl hr246u) hr249u) (want_of rfl rfl (beq_ hb41u)) ?_
              refine s_mv ?_
              exact ⟨_, rfl, (Stp.refl _ _), I, (nwc (pf_sl rfl rfl m247u) nwn)⟩
            · intro ρ g I av
              have hr251u := av 1 _ rfl (by kernel_rfl)
              have hr253u := av 14 _ rfl (by kernel_rfl)
              refine ddo (up1 (up1 rfl hr251u) hr253u) (want_of rfl rfl (beq_ hb41u)) ?_
              refine s_mv ?_
              exact ⟨_, rfl, (Stp.refl _ _), I, (nwc (pf_val rfl) nwn)⟩
            · intro ρ g I av
              have hr255u := av 14 _ rfl (by kernel_rfl)
              obtain ⟨v259u, hr257u, m258u⟩ := av 15 _ rfl (by kernel_rfl)
              have hr260u := av 16 _ rfl (by kernel_rfl)
              refine ddo (up1 (up1 (up1 rfl hr255u) hr257u) hr260u) (want_of rfl rfl (beq_ hb41u)) ?_
              refine s_idxS s22 t31 rfl m258u rfl h151u fun b262u o263u L264u hc265u ha266u => ?_
              exact ⟨_, rfl, (Stp.refl _ _), I, (nwc (pf_ep rfl rfl hc265u ha266u) nwn)⟩
            · intro ρ g I av
              have hr267u := av 14 _ rfl (by kernel_rfl)
              obtain ⟨b271u, o272u, L273u, hr269u, hc274u, ha275u⟩ := av 17 _ rfl (by kernel_rfl)
              refine ddo (up1 (up1 rfl hr267u) hr269u) (want_of rfl rfl (beq_ hb41u)) ?_
              refine s_fa f31u1 rfl ?_
              exact ⟨_, rfl, (Stp.refl _ _), I, (nwc (pf_ep rfl rfl hc274u ha275u) nwn)⟩
            · intro ρ g I av
              have hr276u := av 14 _ rfl (by kernel_rfl)
              obtain ⟨b280u, o281u, L282u, hr278u, hc283u, ha284u⟩ := av 18 _ rfl (by kernel_rfl)
              refine ddo (up1 (up1 rfl hr276u) hr278u) (want_of rfl rfl (beq_ hb41u)) ?_
              refine s_ldSl t29 rfl (Imm.cells hc283u) (At.fld ha284u 1 rfl) fun v285u m286u => ?_
              exact ⟨_, rfl, (Stp.refl _ _), I, (nwc (pf_sl rfl rfl m286u) nwn)⟩
            · intro ρ g I av
              have hr287u := av 14 _ rfl (by kernel_rfl)
              obtain ⟨v291u, hr289u, m290u⟩ := av 19 _ rfl (by kernel_rfl)
              refine ddo (up1 (up1 rfl hr287u) hr289u) (want_of rfl rfl (beq_ hb41u)) ?_
              refine s_lenR (kd := k_ref18uHop) (xs := x150u.trail) s29 rfl (Sl.rs m290u) ?_
              exact ⟨_, rfl, (Stp.refl _ _), I, (nwc (pf_val rfl) nwn)⟩
            · intro ρ g I av
              obtain ⟨v294u, hr292u, m293u⟩ := av 2 _ rfl (by kernel_rfl)
              have hr295u := av 14 _ rfl (by kernel_rfl)
              refine ddo (up1 (up1 rfl hr292u) hr295u) (want_of rfl rfl (beq_ hb41u)) ?_
              refine s_mv ?_
              exact ⟨_, rfl, (Stp.refl _ _), I, (nwc (pf_sl rfl rfl m293u) nwn)⟩
            · intro ρ g I av
              have hr297u := av 1 _ rfl (by kernel_rfl)
              have hr299u := av 14 _ rfl (by kernel_rfl)
              refine ddo (up1 (up1 rfl hr297u) hr299u) (want_of rfl rfl (beq_ hb41u)) ?_
              refine s_mv ?_
              exact ⟨_, rfl, (Stp.refl _ _), I, (nwc (pf_val rfl) nwn)⟩
            · intro ρ g I av
              have hr301u := av 14 _ rfl (by kernel_rfl)
              obtain ⟨v305u, hr303u, m304u⟩ := av 21 _ rfl (by kernel_rfl)
              have hr306u := av 22 _ rfl (by kernel_rfl)
              refine ddo (up1 (up1 (up1 rfl hr301u) hr303u) hr306u) (want_of rfl rfl (beq_ hb41u)) ?_
              refine s_idxS s22 t31 rfl m304u rfl h160u fun b308u o309u L310u hc311u ha312u => ?_
              exact ⟨_, rfl, (Stp.refl _ _), I, (nwc (pf_ep rfl rfl hc311u ha312u) nwn)⟩
            · intro ρ g I av
              have hr313u := av 14 _ rfl (by kernel_rfl)
              obtain ⟨b317u, o318u, L319u, hr315u, hc320u, ha321u⟩ := av 23 _ rfl (by kernel_rfl)
              refine ddo (up1 (up1 rfl hr313u) hr315u) (want_of rfl rfl (beq_ hb41u)) ?_
              refine s_fa f31u1 rfl ?_
              exact ⟨_, rfl, (Stp.refl _ _), I, (nwc (pf_ep rfl rfl hc320u ha321u) nwn)⟩
            · intro ρ g I av
              have hr322u := av 14 _ rfl (by kernel_rfl)
              obtain ⟨b326u, o327u, L328u, hr324u, hc329u, ha330u⟩ := av 24 _ rfl (by kernel_rfl)
              refine ddo (up1 (up1 rfl hr322u) hr324u) (want_of rfl rfl (beq_ hb41u)) ?_
              refine s_ldSl t29 rfl (Imm.cells hc329u) (At.fld ha330u 1 rfl) fun v331u m332u => ?_
              exact ⟨_, rfl, (Stp.refl _ _), I, (nwc (pf_sl rfl rfl m332u) nwn)⟩
            · intro ρ g I av
              have hr333u := av 14 _ rfl (by kernel_rfl)
              obtain ⟨v337u, hr335u, m336u⟩ := av 25 _ rfl (by kernel_rfl)
              refine ddo (up1 (up1 rfl hr333u) hr335u) (want_of rfl rfl (beq_ hb41u)) ?_
              refine s_lenR (kd := k_ref18uHop) (xs := x159u.trail) s29 rfl (Sl.rs m336u) ?_
              exact ⟨_, rfl, (Stp.refl _ _), I, (nwc (pf_val rfl) nwn)⟩
            · intro ρ g I av
              have hr338u := av 14 _ rfl (by kernel_rfl)
              have hr340u := av 20 _ rfl (by kernel_rfl)
              have hr342u := av 26 _ rfl (by kernel_rfl)
              refine ddo (up1 (up1 (up1 rfl hr338u) hr340u) hr342u) (want_of rfl rfl (beq_ hb41u)) ?_
              refine s_neq rfl rfl ?_
              exact ⟨_, rfl, (Stp.refl _ _), I, (nwc (pf_val rfl) nwn)⟩
            · intro ρ g I av
              have hr344u := av 14 _ rfl (by kernel_rfl)
              have hr346u := av 27 _ rfl (by kernel_rfl)
              refine ddo (up1 (up1 rfl hr344u) hr346u) rfl ?_
              refine s_pF rfl hb41u ?_
              exact ⟨_, rfl, (Stp.refl _ _), I, (nwc (pf_val rfl) nwn)⟩
            · intro ρ g I av
              obtain ⟨v170u, hr168u, m169u⟩ := av 0 _ rfl rfl
              obtain ⟨v173u, hr171u, m172u⟩ := av 2 _ rfl rfl
              have hr174u := av 1 _ rfl rfl
              have hr176u := av 28 _ rfl rfl
              refine ⟨_, (up1 (up1 (up1 (up1 rfl hr168u) hr171u) hr174u) hr176u), ?_⟩
              refine EW.condS rfl rfl (fun hb348u => ?_) (fun hb348u => ?_)
              · replace hF1 := bif_t hb348u hF1
                refine EW.seq ?_
                refine EW.region (by kernel_rfl) ?_
                refine EWL.op rfl ?_
                refine s_as ?_
                refine EW.ret ?_
                have hF0 := out_ hF1 hr1
                obtain rfl := som hF0
                refine ends1 (.inl rfl)  ?_
                exact ret_ (g := g) I lo hZ z0 rfl rfl
              · replace hF1 := bif_f hb348u hF1
                refine EW.skip ?_
                refine EW.seq ?_
                refine EW.region (by kernel_rfl) ?_
                refine EWL.op rfl ?_
                refine s_as ?_
                refine EW.block ?_
                refine EW.loop (b := (ref20uAlike_b2 a0 a1 x12u)) (fun (s : Int) ρ w => ∃ (g351u : GW) (v353u : Value) (v356u : Value) (x360u : Int), w = g351u.w ∧ Inv (or_ (no) (iv 4300 4400)) (or_ Z (iv 4300 4400)) g0 g351u ∧ x360u = s ∧ ρ 0 = v353u ∧ Sl k_ref20uWish g351u ka0 a0 v353u ∧ ρ 1 = v356u ∧ Sl k_ref20uWish g351u ka1 a1 v356u ∧ ρ 5 = .int .i64 x12u ∧ ρ 6 = .int .i64 x360u) hF1 ⟨g, _, _, 0, rfl, I, rfl, rfl, m169u, rfl, m172u, rfl, rfl⟩ ?_
                · rintro s_ o361u ρ w ⟨g351u, v353u, v356u, x360u, rfl, I, eo, hr352u, m354u, hr355u, m357u, hr358u, hr359u⟩ hF2 hr2
                  subst eo
                  unfold ref20uAlike_b2 at hF2
                  refine EW.re (up1 (up1 (up1 (up1 rfl hr352u) hr355u) hr358u) hr359u) ?_
                  refine EW.seq ?_
                  refine EW.seq ?_
                  refine EW.region (by kernel_rfl) ?_
                  refine EWL.op rfl ?_
                  refine s_mv ?_
                  refine EWL.op rfl ?_
                  refine s_mv ?_
                  refine EWL.op rfl ?_
                  refine s_mv ?_
                  refine EWL.op rfl ?_
                  obtain ⟨x362u, h363u, hF2⟩ := bnd hF2
                  refine s_idxS s22 t31 rfl m354u rfl h363u fun b364u o365u L366u hc367u ha368u => ?_
                  refine EWL.op rfl ?_
                  refine s_fa f31u1 rfl ?_
                  refine EWL.op rfl ?_
                  refine s_ldSl t29 rfl (Imm.cells hc367u) (At.fld ha368u 1 rfl) fun v369u m370u => ?_
                  refine EWL.op rfl ?_
                  refine s_lenR (kd := k_ref18uHop) (xs := x362u.trail) s29 rfl (Sl.rs m370u) ?_
                  refine EWL.op rfl ?_
                  refine s_lss rfl rfl ?_
                  refine EW.condS rfl rfl (fun hb371u => ?_) (fun hb371u => ?_)
                  · replace hF2 := bif_t hb371u hF2
                    refine EW.skip ?_
                    refine EW.seq ?_
                    refine EW.block ?_
                    refine EW.seq ?_
                    obtain ⟨x372u, h373u, hF2⟩ := bnd hF2
                    obtain ⟨x381u, h382u, hF2⟩ := bnd hF2
                    obtain ⟨x390u, h391u, hF2⟩ := bnd hF2
                    obtain ⟨x399u, h400u, hF2⟩ := bnd hF2
                    refine EW.drawn [] [⟨SF.sl 0 k_ref20uWish rfl ka0 a0, none, none⟩, ⟨SF.val 5 (.int .i64 x12u), none, none⟩, ⟨SF.val 6 (.int .i64 x360u), none, none⟩, ⟨SF.sl 1 k_ref20uWish rfl ka1 a1, none, none⟩, ⟨SF.sl 54 k_ref20uWish rfl ka0 a0, some 0, none⟩, ⟨SF.val 55 (.int .i64 x12u), some 1, none⟩, ⟨SF.ep 56 k_ref20uWish rfl ka0 x372u (fun o => o), some 2, none⟩, ⟨SF.ep 57 k_ref20uWish rfl ka0 x372u (fun o => o + 39), some 3, none⟩, ⟨SF.sl 58 k_ref18uHop rfl 0 x372u.trail, some 4, none⟩, ⟨SF.val 59 (.int .i64 x360u), some 5, none⟩, ⟨SF.ep 60 k_ref18uHop rfl 0 x381u (fun o => o), some 6, none⟩, ⟨SF.agg 61 k_ref18uHop rfl x381u, some 7, none⟩, ⟨SF.sl 62 k_ref20uWish rfl ka1 a1, some 8, none⟩, ⟨SF.val 63 (.int .i64 x12u), some 9, none⟩, ⟨SF.ep 64 k_ref20uWish rfl ka1 x390u (fun o => o), some 10, none⟩, ⟨SF.ep 65 k_ref20uWish rfl ka1 x390u (fun o => o + 39), some 11, none⟩, ⟨SF.sl 66 k_ref18uHop rfl 0 x390u.trail, some 12, none⟩, ⟨SF.val 67 (.int .i64 x360u), some 13, none⟩, ⟨SF.ep 68 k_ref18uHop rfl 0 x399u (fun o => o), some 14, none⟩, ⟨SF.agg 69 k_ref18uHop rfl x399u, some 15, none⟩, ⟨SF.val 70 (.bool (decide (x381u ≠ x399u))), some 16, none⟩] [] (by kernel_rfl) (by kernel_rfl) (by kernel_rfl) ?_ I ?_ (dcons ?_ (dcons ?_ (dcons ?_ (dcons ?_ (dcons ?_ (dcons ?_ (dcons ?_ (dcons ?_ (dcons ?_ (dcons ?_ (dcons ?_ (dcons ?_ (dcons ?_ (dcons ?_ (dcons ?_ (dcons ?_ (dcons ?_ dnil))))))))))))))))) ?_
                    · exact trivial
                    · exact (nwc (pf_sl rfl rfl m354u) (nwc (pf_val rfl) (nwc (pf_val rfl) (nwc (pf_sl rfl rfl m357u) nwn))))
                    · intro ρ g I av
                      obtain ⟨v422u, hr420u, m421u⟩ := av 0 _ rfl (by kernel_rfl)
                      refine ddo (up1 rfl hr420u) rfl ?_
                      refine s_mv ?_
                      exact ⟨_, rfl, (Stp.refl _ _), I, (nwc (pf_sl rfl rfl m421u) nwn)⟩
                    · intro ρ g I av
                      have hr423u := av 1 _ rfl (by kernel_rfl)
                      refine ddo (up1 rfl hr423u) rfl ?_
                      refine s_mv ?_
                      exact ⟨_, rfl, (Stp.refl _ _), I, (nwc (pf_val rfl) nwn)⟩
                    · intro ρ g I av
                      obtain ⟨v427u, hr425u, m426u⟩ := av 4 _ rfl (by kernel_rfl)
                      have hr428u := av 5 _ rfl (by kernel_rfl)
                      refine ddo (up1 (up1 rfl hr425u) hr428u) rfl ?_
                      refine s_idxS s22 t31 rfl m426u rfl h373u fun b430u o431u L432u hc433u ha434u => ?_
                      exact ⟨_, rfl, (Stp.refl _ _), I, (nwc (pf_ep rfl rfl hc433u ha434u) nwn)⟩
                    · intro ρ g I av
                      obtain ⟨b437u, o438u, L439u, hr435u, hc440u, ha441u⟩ := av 6 _ rfl (by kernel_rfl)
                      refine ddo (up1 rfl hr435u) rfl ?_
                      refine s_fa f31u1 rfl ?_
                      exact ⟨_, rfl, (Stp.refl _ _), I, (nwc (pf_ep rfl rfl hc440u ha441u) nwn)⟩
                    · intro ρ g I av
                      obtain ⟨b444u, o445u, L446u, hr442u, hc447u, ha448u⟩ := av 7 _ rfl (by kernel_rfl)
                      refine ddo (up1 rfl hr442u) rfl ?_
                      refine s_ldSl t29 rfl (Imm.cells hc447u) (At.fld ha448u 1 rfl) fun v449u m450u => ?_
                      exact ⟨_, rfl, (Stp.refl _ _), I, (nwc (pf_sl rfl rfl m450u) nwn)⟩
                    · intro ρ g I av
                      have hr451u := av 2 _ rfl (by kernel_rfl)
                      refine ddo (up1 rfl hr451u) rfl ?_
                      refine s_mv ?_
                      exact ⟨_, rfl, (Stp.refl _ _), I, (nwc (pf_val rfl) nwn)⟩
                    · intro ρ g I av
                      obtain ⟨v455u, hr453u, m454u⟩ := av 8 _ rfl (by kernel_rfl)
                      have hr456u := av 9 _ rfl (by kernel_rfl)
                      refine ddo (up1 (up1 rfl hr453u) hr456u) rfl ?_
                      refine s_idxS s29 t99 rfl m454u rfl h382u fun b458u o459u L460u hc461u ha462u => ?_
                      exact ⟨_, rfl, (Stp.refl _ _), I, (nwc (pf_ep rfl rfl hc461u ha462u) nwn)⟩
                    · intro ρ g I av
                      obtain ⟨b465u, o466u, L467u, hr463u, hc468u, ha469u⟩ := av 10 _ rfl (by kernel_rfl)
                      refine ddo (up1 rfl hr463u) rfl ?_
                      refine s_ldK t99 rfl (Imm.cells hc468u) ha469u rfl rfl fun cs470u m471u => ?_
                      exact ⟨_, rfl, (Stp.refl _ _), I, (nwc (pf_agg rfl rfl m471u) nwn)⟩
                    · intro ρ g I av
                      obtain ⟨v474u, hr472u, m473u⟩ := av 3 _ rfl (by kernel_rfl)
                      refine ddo (up1 rfl hr472u) rfl ?_
                      refine s_mv ?_
                      exact ⟨_, rfl, (Stp.refl _ _), I, (nwc (pf_sl rfl rfl m473u) nwn)⟩
                    · intro ρ g I av
                      have hr475u := av 1 _ rfl (by kernel_rfl)
                      refine ddo (up1 rfl hr475u) rfl ?_
                      refine s_mv ?_
                      exact ⟨_, rfl, (Stp.refl _ _), I, (nwc (pf_val rfl) nwn)⟩
                    · intro ρ g I av
                      obtain ⟨v479u, hr477u, m478u⟩ := av 12 _ rfl (by kernel_rfl)
                      have hr480u := av 13 _ rfl (by kernel_rfl)
                      refine ddo (up1 (up1 rfl hr477u) hr480u) rfl ?_
                      refine s_idxS s22 t31 rfl m478u rfl h391u fun b482u o483u L484u hc485u ha486u => ?_
                      exact ⟨_, rfl, (Stp.refl _ _), I, (nwc (pf_ep rfl rfl hc485u ha486u) nwn)⟩
                    · intro ρ g I av
                      obtain ⟨b489u, o490u, L491u, hr487u, hc492u, ha493u⟩ := av 14 _ rfl (by kernel_rfl)
                      refine ddo (up1 rfl hr487u) rfl ?_
                      refine s_fa f31u1 rfl ?_
                      exact ⟨_, rfl, (Stp.refl _ _), I, (nwc (pf_ep rfl rfl hc492u ha493u) nwn)⟩
                    · intro ρ g I av
                      obtain ⟨b496u, o497u, L498u, hr494u, hc499u, ha500u⟩ := av 15 _ rfl (by kernel_rfl)
                      refine ddo (up1 rfl hr494u) rfl ?_
                      refine s_ldSl t29 rfl (Imm.cells hc499u) (At.fld ha500u 1 rfl) fun v501u m502u => ?_
                      exact ⟨_, rfl, (Stp.refl _ _), I, (nwc (pf_sl rfl rfl m502u) nwn)⟩
                    · intro ρ g I av
                      have hr503u := av 2 _ rfl (by kernel_rfl)
                      refine ddo (up1 rfl hr503u) rfl ?_
                      refine s_mv ?_
                      exact ⟨_, rfl, (Stp.refl _ _), I, (nwc (pf_val rfl) nwn)⟩
                    · intro ρ g I av
                      obtain ⟨v507u, hr505u, m506u⟩ := av 16 _ rfl (by kernel_rfl)
                      have hr508u := av 17 _ rfl (by kernel_rfl)
                      refine ddo (up1 (up1 rfl hr505u) hr508u) rfl ?_
                      refine s_idxS s29 t99 rfl m506u rfl h400u fun b510u o511u L512u hc513u ha514u => ?_
                      exact ⟨_, rfl, (Stp.refl _ _), I, (nwc (pf_ep rfl rfl hc513u ha514u) nwn)⟩
                    · intro ρ g I av
                      obtain ⟨b517u, o518u, L519u, hr515u, hc520u, ha521u⟩ := av 18 _ rfl (by kernel_rfl)
                      refine ddo (up1 rfl hr515u) rfl ?_
                      refine s_ldK t99 rfl (Imm.cells hc520u) ha521u rfl rfl fun cs522u m523u => ?_
                      exact ⟨_, rfl, (Stp.refl _ _), I, (nwc (pf_agg rfl rfl m523u) nwn)⟩
                    · intro ρ g I av
                      obtain ⟨_, hr524u, m525u⟩ := av 11 _ rfl (by kernel_rfl)
                      obtain ⟨_, hr526u, m527u⟩ := av 19 _ rfl (by kernel_rfl)
                      refine ddo (up1 (up1 rfl hr524u) hr526u) rfl ?_
                      refine s_neA E99 rfl (by kernel_rfl) rfl rfl m525u m527u ?_
                      exact ⟨_, rfl, (Stp.refl _ _), I, (nwc (pf_val rfl) nwn)⟩
                    · intro ρ g I av
                      obtain ⟨v410u, hr408u, m409u⟩ := av 0 _ rfl rfl
                      obtain ⟨v413u, hr411u, m412u⟩ := av 3 _ rfl rfl
                      have hr414u := av 1 _ rfl rfl
                      have hr416u := av 2 _ rfl rfl
                      have hr418u := av 20 _ rfl rfl
                      refine ⟨_, (up1 (up1 (up1 (up1 (up1 rfl hr408u) hr411u) hr414u) hr416u) hr418u), ?_⟩
                      refine EW.condS rfl rfl (fun hb528u => ?_) (fun hb528u => ?_)
                      · replace hF2 := bif_t hb528u hF2
                        refine EW.seq ?_
                        refine EW.region (by kernel_rfl) ?_
                        refine EWL.op rfl ?_
                        refine s_as ?_
                        refine EW.ret ?_
                        have hF1 := out_ hF2 hr2
                        have hF0 := out_ hF1 hr1
                        obtain rfl := som hF0
                        refine ends1 (.inl rfl)  ?_
                        exact ret_ (g := g) I lo hZ z0 rfl rfl
                      · replace hF2 := bif_f hb528u hF2
                        refine EW.skip ?_
                        refine EW.region (by kernel_rfl) ?_
                        refine EWL.op rfl ?_
                        refine s_mv ?_
                        refine EWL.op rfl ?_
                        refine s_add rfl rfl ?_
                        refine EWL.op rfl ?_
                        refine s_as ?_
                        exact ⟨_, (som hF2).symm, g, _, _, (IntKind.i64.wrap (x360u + 1)), rfl, I, rfl, rfl, m409u, rfl, m412u, rfl, rfl⟩
                  · replace hF2 := bif_f hb371u hF2
                    refine EW.exit ?_
                    have hF1 := out_ hF2 hr2
                    exact ⟨g351u, _, _, rfl, I, hF1, rfl, m354u, rfl, m357u, rfl⟩
      · replace hF1 := bif_f hb14u hF1
        refine EW.exit ?_
        have hF0 := out_ hF1 hr1
        refine EW.seq ?_
        refine EW.region (by kernel_rfl) ?_
        refine EWL.op rfl ?_
        refine s_as ?_
        refine EW.ret ?_
        obtain rfl := som hF0
        refine ends1 (.inl rfl)  ?_
        exact ret_ (g := g4u) I lo hZ z0 rfl rfl
theorem law10uFrom_ok {g0 : GW} {Z : Nat → Prop} (hZ : ∀ c, Z c → c = 0 ∨ 4500 ≤ c) (z0 : Z 0) (lo : Lo Z g0)  {a0 : api_Cond} {ca0 : List Value} (ma0 : k_api_Cond.M g0 0 a0 ca0) {r : ref10uCond} (hF0 : law10uFrom a0 = some r) :
    Calls P 51 [.agg ca0.toArray].toArray g0.w (Rets (RR (no) Z g0 (PAg k_ref10uCond r))) := by
  refine calls_of Go.Proofs.Try.func51 rfl (Nat.le_of_ble_eq_true rfl) (by kernel_rfl) ?_
  have I : Inv (or_ (no) (iv 4400 4500)) (or_ Z (iv 4400 4500)) g0 g0 := Inv.start (lo.mono (fun _ h => .inl h))
  have fz : ¬ iv 4400 4500 0 := nz0 rfl
  unfold law10uFrom at hF0
  refine EW.seq ?_
  refine EW.region (by kernel_rfl) ?_
  refine EWL.op rfl ?_
  refine s_boxK (kd := k_api_Cond) (r := a0) 4401 I (zpv rfl) ma0 rfl rfl fun g5u b1u s6u I hb2u hl4u ha3u => ?_
  refine EWL.op rfl ?_
  refine s_newK k_ref10uCond 4402 I (zpv rfl) z26 rfl fun g12u b7u L11u s13u I hb8u hl10u ha9u => ?_
  refine EW.seq ?_
  refine EW.region (by kernel_rfl) ?_
  refine EWL.op rfl ?_
  refine s_fa f37u0 rfl ?_
  refine EWL.op rfl ?_
  refine s_ldS t23 rfl (Blk.cells (Blk.up s13u no_ hb2u)) (At.fld (At.up ha3u s13u no_ nc0) 0 rfl) ?_
  refine EWL.op rfl ?_
  refine s_fa f37u1 rfl ?_
  refine EWL.op rfl ?_
  refine s_ldS t34 rfl (Blk.cells (Blk.up s13u no_ hb2u)) (At.fld (At.up ha3u s13u no_ nc0) 1 rfl) ?_
  refine EWL.op rfl ?_
  refine s_fa f37u2 rfl ?_
  refine EWL.op rfl ?_
  refine s_ldS t23 rfl (Blk.cells (Blk.up s13u no_ hb2u)) (At.fld (At.up ha3u s13u no_ nc0) 2 rfl) ?_
  refine EWL.op rfl ?_
  refine s_fa f37u3 rfl ?_
  refine EWL.op rfl ?_
  refine s_ldK t35 rfl (Blk.cells (Blk.up s13u no_ hb2u)) (At.fld (At.up ha3u s13u no_ nc0) 3 rfl) rfl rfl fun cs14u m15u => ?_
  refine EWL.op rfl ?_
  refine s_fa f37u4 rfl ?_
  refine EWL.op rfl ?_
  refine s_ldS t23 rfl (Blk.cells (Blk.up s13u no_ hb2u)) (At.fld (At.up ha3u s13u no_ nc0) 4 rfl) ?_
  refine EWL.op rfl ?_
  refine s_bldK (kd := k_ref10uCond) (r := ({ id := a0.id, by_ := a0.by_, amount := a0.amount, hash := a0.hash, expiry := a0.expiry } : ref10uCond)) (g := g12u) zs26 Z26 l26 P26 (And.intro rfl (And.intro rfl (And.intro rfl (And.intro (congrArg some (kl (d := (kNums .u8 32)) m15u).symm) (And.intro rfl (trivial)))))) (SM.flat (fs := fs_ref10uCond) tl_ref10uCond (allc rfl (allc rfl (allc rfl (allc m15u (allc rfl alln)))))) fun cs16u m17u => ?_
  refine EWL.opn rfl ?_
  have m18u : k_ref10uCond.M g12u 0 ({ id := a0.id, by_ := a0.by_, amount := a0.amount, hash := a0.hash, expiry := a0.expiry } : ref10uCond) _ := m17u
  refine s_stK (kd := k_ref10uCond) I t26 rfl rfl m18u rfl hb8u (ble_ hl10u rfl) (by decide) nc0 (zpv rfl) fun g19u L21u s20u I hb22u hu23u hn24u => ?_
  have ha25u := hn24u
  have hl26u := hu23u.1.trans hl10u
  refine EW.ret ?_
  obtain rfl := som hF0
  refine endsC (.inl rfl) rfl (run_lvA t26 (Blk.cells hb22u) (At.fits ha25u (by decide))) ?_
  exact ret_ (g := g19u) I lo hZ z0 rfl ⟨_, rfl, Kd.upK rfl (Stp.rc g19u 4400 4500 0) fz ha25u⟩
theorem law04uFrom_ok {g0 : GW} {Z : Nat → Prop} (hZ : ∀ c, Z c → c = 0 ∨ 4600 ≤ c) (z0 : Z 0) (lo : Lo Z g0)  {a0 : lamp_Sig} {ca0 : List Value} (ma0 : k_lamp_Sig.M g0 0 a0 ca0) {r : ref04uSig} (hF0 : law04uFrom a0 = some r) :
    Calls P 64 [.agg ca0.toArray].toArray g0.w (Rets (RR (no) Z g0 (PAg k_ref04uSig r))) := by
  refine calls_of Go.Proofs.Try.func64 rfl (Nat.le_of_ble_eq_true rfl) (by kernel_rfl) ?_
  have I : Inv (or_ (no) (iv 4500 4600)) (or_ Z (iv 4500 4600)) g0 g0 := Inv.start (lo.mono (fun _ h => .inl h))
  have fz : ¬ iv 4500 4600 0 := nz0 rfl
  unfold law04uFrom at hF0
  refine EW.seq ?_
  refine EW.region (by kernel_rfl) ?_
  refine EWL.op rfl ?_
  refine s_boxK (kd := k_lamp_Sig) (r := a0) 4501 I (zpv rfl) ma0 rfl rfl fun g5u b1u s6u I hb2u hl4u ha3u => ?_
  refine EWL.op rfl ?_
  refine s_newK k_ref04uSig 4502 I (zpv rfl) z80 rfl fun g12u b7u L11u s13u I hb8u hl10u ha9u => ?_
  refine EW.seq ?_
  refine EW.region (by kernel_rfl) ?_
  refine EWL.op rfl ?_
  refine s_newK k_ref04uSig 4503 I (zpv rfl) z80 rfl fun g19u b14u L18u s20u I hb15u hl17u ha16u => ?_
  refine EW.seq ?_
  refine EW.seq ?_
  refine EW.region (by kernel_rfl) ?_
  refine EWL.op rfl ?_
  refine s_mv ?_
  refine EW.block ?_
  refine EW.loop (b := (law04uFrom_b1)) (fun (s : (Int × lamp_Sig × ref04uSig × ref04uSig)) ρ w => ∃ (g24u : GW) (x29u : Int) (L31u : List Value) (x35u : lamp_Sig) (L37u : List Value) (x41u : ref04uSig) (L43u : List Value) (x47u : ref04uSig), w = g24u.w ∧ Inv (or_ (no) (iv 4500 4600)) (or_ Z (iv 4500 4600)) g0 g24u ∧ (x29u, x35u, x41u, x47u) = s ∧ ρ 1 = .pointer (some ⟨b1u, 0, none⟩) ∧ ρ 2 = .pointer (some ⟨b7u, 0, none⟩) ∧ ρ 3 = .pointer (some ⟨b14u, 0, none⟩) ∧ ρ 5 = .int .i64 x29u ∧ Blk g24u b1u 4501 70 L31u ∧ L31u.length = 1024 ∧ At k_lamp_Sig g24u 0 x35u L31u 0 ∧ Blk g24u b7u 4502 80 L37u ∧ L37u.length = 1024 ∧ At k_ref04uSig g24u 0 x41u L37u 0 ∧ Blk g24u b14u 4503 80 L43u ∧ L43u.length = 1024 ∧ At k_ref04uSig g24u 0 x47u L43u 0) hF0 ⟨g19u, 0, _, a0, _, ref04uSig.zero, _, ref04uSig.zero, rfl, I, rfl, rfl, rfl, rfl, rfl, (Blk.up s20u no_ (Blk.up s13u no_ hb2u)), hl4u, (At.up (At.up ha3u s13u no_ nc0) s20u no_ nc0), (Blk.up s20u no_ hb8u), hl10u, (At.up ha9u s20u no_ nc0), hb15u, hl17u, ha16u⟩ ?_
  · rintro s_ o48u ρ w ⟨g24u, x29u, L31u, x35u, L37u, x41u, L43u, x47u, rfl, I, eo, hr25u, hr26u, hr27u, hr28u, hb32u, hl34u, ha33u, hb38u, hl40u, ha39u, hb44u, hl46u, ha45u⟩ hF1 hr1
    subst eo
    unfold law04uFrom_b1 at hF1
    refine EW.re (up1 (up1 (up1 (up1 rfl hr25u) hr26u) hr27u) hr28u) ?_
    refine EW.seq ?_
    refine EW.region (by kernel_rfl) ?_
    refine EWL.op rfl ?_
    refine s_lss rfl rfl ?_
    refine EW.seq ?_
    refine EW.condS rfl rfl (fun hb49u => ?_) (fun hb49u => ?_)
    · replace hF1 := bif_t hb49u hF1
      refine EW.skip ?_
      refine EW.seq ?_
      refine EW.block ?_
      refine EW.seq ?_
      refine EW.region (by kernel_rfl) ?_
      refine EWL.op rfl ?_
      refine s_mv ?_
      refine EWL.op rfl ?_
      refine s_as ?_
      obtain ⟨x50u, h51u, hF1⟩ := bnd hF1
      obtain ⟨x55u, h56u, hF1⟩ := bnd hF1
      obtain ⟨x60u, h61u, hF1⟩ := bnd hF1
      obtain ⟨x72u, h73u, hF1⟩ := bnd hF1
      refine EW.drawn [] [⟨SF.val 4 (.int .i64 x29u), none, none⟩, ⟨SF.val 1 (.pointer (some ⟨b1u, 0, none⟩)), none, none⟩, ⟨SF.bx b1u 4501 70 k_lamp_Sig rfl x35u, none, none⟩, ⟨SF.val 3 (.pointer (some ⟨b14u, 0, none⟩)), none, none⟩, ⟨SF.bx b14u 4503 80 k_ref04uSig rfl x47u, none, some 12⟩, ⟨SF.val 2 (.pointer (some ⟨b7u, 0, none⟩)), none, none⟩, ⟨SF.bx b7u 4502 80 k_ref04uSig rfl x41u, none, none⟩, ⟨SF.val 5 (.int .i64 x29u), none, none⟩, ⟨SF.val 8 (.int .i64 x29u), some 0, none⟩, ⟨SF.val 9 (.int .i64 x29u), some 1, none⟩, ⟨SF.val 10 (.int .i64 x29u), some 2, none⟩, ⟨SF.val 11 (.pointer (some ⟨b1u, 0 + 0, none⟩)), some 3, none⟩, ⟨SF.val 12 (.pointer (some ⟨b1u, 0 + 0 + (x29u).toNat * 16, none⟩)), some 4, none⟩, ⟨SF.agg 13 (kNums .u8 16) rfl x50u, some 5, none⟩, ⟨SF.val 14 (.int .i64 x29u), some 6, none⟩, ⟨SF.val 15 (.pointer (some ⟨b1u, 0 + 512, none⟩)), some 7, none⟩, ⟨SF.val 16 (.pointer (some ⟨b1u, 0 + 512 + (x29u).toNat * 16, none⟩)), some 8, none⟩, ⟨SF.agg 17 (kNums .u8 16) rfl x55u, some 9, none⟩, ⟨SF.val 18 (.pointer (some ⟨b14u, 0 + 0, none⟩)), some 10, none⟩, ⟨SF.val 19 (.pointer (some ⟨b14u, 0 + 0 + (x29u).toNat * 16, none⟩)), some 11, none⟩, ⟨SF.bx b14u 4503 80 k_ref04uSig rfl { x47u with open_ := (upd x47u.open_ x29u x50u) }, some 12, some 15⟩, ⟨SF.val 20 (.pointer (some ⟨b14u, 0 + 512, none⟩)), some 13, none⟩, ⟨SF.val 21 (.pointer (some ⟨b14u, 0 + 512 + (x29u).toNat * 16, none⟩)), some 14, none⟩, ⟨SF.bx b14u 4503 80 k_ref04uSig rfl { { x47u with open_ := (upd x47u.open_ x29u x50u) } with other := (upd { x47u with open_ := (upd x47u.open_ x29u x50u) }.other x29u x55u) }, some 15, none⟩] [(12, at_ 4503), (15, at_ 4503)] (by kernel_rfl) (by kernel_rfl) (by kernel_rfl) ?_ I ?_ (dcons ?_ (dcons ?_ (dcons ?_ (dcons ?_ (dcons ?_ (dcons ?_ (dcons ?_ (dcons ?_ (dcons ?_ (dcons ?_ (dcons ?_ (dcons ?_ (dcons ?_ (dcons ?_ (dcons ?_ (dcons ?_ dnil)))))))))))))))) ?_
      · exact (And.intro (And.intro (Nat.ne_of_beq_eq_false rfl) (And.intro trivial (And.intro trivial (And.intro (And.intro (Nat.ne_of_beq_eq_false rfl) trivial) (And.intro trivial (And.intro trivial (And.intro trivial (And.intro (And.intro (Nat.ne_of_beq_eq_false rfl) trivial) (And.intro trivial (And.intro trivial (And.intro trivial (And.intro trivial (And.intro trivial (And.intro trivial (And.intro trivial (And.intro trivial (And.intro trivial (And.intro trivial (And.intro trivial (And.intro trivial (And.intro trivial (And.intro trivial (And.intro trivial (And.intro trivial (And.intro trivial trivial))))))))))))))))))))))))) (And.intro (And.intro (Nat.ne_of_beq_eq_false rfl) (And.intro trivial (And.intro trivial (And.intro (And.intro (Nat.ne_of_beq_eq_false rfl) trivial) (And.intro trivial (And.intro trivial (And.intro trivial (And.intro (And.intro (Nat.ne_of_beq_eq_false rfl) trivial) (And.intro trivial (And.intro trivial (And.intro trivial (And.intro trivial (And.intro trivial (And.intro trivial (And.intro trivial (And.intro trivial (And.intro trivial (And.intro trivial (And.intro trivial (And.intro trivial (And.intro trivial (And.intro trivial (And.intro trivial (And.intro trivial (And.intro trivial trivial))))))))))))))))))))))))) trivial))
      · exact (nwc (pf_val rfl) (nwc (pf_val rfl) (nwc (pf_bx rfl hb32u hl34u ha33u) (nwc (pf_val rfl) (nwc (pf_bx rfl hb44u hl46u ha45u) (nwc (pf_val rfl) (nwc (pf_bx rfl hb38u hl40u ha39u) (nwc (pf_val rfl) nwn))))))))
      · intro ρ g I av
        have hr104u := av 0 _ rfl (by kernel_rfl)
        refine ddo (up1 rfl hr104u) rfl ?_
        refine s_mv ?_
        exact ⟨_, rfl, (Stp.refl _ _), I, (nwc (pf_val rfl) nwn)⟩
      · intro ρ g I av
        have hr106u := av 0 _ rfl (by kernel_rfl)
        refine ddo (up1 rfl hr106u) rfl ?_
        refine s_mv ?_
        exact ⟨_, rfl, (Stp.refl _ _), I, (nwc (pf_val rfl) nwn)⟩
      · intro ρ g I av
        have hr108u := av 0 _ rfl (by kernel_rfl)
        refine ddo (up1 rfl hr108u) rfl ?_
        refine s_mv ?_
        exact ⟨_, rfl, (Stp.refl _ _), I, (nwc (pf_val rfl) nwn)⟩
      · intro ρ g I av
        have hr110u := av 1 _ rfl (by kernel_rfl)
        refine ddo (up1 rfl hr110u) rfl ?_
        refine s_fa f70u0 rfl ?_
        exact ⟨_, rfl, (Stp.refl _ _), I, (nwc (pf_val rfl) nwn)⟩
      · intro ρ g I av
        obtain ⟨L112u, hb113u, hl114u, ha115u⟩ := av 2 _ rfl (by kernel_rfl)
        have hr116u := av 10 _ rfl (by kernel_rfl)
        have hr118u := av 11 _ rfl (by kernel_rfl)
        refine ddo (up1 (up1 rfl hr116u) hr118u) rfl ?_
        have hl120u := ixA (At.alen (At.fld ha115u 0 rfl)) h51u
        refine s_iaA ar68 t67 rfl rfl hl120u.1 hl120u.2.2 ?_
        exact ⟨_, rfl, (Stp.refl _ _), I, (nwc (pf_val rfl) nwn)⟩
      · intro ρ g I av
        obtain ⟨L121u, hb122u, hl123u, ha124u⟩ := av 2 _ rfl (by kernel_rfl)
        have hr125u := av 12 _ rfl (by kernel_rfl)
        have hl127u := ixA (At.alen (At.fld ha124u 0 rfl)) h51u
        refine ddo (up1 rfl hr125u) rfl ?_
        refine s_ldK t67 rfl (Blk.cells hb122u) (At.eltI (At.fld ha124u 0 rfl) h51u) rfl rfl fun cs128u m129u => ?_
        exact ⟨_, rfl, (Stp.refl _ _), I, (nwc (pf_agg rfl rfl m129u) nwn)⟩
      · intro ρ g I av
        have hr130u := av 0 _ rfl (by kernel_rfl)
        refine ddo (up1 rfl hr130u) rfl ?_
        refine s_mv ?_
        exact ⟨_, rfl, (Stp.refl _ _), I, (nwc (pf_val rfl) nwn)⟩
      · intro ρ g I av
        have hr132u := av 1 _ rfl (by kernel_rfl)
        refine ddo (up1 rfl hr132u) rfl ?_
        refine s_fa f70u1 rfl ?_
        exact ⟨_, rfl, (Stp.refl _ _), I, (nwc (pf_val rfl) nwn)⟩
      · intro ρ g I av
        obtain ⟨L134u, hb135u, hl136u, ha137u⟩ := av 2 _ rfl (by kernel_rfl)
        have hr138u := av 14 _ rfl (by kernel_rfl)
        have hr140u := av 15 _ rfl (by kernel_rfl)
        refine ddo (up1 (up1 rfl hr138u) hr140u) rfl ?_
        have hl142u := ixA (At.alen (At.fld ha137u 1 rfl)) h56u
        refine s_iaA ar68 t67 rfl rfl hl142u.1 hl142u.2.2 ?_
        exact ⟨_, rfl, (Stp.refl _ _), I, (nwc (pf_val rfl) nwn)⟩
      · intro ρ g I av
        obtain ⟨L143u, hb144u, hl145u, ha146u⟩ := av 2 _ rfl (by kernel_rfl)
        have hr147u := av 16 _ rfl (by kernel_rfl)
        have hl149u := ixA (At.alen (At.fld ha146u 1 rfl)) h56u
        refine ddo (up1 rfl hr147u) rfl ?_
        refine s_ldK t67 rfl (Blk.cells hb144u) (At.eltI (At.fld ha146u 1 rfl) h56u) rfl rfl fun cs150u m151u => ?_
        exact ⟨_, rfl, (Stp.refl _ _), I, (nwc (pf_agg rfl rfl m151u) nwn)⟩
      · intro ρ g I av
        have hr152u := av 3 _ rfl (by kernel_rfl)
        refine ddo (up1 rfl hr152u) rfl ?_
        refine s_fa f80u0 rfl ?_
        exact ⟨_, rfl, (Stp.refl _ _), I, (nwc (pf_val rfl) nwn)⟩
      · intro ρ g I av
        obtain ⟨L154u, hb155u, hl156u, ha157u⟩ := av 4 _ rfl (by kernel_rfl)
        have hr158u := av 8 _ rfl (by kernel_rfl)
        have hr160u := av 18 _ rfl (by kernel_rfl)
        refine ddo (up1 (up1 rfl hr158u) hr160u) rfl ?_
        have hl162u := ixA (At.alen (At.fld ha157u 0 rfl)) h61u
        refine s_iaA ar78 t77 rfl rfl hl162u.1 hl162u.2.2 ?_
        exact ⟨_, rfl, (Stp.refl _ _), I, (nwc (pf_val rfl) nwn)⟩
      · intro ρ g I av
        obtain ⟨L163u, hb164u, hl165u, ha166u⟩ := av 4 _ rfl (by kernel_rfl)
        obtain ⟨_, hr167u, m168u⟩ := av 13 _ rfl (by kernel_rfl)
        have hr169u := av 19 _ rfl (by kernel_rfl)
        have hl171u := ixA (At.alen (At.fld ha166u 0 rfl)) h61u
        refine ddon (up1 (up1 rfl hr167u) hr169u) rfl ?_
        have m172u : (kNums .u8 16).M g 0 x50u _ := m168u
        refine s_stP (kd := (kNums .u8 16)) I t77 rfl rfl m172u rfl hb164u (At.fits (At.eltI (At.fld ha166u 0 rfl) h61u) (by decide)) (by decide) nc0 (zpv rfl) fun g173u L175u s174u I hb176u hu177u hn178u => ?_
        have ha179u := (At.setFJ 512 (At.up ha166u s174u (Nat.ne_of_beq_eq_false rfl) nc0) 0 rfl (S80u0 _ _) rfl hu177u (by omega) (by omega) (At.setEJ 16 (At.fld (At.up ha166u s174u (Nat.ne_of_beq_eq_false rfl) nc0) 0 rfl) rfl h61u hu177u (by omega) (by omega) hn178u))
        have hl180u := hu177u.1.trans hl165u
        exact ⟨_, rfl, s174u, I, (nwc (pf_bx rfl hb176u hl180u ha179u) nwn)⟩
      · intro ρ g I av
        have hr181u := av 3 _ rfl (by kernel_rfl)
        refine ddo (up1 rfl hr181u) rfl ?_
        refine s_fa f80u1 rfl ?_
        exact ⟨_, rfl, (Stp.refl _ _), I, (nwc (pf_val rfl) nwn)⟩
      · intro ρ g I av
        obtain ⟨L183u, hb184u, hl185u, ha186u⟩ := av 20 _ rfl (by kernel_rfl)
        have hr187u := av 9 _ rfl (by kernel_rfl)
        have hr189u := av 21 _ rfl (by kernel_rfl)
        refine ddo (up1 (up1 rfl hr187u) hr189u) rfl ?_
        have hl191u := ixA (At.alen (At.fld ha186u 1 rfl)) h73u
        refine s_iaA ar78 t77 rfl rfl hl191u.1 hl191u.2.2 ?_
        exact ⟨_, rfl, (Stp.refl _ _), I, (nwc (pf_val rfl) nwn)⟩
      · intro ρ g I av
        obtain ⟨L192u, hb193u, hl194u, ha195u⟩ := av 20 _ rfl (by kernel_rfl)
        obtain ⟨_, hr196u, m197u⟩ := av 17 _ rfl (by kernel_rfl)
        have hr198u := av 22 _ rfl (by kernel_rfl)
        have hl200u := ixA (At.alen (At.fld ha195u 1 rfl)) h73u
        refine ddon (up1 (up1 rfl hr196u) hr198u) rfl ?_
        have m201u : (kNums .u8 16).M g 0 x55u _ := m197u
        refine s_stP (kd := (kNums .u8 16)) I t77 rfl rfl m201u rfl hb193u (At.fits (At.eltI (At.fld ha195u 1 rfl) h73u) (by decide)) (by decide) nc0 (zpv rfl) fun g202u L204u s203u I hb205u hu206u hn207u => ?_
        have ha208u := (At.setFJ 512 (At.up ha195u s203u (Nat.ne_of_beq_eq_false rfl) nc0) 1 rfl (S80u1 _ _) rfl hu206u (by omega) (by omega) (At.setEJ 16 (At.fld (At.up ha195u s203u (Nat.ne_of_beq_eq_false rfl) nc0) 1 rfl) rfl h73u hu206u (by omega) (by omega) hn207u))
        have hl209u := hu206u.1.trans hl194u
        exact ⟨_, rfl, s203u, I, (nwc (pf_bx rfl hb205u hl209u ha208u) nwn)⟩
      · intro ρ g I av
        obtain ⟨L84u, hb85u, hl86u, ha87u⟩ := av 2 _ rfl rfl
        obtain ⟨L88u, hb89u, hl90u, ha91u⟩ := av 6 _ rfl rfl
        obtain ⟨L92u, hb93u, hl94u, ha95u⟩ := av 23 _ rfl rfl
        have hr96u := av 1 _ rfl rfl
        have hr98u := av 5 _ rfl rfl
        have hr100u := av 3 _ rfl rfl
        have hr102u := av 7 _ rfl rfl
        refine ⟨_, (up1 (up1 (up1 (up1 rfl hr96u) hr98u) hr100u) hr102u), ?_⟩
        refine EW.region (by kernel_rfl) ?_
        refine EWL.op rfl ?_
        refine s_add rfl rfl ?_
        refine EWL.op rfl ?_
        refine s_mv ?_
        exact ⟨_, (som hF1).symm, g, (IntKind.i64.wrap (x29u + 1)), _, x35u, _, x41u, _, { { x47u with open_ := (upd x47u.open_ x29u x50u) } with other := (upd { x47u with open_ := (upd x47u.open_ x29u x50u) }.other x29u x55u) }, rfl, I, rfl, rfl, rfl, rfl, rfl, hb85u, hl86u, ha87u, hb89u, hl90u, ha91u, hb93u, hl94u, ha95u⟩
    · replace hF1 := bif_f hb49u hF1
      refine EW.exit ?_
      have hF0 := out_ hF1 hr1
      refine EW.seq ?_
      refine EW.region (by kernel_rfl) ?_
      refine EWL.op rfl ?_
      refine s_ldK t80 rfl (Blk.cells hb44u) ha45u rfl rfl fun cs210u m211u => ?_
      refine EWL.opn rfl ?_
      have m212u : k_ref04uSig.M g24u 0 x47u _ := m211u
      refine s_stK (kd := k_ref04uSig) I t80 rfl rfl m212u rfl hb38u (ble_ hl40u rfl) (by decide) nc0 (zpv rfl) fun g213u L215u s214u I hb216u hu217u hn218u => ?_
      have ha219u := hn218u
      have hl220u := hu217u.1.trans hl40u
      refine EW.ret ?_
      obtain rfl := som hF0
      refine endsC (.inl rfl) rfl (run_lvA t80 (Blk.cells hb216u) (At.fits ha219u (by decide))) ?_
      exact ret_ (g := g213u) I lo hZ z0 rfl ⟨_, rfl, Kd.upK rfl (Stp.rc g213u 4500 4600 0) fz ha219u⟩
theorem law05uFrom_ok {g0 : GW} {Z : Nat → Prop} (hZ : ∀ c, Z c → c = 0 ∨ 4700 ≤ c) (z0 : Z 0) (lo : Lo Z g0)  {a0 : ring_Sig} {ca0 : List Value} (ma0 : k_ring_Sig.M g0 0 a0 ca0) {r : ref05uSig} (hF0 : law05uFrom a0 = some r) :
    Calls P 52 [.agg ca0.toArray].toArray g0.w (Rets (RR (no) Z g0 (PAg k_ref05uSig r))) := by
  refine calls_of Go.Proofs.Try.func52 rfl (Nat.le_of_ble_eq_true rfl) (by kernel_rfl) ?_
  have I : Inv (or_ (no) (iv 4600 4700)) (or_ Z (iv 4600 4700)) g0 g0 := Inv.start (lo.mono (fun _ h => .inl h))
  have fz : ¬ iv 4600 4700 0 := nz0 rfl
  unfold law05uFrom at hF0
  refine EW.seq ?_
  refine EW.region (by kernel_rfl) ?_
  refine EWL.op rfl ?_
  refine s_boxK (kd := k_ring_Sig) (r := a0) 4601 I (zpv rfl) ma0 rfl rfl fun g5u b1u s6u I hb2u hl4u ha3u => ?_
  refine EWL.op rfl ?_
  refine s_newK (h_ref05uSig (.slice none 0 0)) 4602 I (zpv rfl) z83 rfl fun g12u b7u L11u s13u I hb8u hl10u ha9u => ?_
  refine EW.seq ?_
  obtain ⟨r16u, h17u, hF0⟩ := bnd hF0
  refine EW.drawn [] [⟨SF.val 1 (.pointer (some ⟨b1u, 0, none⟩)), none, none⟩, ⟨SF.bx b1u 4601 73 k_ring_Sig rfl a0, none, none⟩, ⟨SF.val 2 (.pointer (some ⟨b7u, 0, none⟩)), none, none⟩, ⟨SF.bx b7u 4602 83 (h_ref05uSig (.slice none 0 0)) rfl ref05uSig.zero, none, none⟩, ⟨SF.val 6 (.pointer (some ⟨b1u, 0 + 0, none⟩)), some 0, none⟩, ⟨SF.agg 7 k_lamp_Sig rfl a0.sig, some 1, none⟩, ⟨SF.agg 8 k_ref04uSig rfl r16u, some 2, none⟩, ⟨SF.val 9 (.pointer (some ⟨b1u, 0 + 1024, none⟩)), some 3, none⟩, ⟨SF.val 10 (.int .u32 a0.key), some 4, none⟩, ⟨SF.agg 11 (h_ref05uSig (.slice none 0 0)) rfl ({ s := r16u, key := a0.key, way := [] } : ref05uSig), some 5, none⟩, ⟨SF.box 3 4605 83 (h_ref05uSig (.slice none 0 0)) rfl ref05uSig.zero, some 6, some 7⟩, ⟨SF.box 3 4605 83 (h_ref05uSig (.slice none 0 0)) rfl ({ s := r16u, key := a0.key, way := [] } : ref05uSig), some 7, none⟩] [(7, at_ 4605)] (by kernel_rfl) (by kernel_rfl) (by kernel_rfl) ?_ I ?_ (dcons ?_ (dcons ?_ (dcons ?_ (dcons ?_ (dcons ?_ (dcons ?_ (dcons ?_ (dcons ?_ dnil)))))))) ?_
  · exact (And.intro (And.intro (Nat.ne_of_beq_eq_false rfl) (And.intro trivial (And.intro (And.intro (Nat.ne_of_beq_eq_false rfl) trivial) (And.intro trivial (And.intro (And.intro (Nat.ne_of_beq_eq_false rfl) trivial) (And.intro trivial (And.intro trivial (And.intro trivial (And.intro trivial (And.intro trivial (And.intro trivial (And.intro trivial (And.intro trivial trivial))))))))))))) trivial)
  · exact (nwc (pf_val rfl) (nwc (pf_bx rfl (Blk.up s13u no_ hb2u) hl4u (At.up ha3u s13u no_ nc0)) (nwc (pf_val rfl) (nwc (pf_bx rfl hb8u hl10u ha9u) nwn))))
  · intro ρ g I av
    have hr60u := av 0 _ rfl (by kernel_rfl)
    refine ddo (up1 rfl hr60u) rfl ?_
    refine s_fa f73u0 rfl ?_
    exact ⟨_, rfl, (Stp.refl _ _), I, (nwc (pf_val rfl) nwn)⟩
  · intro ρ g I av
    obtain ⟨L62u, hb63u, hl64u, ha65u⟩ := av 1 _ rfl (by kernel_rfl)
    have hr66u := av 4 _ rfl (by kernel_rfl)
    refine ddo (up1 rfl hr66u) rfl ?_
    refine s_ldK t70 rfl (Blk.cells hb63u) (At.fld ha65u 0 rfl) rfl rfl fun cs68u m69u => ?_
    exact ⟨_, rfl, (Stp.refl _ _), I, (nwc (pf_agg rfl rfl m69u) nwn)⟩
  · intro ρ g I av
    obtain ⟨_, hr70u, m71u⟩ := av 5 _ rfl (by kernel_rfl)
    refine ddo (up1 rfl hr70u) rfl ?_
    refine s_cf I k64 rfl (law04uFrom_ok (zle hZ rfl rfl) (.inl z0) I.l m71u h17u) no_any fun g74u v72u s75u I p73u => ?_
    obtain ⟨cs76u, rfl, m77u⟩ := p73u
    exact ⟨_, rfl, s75u, I, (nwc (pf_agg rfl rfl m77u) nwn)⟩
  · intro ρ g I av
    have hr78u := av 0 _ rfl (by kernel_rfl)
    refine ddo (up1 rfl hr78u) rfl ?_
    refine s_fa f73u1 rfl ?_
    exact ⟨_, rfl, (Stp.refl _ _), I, (nwc (pf_val rfl) nwn)⟩
  · intro ρ g I av
    obtain ⟨L80u, hb81u, hl82u, ha83u⟩ := av 1 _ rfl (by kernel_rfl)
    have hr84u := av 7 _ rfl (by kernel_rfl)
    refine ddo (up1 rfl hr84u) rfl ?_
    refine s_ldS t65 rfl (Blk.cells hb81u) (At.fld ha83u 1 rfl) ?_
    exact ⟨_, rfl, (Stp.refl _ _), I, (nwc (pf_val rfl) nwn)⟩
  · intro ρ g I av
    obtain ⟨_, hr86u, m87u⟩ := av 6 _ rfl (by kernel_rfl)
    have hr88u := av 8 _ rfl (by kernel_rfl)
    refine ddo (up1 (up1 rfl hr86u) hr88u) rfl ?_
    refine s_bldK (kd := (h_ref05uSig (.slice none 0 0))) (r := ({ s := r16u, key := a0.key, way := [] } : ref05uSig)) (g := g) zs83 Z83 l83 P83 (And.intro (congrArg some (kl (d := k_ref04uSig) m87u).symm) (And.intro rfl (trivial))) (SM.flat (fs := hs_ref05uSig (.slice none 0 0)) (htl_ref05uSig (.slice none 0 0)) (allc m87u (allc rfl (allc (And.intro rfl rfl) alln)))) fun cs90u m91u => ?_
    exact ⟨_, rfl, (Stp.refl _ _), I, (nwc (pf_agg rfl rfl m91u) nwn)⟩
  · intro ρ g I av
    refine ddo rfl rfl ?_
    refine s_newK (h_ref05uSig (.slice none 0 0)) 4605 I (zpv rfl) z83 rfl fun g97u b92u L96u s98u I hb93u hl95u ha94u => ?_
    exact ⟨_, rfl, s98u, I, (nwc (pf_box rfl rfl hb93u hl95u ha94u) nwn)⟩
  · intro ρ g I av
    obtain ⟨b103u, L99u, hr104u, hb100u, hl101u, ha102u⟩ := av 10 _ rfl (by kernel_rfl)
    obtain ⟨_, hr105u, m106u⟩ := av 9 _ rfl (by kernel_rfl)
    refine ddon (up1 (up1 rfl hr104u) hr105u) rfl ?_
    have m107u : (h_ref05uSig (.slice none 0 0)).M g 0 ({ s := r16u, key := a0.key, way := [] } : ref05uSig) _ := m106u
    refine s_stK (kd := (h_ref05uSig (.slice none 0 0))) I t83 rfl rfl m107u rfl hb100u (ble_ hl101u rfl) (by decide) nc0 (zpv rfl) fun g108u L110u s109u I hb111u hu112u hn113u => ?_
    have ha114u := hn113u
    have hl115u := hu112u.1.trans hl101u
    exact ⟨_, rfl, s109u, I, (nwc (pf_box rfl rfl hb111u hl115u ha114u) nwn)⟩
  · intro ρ g I av
    obtain ⟨L42u, hb43u, hl44u, ha45u⟩ := av 1 _ rfl rfl
    obtain ⟨L46u, hb47u, hl48u, ha49u⟩ := av 3 _ rfl rfl
    obtain ⟨b54u, L50u, hr55u, hb51u, hl52u, ha53u⟩ := av 11 _ rfl rfl
    have hr56u := av 0 _ rfl rfl
    have hr58u := av 2 _ rfl rfl
    refine ⟨_, (up1 (up1 (up1 rfl hr55u) hr56u) hr58u), ?_⟩
    refine EW.seq ?_
    refine EW.seq ?_
    refine EW.region (by kernel_rfl) ?_
    refine EWL.op rfl ?_
    refine s_fa f73u2 rfl ?_
    refine EWL.op rfl ?_
    refine s_ldSl t71 rfl (Blk.cells hb43u) (At.fld ha45u 2 rfl) fun v116u m117u => ?_
    refine EWL.op rfl ?_
    refine s_lenR (kd := (kNums .u8 32)) (xs := a0.way) s71 rfl (Sl.rs m117u) ?_
    refine EWL.op rfl ?_
    refine s_mv ?_
    refine EW.block ?_
    refine EW.loop (b := (law05uFrom_b1 a0 r16u)) (fun (s : (Int × (List (List Int)))) ρ w => ∃ (g121u : GW) (v125u : Value) (x129u : Int) (L131u : List Value) (v135u : Value) (L138u : List Value) (x144u : (List (List Int))) (v142u : Value), w = g121u.w ∧ Inv (or_ (no) (iv 4600 4700)) (or_ Z (iv 4600 4700)) g0 g121u ∧ (x129u, x144u) = s ∧ ρ 2 = .pointer (some ⟨b7u, 0, none⟩) ∧ ρ 3 = .pointer (some ⟨b54u, 0, none⟩) ∧ ρ 13 = v125u ∧ Sl (kNums .u8 32) g121u 0 a0.way v125u ∧ ρ 14 = .int .i64 (a0.way.length : Int) ∧ ρ 15 = .int .i64 x129u ∧ Row 24 (kNums .u8 32) g121u 4603 ([]) v135u ∧ Blk g121u b7u 4602 83 L131u ∧ L131u.length = 1026 ∧ At (h_ref05uSig v135u) g121u 0 ref05uSig.zero L131u 0 ∧ Row 24 (kNums .u8 32) g121u 4604 x144u v142u ∧ Blk g121u b54u 4605 83 L138u ∧ L138u.length = 1026 ∧ At (h_ref05uSig v142u) g121u 0 ({ s := r16u, key := a0.key, way := [] } : ref05uSig) L138u 0) hF0 ⟨g, _, 0, _, (.slice none 0 0), _, ([] : List (List Int)), (.slice none 0 0), rfl, I, rfl, rfl, rfl, rfl, m117u, rfl, rfl, Row.none, hb47u, hl48u, ha49u, Row.none, hb51u, hl52u, ha53u⟩ ?_
    · rintro s_ o145u ρ w ⟨g121u, v125u, x129u, L131u, v135u, L138u, x144u, v142u, rfl, I, eo, hr122u, hr123u, hr124u, m126u, hr127u, hr128u, m136u, hb132u, hl134u, ha133u, m143u, hb139u, hl141u, ha140u⟩ hF1 hr1
      subst eo
      unfold law05uFrom_b1 at hF1
      refine EW.re (up1 (up1 (up1 (up1 (up1 rfl hr122u) hr123u) hr124u) hr127u) hr128u) ?_
      refine EW.seq ?_
      refine EW.region (by kernel_rfl) ?_
      refine EWL.op rfl ?_
      refine s_lss rfl rfl ?_
      refine EW.seq ?_
      refine EW.condS rfl rfl (fun hb146u => ?_) (fun hb146u => ?_)
      · replace hF1 := bif_t hb146u hF1
        refine EW.skip ?_
        refine EW.seq ?_
        refine EW.block ?_
        refine EW.seq ?_
        refine EW.region (by kernel_rfl) ?_
        refine EWL.op rfl ?_
        obtain ⟨x147u, h148u, hF1⟩ := bnd hF1
        refine s_idxS s71 t132 rfl m126u rfl h148u fun b149u o150u L151u hc152u ha153u => ?_
        refine EWL.op rfl ?_
        refine s_ldK t132 rfl (Imm.cells hc152u) ha153u rfl rfl fun cs154u m155u => ?_
        refine EWL.op rfl ?_
        refine s_newK (kNums .u8 32) 4607 I (zpv rfl) z132 rfl fun g161u b156u L160u s162u I hb157u hl159u ha158u => ?_
        refine EWL.opn rfl ?_
        have m163u : (kNums .u8 32).M g161u 0 x147u _ := (Kd.upK rfl s162u no_ m155u)
        refine s_stK (kd := (kNums .u8 32)) I t132 rfl rfl m163u rfl hb157u (ble_ hl159u rfl) (by decide) nc0 (zpv rfl) fun g164u L166u s165u I hb167u hu168u hn169u => ?_
        have ha170u := hn169u
        have hl171u := hu168u.1.trans hl159u
        refine EW.region (by kernel_rfl) ?_
        refine EWL.op rfl ?_
        refine s_fa f83u2 rfl ?_
        refine EWL.op rfl ?_
        refine s_ldFix t81 rfl (Blk.cells (Blk.up s165u (Nat.ne_of_beq_eq_false rfl) (Blk.up s162u no_ hb139u))) (At.fld (At.up (At.up ha140u s162u no_ nc0) s165u (Nat.ne_of_beq_eq_false rfl) nc0) 2 rfl) ?_
        refine EWL.op rfl ?_
        refine s_ldK t132 rfl (Blk.cells hb167u) ha170u rfl rfl fun cs172u m173u => ?_
        refine EWL.op rfl ?_
        refine s_bslK (kd := (kNums .u8 32)) (xs := ([x147u] : List (List Int))) 4608 I s81 t24 z24 rfl rfl (by decide) rfl (by decide) (And.intro (congrArg some (kl (d := (kNums .u8 32)) m173u).symm) (trivial)) (Seg.flat (d := (kNums .u8 32)) (g := g164u) (alls m173u alle)) rfl (zpv rfl) fun g176u v174u s177u I m175u => ?_
        refine EWL.op rfl ?_
        obtain ⟨l178u, h179u, hF1⟩ := bnd hF1
        refine s_app (kd := (kNums .u8 32)) I s81 rfl s81 t24 z24 rfl (Row.up rfl s177u no_ no_ (Row.up rfl s165u (Nat.ne_of_beq_eq_false rfl) (Nat.ne_of_beq_eq_false rfl) (Row.up rfl s162u no_ no_ m143u))) (Sl.rs (Row.sl m175u)) h179u (by decide) (zpv rfl) (zpv rfl) fun g182u v180u s183u I m181u => ?_
        refine EWL.op rfl ?_
        refine s_fa f83u2 rfl ?_
        refine EWL.opn rfl ?_
        have m184u : (kFix v180u []).M g182u 0 (l178u : List (List Int)) _ := Row.fix m181u
        refine s_stK (kd := (kFix v180u ([] : List (List Int)))) I t81 rfl rfl m184u rfl (Blk.up s183u (Nat.ne_of_beq_eq_false rfl) (Blk.up s177u no_ (Blk.up s165u (Nat.ne_of_beq_eq_false rfl) (Blk.up s162u no_ hb139u)))) (ble_ hl141u rfl) (by decide) nc0 (zpv rfl) fun g185u L187u s186u I hb188u hu189u hn190u => ?_
        have ha191u : At (h_ref05uSig v180u) g185u 0 ({ s := r16u, key := a0.key, way := [] } : ref05uSig) L187u 0 := At.setG (At.up (At.up (At.up (At.up (At.up ha140u s162u no_ nc0) s165u (Nat.ne_of_beq_eq_false rfl) nc0) s177u no_ nc0) s183u (Nat.ne_of_beq_eq_false rfl) nc0) s186u (Nat.ne_of_beq_eq_false rfl) nc0) 2 rfl rfl (D83u2 _ _ v142u v180u) rfl hu189u (Nat.le_refl _) (Nat.le_refl _) hn190u
        have hl192u := hu189u.1.trans hl141u
        refine EW.region (by kernel_rfl) ?_
        refine EWL.op rfl ?_
        refine s_add rfl rfl ?_
        refine EWL.op rfl ?_
        refine s_mv ?_
        exact ⟨_, (som hF1).symm, g185u, _, (IntKind.i64.wrap (x129u + 1)), _, v135u, _, l178u, v180u, rfl, I, rfl, rfl, rfl, rfl, (Sl.up rfl s186u (Nat.ne_of_beq_eq_false rfl) (Nat.ne_of_beq_eq_false rfl) (Sl.up rfl s183u (Nat.ne_of_beq_eq_false rfl) (Nat.ne_of_beq_eq_false rfl) (Sl.up rfl s177u no_ no_ (Sl.up rfl s165u (Nat.ne_of_beq_eq_false rfl) (Nat.ne_of_beq_eq_false rfl) (Sl.up rfl s162u no_ no_ m126u))))), rfl, rfl, (Row.up rfl s186u (Nat.ne_of_beq_eq_false rfl) (Nat.ne_of_beq_eq_false rfl) (Row.up rfl s183u (Nat.ne_of_beq_eq_false rfl) (Nat.ne_of_beq_eq_false rfl) (Row.up rfl s177u no_ no_ (Row.up rfl s165u (Nat.ne_of_beq_eq_false rfl) (Nat.ne_of_beq_eq_false rfl) (Row.up rfl s162u no_ no_ m136u))))), (Blk.up s186u (Nat.ne_of_beq_eq_false rfl) (Blk.up s183u (Nat.ne_of_beq_eq_false rfl) (Blk.up s177u no_ (Blk.up s165u (Nat.ne_of_beq_eq_false rfl) (Blk.up s162u no_ hb132u))))), hl134u, (At.up (At.up (At.up (At.up (At.up ha133u s162u no_ nc0) s165u (Nat.ne_of_beq_eq_false rfl) nc0) s177u no_ nc0) s183u (Nat.ne_of_beq_eq_false rfl) nc0) s186u (Nat.ne_of_beq_eq_false rfl) nc0), (Row.up rfl s186u (Nat.ne_of_beq_eq_false rfl) (Nat.ne_of_beq_eq_false rfl) m181u), hb188u, hl192u, ha191u⟩
      · replace hF1 := bif_f hb146u hF1
        refine EW.exit ?_
        have hF0 := out_ hF1 hr1
        refine EW.seq ?_
        refine EW.region (by kernel_rfl) ?_
        refine EWL.op rfl ?_
        have m193u := Row.rc rfl (by decide) m143u 0
        have s195u := Stp.rc1 g121u 4604 0
        replace I := I.to s195u (Lo.rc (d := 0) I.l (.inl z0)) (at_in (zpv rfl))
        obtain ⟨g194u, rc_⟩ : ∃ q, q = g121u.rc 4604 (4604 + 1) 0 := ⟨_, rfl⟩
        rw [← rc_] at m193u s195u I
        refine stp.wld (w := g194u.w) (by rw [rc_]; rfl) ?_
        clear rc_
        have ha196u := frz_ref05uSig (At.up ha140u s195u (Nat.ne_of_beq_eq_false rfl) nc0) (Row.sl m193u)
        have hb197u := (Blk.up s195u (Nat.ne_of_beq_eq_false rfl) hb139u)
        refine s_ldK t83 rfl (Blk.cells hb197u) ha196u rfl rfl fun cs198u m199u => ?_
        refine EWL.opn rfl ?_
        have m200u : k_ref05uSig.M g194u 0 ({ s := r16u, key := a0.key, way := x144u } : ref05uSig) _ := m199u
        refine s_stK (kd := k_ref05uSig) I t83 rfl rfl m200u rfl (Blk.up s195u (Nat.ne_of_beq_eq_false rfl) hb132u) (ble_ hl134u rfl) (by decide) nc0 (zpv rfl) fun g201u L203u s202u I hb204u hu205u hn206u => ?_
        have ha207u := hn206u
        have hl208u := hu205u.1.trans hl134u
        refine EW.ret ?_
        obtain rfl := som hF0
        refine endsC (.inl rfl) rfl (run_lvA t83 (Blk.cells hb204u) (At.fits ha207u (by decide))) ?_
        exact ret_ (g := g201u) I lo hZ z0 rfl ⟨_, rfl, Kd.upK rfl (Stp.rc g201u 4600 4700 0) fz ha207u⟩
theorem law18uFrom_ok {g0 : GW} {Z : Nat → Prop} (hZ : ∀ c, Z c → c = 0 ∨ 4800 ≤ c) (z0 : Z 0) (lo : Lo Z g0)  {a0 : memo_Memo} {ca0 : List Value} (ma0 : k_memo_Memo.M g0 0 a0 ca0) {r : ref18uMemo} (hF0 : law18uFrom a0 = some r) :
    Calls P 29 [.agg ca0.toArray].toArray g0.w (Rets (RR (no) Z g0 (PAg k_ref18uMemo r))) := by
  refine calls_of Go.Proofs.Try.func29 rfl (Nat.le_of_ble_eq_true rfl) (by kernel_rfl) ?_
  have I : Inv (or_ (no) (iv 4700 4800)) (or_ Z (iv 4700 4800)) g0 g0 := Inv.start (lo.mono (fun _ h => .inl h))
  have fz : ¬ iv 4700 4800 0 := nz0 rfl
  unfold law18uFrom at hF0
  refine EW.seq ?_
  refine EW.region (by kernel_rfl) ?_
  refine EWL.op rfl ?_
  refine s_boxK (kd := k_memo_Memo) (r := a0) 4701 I (zpv rfl) ma0 rfl rfl fun g5u b1u s6u I hb2u hl4u ha3u => ?_
  refine EWL.op rfl ?_
  refine s_newK (h_ref18uMemo (.slice none 0 0)) 4702 I (zpv rfl) z85 rfl fun g12u b7u L11u s13u I hb8u hl10u ha9u => ?_
  refine EW.seq ?_
  obtain ⟨r16u, h17u, hF0⟩ := bnd hF0
  obtain ⟨r28u, h29u, hF0⟩ := bnd hF0
  refine EW.drawn [] [⟨SF.val 1 (.pointer (some ⟨b1u, 0, none⟩)), none, none⟩, ⟨SF.bx b1u 4701 75 k_memo_Memo rfl a0, none, none⟩, ⟨SF.val 2 (.pointer (some ⟨b7u, 0, none⟩)), none, none⟩, ⟨SF.bx b7u 4702 85 (h_ref18uMemo (.slice none 0 0)) rfl ref18uMemo.zero, none, none⟩, ⟨SF.val 6 (.pointer (some ⟨b1u, 0 + 0, none⟩)), some 0, none⟩, ⟨SF.val 7 (.int .i64 a0.kind), some 1, none⟩, ⟨SF.val 8 (.pointer (some ⟨b1u, 0 + 1, none⟩)), some 2, none⟩, ⟨SF.val 9 (.int .u32 a0.channel), some 3, none⟩, ⟨SF.val 10 (.pointer (some ⟨b1u, 0 + 2, none⟩)), some 4, none⟩, ⟨SF.val 11 (.int .u64 a0.round), some 5, none⟩, ⟨SF.val 12 (.pointer (some ⟨b1u, 0 + 3, none⟩)), some 6, none⟩, ⟨SF.val 13 (.pointer (some ⟨b1u, 0 + 3 + 0, none⟩)), some 7, none⟩, ⟨SF.val 14 (.int .i64 a0.op.kind), some 8, none⟩, ⟨SF.val 15 (.pointer (some ⟨b1u, 0 + 3, none⟩)), some 9, none⟩, ⟨SF.val 16 (.pointer (some ⟨b1u, 0 + 3 + 1, none⟩)), some 10, none⟩, ⟨SF.val 17 (.int .u64 a0.op.amount), some 11, none⟩, ⟨SF.val 18 (.pointer (some ⟨b1u, 0 + 3, none⟩)), some 12, none⟩, ⟨SF.val 19 (.pointer (some ⟨b1u, 0 + 3 + 2, none⟩)), some 13, none⟩, ⟨SF.agg 20 k_api_Cond rfl a0.op.cond, some 14, none⟩, ⟨SF.agg 21 k_ref10uCond rfl r16u, some 15, none⟩, ⟨SF.val 22 (.pointer (some ⟨b1u, 0 + 3, none⟩)), some 16, none⟩, ⟨SF.val 23 (.pointer (some ⟨b1u, 0 + 3 + 38, none⟩)), some 17, none⟩, ⟨SF.val 24 (.int .u64 a0.op.id), some 18, none⟩, ⟨SF.agg 25 k_ref12uOp rfl ({ kind := a0.op.kind, amount := a0.op.amount, cond := r16u, id := a0.op.id } : ref12uOp), some 19, none⟩, ⟨SF.val 26 (.pointer (some ⟨b1u, 0 + 43, none⟩)), some 20, none⟩, ⟨SF.agg 27 k_ring_Sig rfl a0.sig, some 21, none⟩, ⟨SF.agg 28 k_ref05uSig rfl r28u, some 22, none⟩, ⟨SF.agg 29 (h_ref18uMemo (.slice none 0 0)) rfl ({ kind := a0.kind, channel := a0.channel, round := a0.round, op := ({ kind := a0.op.kind, amount := a0.op.amount, cond := r16u, id := a0.op.id } : ref12uOp), trail := [], sig := r28u } : ref18uMemo), some 23, none⟩, ⟨SF.box 3 4705 85 (h_ref18uMemo (.slice none 0 0)) rfl ref18uMemo.zero, some 24, some 25⟩, ⟨SF.box 3 4705 85 (h_ref18uMemo (.slice none 0 0)) rfl ({ kind := a0.kind, channel := a0.channel, round := a0.round, op := ({ kind := a0.op.kind, amount := a0.op.amount, cond := r16u, id := a0.op.id } : ref12uOp), trail := [], sig := r28u } : ref18uMemo), some 25, none⟩] [(25, at_ 4705)] (by kernel_rfl) (by kernel_rfl) (by kernel_rfl) ?_ I ?_ (dcons ?_ (dcons ?_ (dcons ?_ (dcons ?_ (dcons ?_ (dcons ?_ (dcons ?_ (dcons ?_ (dcons ?_ (dcons ?_ (dcons ?_ (dcons ?_ (dcons ?_ (dcons ?_ (dcons ?_ (dcons ?_ (dcons ?_ (dcons ?_ (dcons ?_ (dcons ?_ (dcons ?_ (dcons ?_ (dcons ?_ (dcons ?_ (dcons ?_ (dcons ?_ dnil)))))))))))))))))))))))))) ?_
  · exact (And.intro (And.intro (Nat.ne_of_beq_eq_false rfl) (And.intro trivial (And.intro (And.intro (Nat.ne_of_beq_eq_false rfl) trivial) (And.intro trivial (And.intro (And.intro (Nat.ne_of_beq_eq_false rfl) trivial) (And.intro trivial (And.intro trivial (And.intro trivial (And.intro trivial (And.intro trivial (And.intro trivial (And.intro trivial (And.intro trivial (And.intro trivial (And.intro trivial (And.intro trivial (And.intro trivial (And.intro trivial (And.intro trivial (And.intro trivial (And.intro trivial (And.intro trivial (And.intro trivial (And.intro trivial (And.intro trivial (And.intro trivial (And.intro trivial (And.intro trivial (And.intro trivial (And.intro trivial (And.intro trivial trivial))))))))))))))))))))))))))))))) trivial)
  · exact (nwc (pf_val rfl) (nwc (pf_bx rfl (Blk.up s13u no_ hb2u) hl4u (At.up ha3u s13u no_ nc0)) (nwc (pf_val rfl) (nwc (pf_bx rfl hb8u hl10u ha9u) nwn))))
  · intro ρ g I av
    have hr72u := av 0 _ rfl (by kernel_rfl)
    refine ddo (up1 rfl hr72u) rfl ?_
    refine s_fa f75u0 rfl ?_
    exact ⟨_, rfl, (Stp.refl _ _), I, (nwc (pf_val rfl) nwn)⟩
  · intro ρ g I av
    obtain ⟨L74u, hb75u, hl76u, ha77u⟩ := av 1 _ rfl (by kernel_rfl)
    have hr78u := av 4 _ rfl (by kernel_rfl)
    refine ddo (up1 rfl hr78u) rfl ?_
    refine s_ldS t3 rfl (Blk.cells hb75u) (At.fld ha77u 0 rfl) ?_
    exact ⟨_, rfl, (Stp.refl _ _), I, (nwc (pf_val rfl) nwn)⟩
  · intro ρ g I av
    have hr80u := av 0 _ rfl (by kernel_rfl)
    refine ddo (up1 rfl hr80u) rfl ?_
    refine s_fa f75u1 rfl ?_
    exact ⟨_, rfl, (Stp.refl _ _), I, (nwc (pf_val rfl) nwn)⟩
  · intro ρ g I av
    obtain ⟨L82u, hb83u, hl84u, ha85u⟩ := av 1 _ rfl (by kernel_rfl)
    have hr86u := av 6 _ rfl (by kernel_rfl)
    refine ddo (up1 rfl hr86u) rfl ?_
    refine s_ldS t65 rfl (Blk.cells hb83u) (At.fld ha85u 1 rfl) ?_
    exact ⟨_, rfl, (Stp.refl _ _), I, (nwc (pf_val rfl) nwn)⟩
  · intro ρ g I av
    have hr88u := av 0 _ rfl (by kernel_rfl)
    refine ddo (up1 rfl hr88u) rfl ?_
    refine s_fa f75u2 rfl ?_
    exact ⟨_, rfl, (Stp.refl _ _), I, (nwc (pf_val rfl) nwn)⟩
  · intro ρ g I av
    obtain ⟨L90u, hb91u, hl92u, ha93u⟩ := av 1 _ rfl (by kernel_rfl)
    have hr94u := av 8 _ rfl (by kernel_rfl)
    refine ddo (up1 rfl hr94u) rfl ?_
    refine s_ldS t23 rfl (Blk.cells hb91u) (At.fld ha93u 2 rfl) ?_
    exact ⟨_, rfl, (Stp.refl _ _), I, (nwc (pf_val rfl) nwn)⟩
  · intro ρ g I av
    have hr96u := av 0 _ rfl (by kernel_rfl)
    refine ddo (up1 rfl hr96u) rfl ?_
    refine s_fa f75u3 rfl ?_
    exact ⟨_, rfl, (Stp.refl _ _), I, (nwc (pf_val rfl) nwn)⟩
  · intro ρ g I av
    have hr98u := av 10 _ rfl (by kernel_rfl)
    refine ddo (up1 rfl hr98u) rfl ?_
    refine s_fa f39u0 rfl ?_
    exact ⟨_, rfl, (Stp.refl _ _), I, (nwc (pf_val rfl) nwn)⟩
  · intro ρ g I av
    obtain ⟨L100u, hb101u, hl102u, ha103u⟩ := av 1 _ rfl (by kernel_rfl)
    have hr104u := av 11 _ rfl (by kernel_rfl)
    refine ddo (up1 rfl hr104u) rfl ?_
    refine s_ldS t3 rfl (Blk.cells hb101u) (At.fld (At.fld ha103u 3 rfl) 0 rfl) ?_
    exact ⟨_, rfl, (Stp.refl _ _), I, (nwc (pf_val rfl) nwn)⟩
  · intro ρ g I av
    have hr106u := av 0 _ rfl (by kernel_rfl)
    refine ddo (up1 rfl hr106u) rfl ?_
    refine s_fa f75u3 rfl ?_
    exact ⟨_, rfl, (Stp.refl _ _), I, (nwc (pf_val rfl) nwn)⟩
  · intro ρ g I av
    have hr108u := av 13 _ rfl (by kernel_rfl)
    refine ddo (up1 rfl hr108u) rfl ?_
    refine s_fa f39u1 rfl ?_
    exact ⟨_, rfl, (Stp.refl _ _), I, (nwc (pf_val rfl) nwn)⟩
  · intro ρ g I av
    obtain ⟨L110u, hb111u, hl112u, ha113u⟩ := av 1 _ rfl (by kernel_rfl)
    have hr114u := av 14 _ rfl (by kernel_rfl)
    refine ddo (up1 rfl hr114u) rfl ?_
    refine s_ldS t23 rfl (Blk.cells hb111u) (At.fld (At.fld ha113u 3 rfl) 1 rfl) ?_
    exact ⟨_, rfl, (Stp.refl _ _), I, (nwc (pf_val rfl) nwn)⟩
  · intro ρ g I av
    have hr116u := av 0 _ rfl (by kernel_rfl)
    refine ddo (up1 rfl hr116u) rfl ?_
    refine s_fa f75u3 rfl ?_
    exact ⟨_, rfl, (Stp.refl _ _), I, (nwc (pf_val rfl) nwn)⟩
  · intro ρ g I av
    have hr118u := av 16 _ rfl (by kernel_rfl)
    refine ddo (up1 rfl hr118u) rfl ?_
    refine s_fa f39u2 rfl ?_
    exact ⟨_, rfl, (Stp.refl _ _), I, (nwc (pf_val rfl) nwn)⟩
  · intro ρ g I av
    obtain ⟨L120u, hb121u, hl122u, ha123u⟩ := av 1 _ rfl (by kernel_rfl)
    have hr124u := av 17 _ rfl (by kernel_rfl)
    refine ddo (up1 rfl hr124u) rfl ?_
    refine s_ldK t37 rfl (Blk.cells hb121u) (At.fld (At.fld ha123u 3 rfl) 2 rfl) rfl rfl fun cs126u m127u => ?_
    exact ⟨_, rfl, (Stp.refl _ _), I, (nwc (pf_agg rfl rfl m127u) nwn)⟩
  · intro ρ g I av
    obtain ⟨_, hr128u, m129u⟩ := av 18 _ rfl (by kernel_rfl)
    refine ddo (up1 rfl hr128u) rfl ?_
    refine s_cf I k51 rfl (law10uFrom_ok (zle hZ rfl rfl) (.inl z0) I.l m129u h17u) no_any fun g132u v130u s133u I p131u => ?_
    obtain ⟨cs134u, rfl, m135u⟩ := p131u
    exact ⟨_, rfl, s133u, I, (nwc (pf_agg rfl rfl m135u) nwn)⟩
  · intro ρ g I av
    have hr136u := av 0 _ rfl (by kernel_rfl)
    refine ddo (up1 rfl hr136u) rfl ?_
    refine s_fa f75u3 rfl ?_
    exact ⟨_, rfl, (Stp.refl _ _), I, (nwc (pf_val rfl) nwn)⟩
  · intro ρ g I av
    have hr138u := av 20 _ rfl (by kernel_rfl)
    refine ddo (up1 rfl hr138u) rfl ?_
    refine s_fa f39u3 rfl ?_
    exact ⟨_, rfl, (Stp.refl _ _), I, (nwc (pf_val rfl) nwn)⟩
  · intro ρ g I av
    obtain ⟨L140u, hb141u, hl142u, ha143u⟩ := av 1 _ rfl (by kernel_rfl)
    have hr144u := av 21 _ rfl (by kernel_rfl)
    refine ddo (up1 rfl hr144u) rfl ?_
    refine s_ldS t23 rfl (Blk.cells hb141u) (At.fld (At.fld ha143u 3 rfl) 3 rfl) ?_
    exact ⟨_, rfl, (Stp.refl _ _), I, (nwc (pf_val rfl) nwn)⟩
  · intro ρ g I av
    have hr146u := av 12 _ rfl (by kernel_rfl)
    have hr148u := av 15 _ rfl (by kernel_rfl)
    obtain ⟨_, hr150u, m151u⟩ := av 19 _ rfl (by kernel_rfl)
    have hr152u := av 22 _ rfl (by kernel_rfl)
    refine ddo (up1 (up1 (up1 (up1 rfl hr146u) hr148u) hr150u) hr152u) rfl ?_
    refine s_bldK (kd := k_ref12uOp) (r := ({ kind := a0.op.kind, amount := a0.op.amount, cond := r16u, id := a0.op.id } : ref12uOp)) (g := g) zs28 Z28 l28 P28 (And.intro rfl (And.intro rfl (And.intro (congrArg some (kl (d := k_ref10uCond) m151u).symm) (And.intro rfl (trivial))))) (SM.flat (fs := fs_ref12uOp) tl_ref12uOp (allc rfl (allc rfl (allc m151u (allc rfl alln))))) fun cs154u m155u => ?_
    exact ⟨_, rfl, (Stp.refl _ _), I, (nwc (pf_agg rfl rfl m155u) nwn)⟩
  · intro ρ g I av
    have hr156u := av 0 _ rfl (by kernel_rfl)
    refine ddo (up1 rfl hr156u) rfl ?_
    refine s_fa f75u5 rfl ?_
    exact ⟨_, rfl, (Stp.refl _ _), I, (nwc (pf_val rfl) nwn)⟩
  · intro ρ g I av
    obtain ⟨L158u, hb159u, hl160u, ha161u⟩ := av 1 _ rfl (by kernel_rfl)
    have hr162u := av 24 _ rfl (by kernel_rfl)
    refine ddo (up1 rfl hr162u) rfl ?_
    refine s_ldK t73 rfl (Blk.cells hb159u) (At.fld ha161u 5 rfl) rfl rfl fun cs164u m165u => ?_
    exact ⟨_, rfl, (Stp.refl _ _), I, (nwc (pf_agg rfl rfl m165u) nwn)⟩
  · intro ρ g I av
    obtain ⟨_, hr166u, m167u⟩ := av 25 _ rfl (by kernel_rfl)
    refine ddo (up1 rfl hr166u) rfl ?_
    refine s_cf I k52 rfl (law05uFrom_ok (zle hZ rfl rfl) (.inl z0) I.l m167u h29u) no_any fun g170u v168u s171u I p169u => ?_
    obtain ⟨cs172u, rfl, m173u⟩ := p169u
    exact ⟨_, rfl, s171u, I, (nwc (pf_agg rfl rfl m173u) nwn)⟩
  · intro ρ g I av
    have hr174u := av 5 _ rfl (by kernel_rfl)
    have hr176u := av 7 _ rfl (by kernel_rfl)
    have hr178u := av 9 _ rfl (by kernel_rfl)
    obtain ⟨_, hr180u, m181u⟩ := av 23 _ rfl (by kernel_rfl)
    obtain ⟨_, hr182u, m183u⟩ := av 26 _ rfl (by kernel_rfl)
    refine ddo (up1 (up1 (up1 (up1 (up1 rfl hr174u) hr176u) hr178u) hr180u) hr182u) rfl ?_
    refine s_bldK (kd := (h_ref18uMemo (.slice none 0 0))) (r := ({ kind := a0.kind, channel := a0.channel, round := a0.round, op := ({ kind := a0.op.kind, amount := a0.op.amount, cond := r16u, id := a0.op.id } : ref12uOp), trail := [], sig := r28u } : ref18uMemo)) (g := g) zs85 Z85 l85 P85 (And.intro rfl (And.intro rfl (And.intro rfl (And.intro (congrArg some (kl (d := k_ref12uOp) m181u).symm) (And.intro (congrArg some (kl (d := k_ref05uSig) m183u).symm) (trivial)))))) (SM.flat (fs := hs_ref18uMemo (.slice none 0 0)) (htl_ref18uMemo (.slice none 0 0)) (allc rfl (allc rfl (allc rfl (allc m181u (allc (And.intro rfl rfl) (allc m183u alln))))))) fun cs184u m185u => ?_
    exact ⟨_, rfl, (Stp.refl _ _), I, (nwc (pf_agg rfl rfl m185u) nwn)⟩
  · intro ρ g I av
    refine ddo rfl rfl ?_
    refine s_newK (h_ref18uMemo (.slice none 0 0)) 4705 I (zpv rfl) z85 rfl fun g191u b186u L190u s192u I hb187u hl189u ha188u => ?_
    exact ⟨_, rfl, s192u, I, (nwc (pf_box rfl rfl hb187u hl189u ha188u) nwn)⟩
  · intro ρ g I av
    obtain ⟨b197u, L193u, hr198u, hb194u, hl195u, ha196u⟩ := av 28 _ rfl (by kernel_rfl)
    obtain ⟨_, hr199u, m200u⟩ := av 27 _ rfl (by kernel_rfl)
    refine ddon (up1 (up1 rfl hr198u) hr199u) rfl ?_
    have m201u : (h_ref18uMemo (.slice none 0 0)).M g 0 ({ kind := a0.kind, channel := a0.channel, round := a0.round, op := ({ kind := a0.op.kind, amount := a0.op.amount, cond := r16u, id := a0.op.id } : ref12uOp), trail := [], sig := r28u } : ref18uMemo) _ := m200u
    refine s_stK (kd := (h_ref18uMemo (.slice none 0 0))) I t85 rfl rfl m201u rfl hb194u (ble_ hl195u rfl) (by decide) nc0 (zpv rfl) fun g202u L204u s203u I hb205u hu206u hn207u => ?_
    have ha208u := hn207u
    have hl209u := hu206u.1.trans hl195u
    exact ⟨_, rfl, s203u, I, (nwc (pf_box rfl rfl hb205u hl209u ha208u) nwn)⟩
  · intro ρ g I av
    obtain ⟨L54u, hb55u, hl56u, ha57u⟩ := av 1 _ rfl rfl
    obtain ⟨L58u, hb59u, hl60u, ha61u⟩ := av 3 _ rfl rfl
    obtain ⟨b66u, L62u, hr67u, hb63u, hl64u, ha65u⟩ := av 29 _ rfl rfl
    have hr68u := av 0 _ rfl rfl
    have hr70u := av 2 _ rfl rfl
    refine ⟨_, (up1 (up1 (up1 rfl hr67u) hr68u) hr70u), ?_⟩
    refine EW.seq ?_
    refine EW.seq ?_
    refine EW.region (by kernel_rfl) ?_
    refine EWL.op rfl ?_
    refine s_fa f75u4 rfl ?_
    refine EWL.op rfl ?_
    refine s_ldSl t40 rfl (Blk.cells hb55u) (At.fld ha57u 4 rfl) fun v210u m211u => ?_
    refine EWL.op rfl ?_
    refine s_lenR (kd := k_memo_Hop) (xs := a0.trail) s40 rfl (Sl.rs m211u) ?_
    refine EWL.op rfl ?_
    refine s_mv ?_
    refine EW.block ?_
    refine EW.loop (b := (law18uFrom_b1 a0 r16u r28u)) (fun (s : (Int × (List ref18uHop))) ρ w => ∃ (g215u : GW) (v219u : Value) (x223u : Int) (L225u : List Value) (v229u : Value) (L232u : List Value) (x238u : (List ref18uHop)) (v236u : Value), w = g215u.w ∧ Inv (or_ (no) (iv 4700 4800)) (or_ Z (iv 4700 4800)) g0 g215u ∧ (x223u, x238u) = s ∧ ρ 2 = .pointer (some ⟨b7u, 0, none⟩) ∧ ρ 3 = .pointer (some ⟨b66u, 0, none⟩) ∧ ρ 31 = v219u ∧ Sl k_memo_Hop g215u 0 a0.trail v219u ∧ ρ 32 = .int .i64 (a0.trail.length : Int) ∧ ρ 33 = .int .i64 x223u ∧ Row 99 k_ref18uHop g215u 4703 ([]) v229u ∧ Blk g215u b7u 4702 85 L225u ∧ L225u.length = 1069 ∧ At (h_ref18uMemo v229u) g215u 0 ref18uMemo.zero L225u 0 ∧ Row 99 k_ref18uHop g215u 4704 x238u v236u ∧ Blk g215u b66u 4705 85 L232u ∧ L232u.length = 1069 ∧ At (h_ref18uMemo v236u) g215u 0 ({ kind := a0.kind, channel := a0.channel, round := a0.round, op := ({ kind := a0.op.kind, amount := a0.op.amount, cond := r16u, id := a0.op.id } : ref12uOp), trail := [], sig := r28u } : ref18uMemo) L232u 0) hF0 ⟨g, _, 0, _, (.slice none 0 0), _, ([] : List ref18uHop), (.slice none 0 0), rfl, I, rfl, rfl, rfl, rfl, m211u, rfl, rfl, Row.none, hb59u, hl60u, ha61u, Row.none, hb63u, hl64u, ha65u⟩ ?_
    · rintro s_ o239u ρ w ⟨g215u, v219u, x223u, L225u, v229u, L232u, x238u, v236u, rfl, I, eo, hr216u, hr217u, hr218u, m220u, hr221u, hr222u, m230u, hb226u, hl228u, ha227u, m237u, hb233u, hl235u, ha234u⟩ hF1 hr1
      subst eo
      unfold law18uFrom_b1 at hF1
      refine EW.re (up1 (up1 (up1 (up1 (up1 rfl hr216u) hr217u) hr218u) hr221u) hr222u) ?_
      refine EW.seq ?_
      refine EW.region (by kernel_rfl) ?_
      refine EWL.op rfl ?_
      refine s_lss rfl rfl ?_
      refine EW.seq ?_
      refine EW.condS rfl rfl (fun hb240u => ?_) (fun hb240u => ?_)
      · replace hF1 := bif_t hb240u hF1
        refine EW.skip ?_
        refine EW.seq ?_
        refine EW.block ?_
        refine EW.seq ?_
        refine EW.region (by kernel_rfl) ?_
        refine EWL.op rfl ?_
        obtain ⟨x241u, h242u, hF1⟩ := bnd hF1
        refine s_idxS s40 t111 rfl m220u rfl h242u fun b243u o244u L245u hc246u ha247u => ?_
        refine EWL.op rfl ?_
        refine s_ldK t111 rfl (Imm.cells hc246u) ha247u rfl rfl fun cs248u m249u => ?_
        refine EWL.op rfl ?_
        refine s_newK k_memo_Hop 4707 I (zpv rfl) z111 rfl fun g255u b250u L254u s256u I hb251u hl253u ha252u => ?_
        refine EWL.opn rfl ?_
        have m257u : k_memo_Hop.M g255u 0 x241u _ := (Kd.upK rfl s256u no_ m249u)
        refine s_stK (kd := k_memo_Hop) I t111 rfl rfl m257u rfl hb251u (ble_ hl253u rfl) (by decide) nc0 (zpv rfl) fun g258u L260u s259u I hb261u hu262u hn263u => ?_
        have ha264u := hn263u
        have hl265u := hu262u.1.trans hl253u
        refine EW.region (by kernel_rfl) ?_
        refine EWL.op rfl ?_
        refine s_fa f85u4 rfl ?_
        refine EWL.op rfl ?_
        refine s_ldFix t29 rfl (Blk.cells (Blk.up s259u (Nat.ne_of_beq_eq_false rfl) (Blk.up s256u no_ hb233u))) (At.fld (At.up (At.up ha234u s256u no_ nc0) s259u (Nat.ne_of_beq_eq_false rfl) nc0) 4 rfl) ?_
        refine EWL.op rfl ?_
        refine s_fa f111u0 rfl ?_
        refine EWL.op rfl ?_
        refine s_ldS t65 rfl (Blk.cells hb261u) (At.fld ha264u 0 rfl) ?_
        refine EWL.op rfl ?_
        refine s_fa f111u1 rfl ?_
        refine EWL.op rfl ?_
        refine s_ldS t23 rfl (Blk.cells hb261u) (At.fld ha264u 1 rfl) ?_
        refine EWL.op rfl ?_
        refine s_fa f111u2 rfl ?_
        refine EWL.op rfl ?_
        refine s_ldS t23 rfl (Blk.cells hb261u) (At.fld ha264u 2 rfl) ?_
        refine EWL.op rfl ?_
        refine s_bldK (kd := k_ref18uHop) (r := ({ channel := x241u.channel, amount := x241u.amount, id := x241u.id } : ref18uHop)) (g := g258u) zs99 Z99 l99 P99 (And.intro rfl (And.intro rfl (And.intro rfl (trivial)))) (SM.flat (fs := fs_ref18uHop) tl_ref18uHop (allc rfl (allc rfl (allc rfl alln)))) fun cs266u m267u => ?_
        refine EWL.op rfl ?_
        refine s_bslK (kd := k_ref18uHop) (xs := ([({ channel := x241u.channel, amount := x241u.amount, id := x241u.id } : ref18uHop)] : List ref18uHop)) 4708 I s29 t99 z99 rfl rfl (by decide) rfl (by decide) (And.intro (congrArg some (kl (d := k_ref18uHop) m267u).symm) (trivial)) (Seg.flat (d := k_ref18uHop) (g := g258u) (alls m267u alle)) rfl (zpv rfl) fun g270u v268u s271u I m269u => ?_
        refine EWL.op rfl ?_
        obtain ⟨l272u, h273u, hF1⟩ := bnd hF1
        refine s_app (kd := k_ref18uHop) I s29 rfl s29 t99 z99 rfl (Row.up rfl s271u no_ no_ (Row.up rfl s259u (Nat.ne_of_beq_eq_false rfl) (Nat.ne_of_beq_eq_false rfl) (Row.up rfl s256u no_ no_ m237u))) (Sl.rs (Row.sl m269u)) h273u (by decide) (zpv rfl) (zpv rfl) fun g276u v274u s277u I m275u => ?_
        refine EWL.op rfl ?_
        refine s_fa f85u4 rfl ?_
        refine EWL.opn rfl ?_
        have m278u : (kFix v274u []).M g276u 0 (l272u : List ref18uHop) _ := Row.fix m275u
        refine s_stK (kd := (kFix v274u ([] : List ref18uHop))) I t29 rfl rfl m278u rfl (Blk.up s277u (Nat.ne_of_beq_eq_false rfl) (Blk.up s271u no_ (Blk.up s259u (Nat.ne_of_beq_eq_false rfl) (Blk.up s256u no_ hb233u)))) (ble_ hl235u rfl) (by decide) nc0 (zpv rfl) fun g279u L281u s280u I hb282u hu283u hn284u => ?_
        have ha285u : At (h_ref18uMemo v274u) g279u 0 ({ kind := a0.kind, channel := a0.channel, round := a0.round, op := ({ kind := a0.op.kind, amount := a0.op.amount, cond := r16u, id := a0.op.id } : ref12uOp), trail := [], sig := r28u } : ref18uMemo) L281u 0 := At.setG (At.up (At.up (At.up (At.up (At.up ha234u s256u no_ nc0) s259u (Nat.ne_of_beq_eq_false rfl) nc0) s271u no_ nc0) s277u (Nat.ne_of_beq_eq_false rfl) nc0) s280u (Nat.ne_of_beq_eq_false rfl) nc0) 4 rfl rfl (D85u4 _ _ v236u v274u) rfl hu283u (Nat.le_refl _) (Nat.le_refl _) hn284u
        have hl286u := hu283u.1.trans hl235u
        refine EW.region (by kernel_rfl) ?_
        refine EWL.op rfl ?_
        refine s_add rfl rfl ?_
        refine EWL.op rfl ?_
        refine s_mv ?_
        exact ⟨_, (som hF1).symm, g279u, _, (IntKind.i64.wrap (x223u + 1)), _, v229u, _, l272u, v274u, rfl, I, rfl, rfl, rfl, rfl, (Sl.up rfl s280u (Nat.ne_of_beq_eq_false rfl) (Nat.ne_of_beq_eq_false rfl) (Sl.up rfl s277u (Nat.ne_of_beq_eq_false rfl) (Nat.ne_of_beq_eq_false rfl) (Sl.up rfl s271u no_ no_ (Sl.up rfl s259u (Nat.ne_of_beq_eq_false rfl) (Nat.ne_of_beq_eq_false rfl) (Sl.up rfl s256u no_ no_ m220u))))), rfl, rfl, (Row.up rfl s280u (Nat.ne_of_beq_eq_false rfl) (Nat.ne_of_beq_eq_false rfl) (Row.up rfl s277u (Nat.ne_of_beq_eq_false rfl) (Nat.ne_of_beq_eq_false rfl) (Row.up rfl s271u no_ no_ (Row.up rfl s259u (Nat.ne_of_beq_eq_false rfl) (Nat.ne_of_beq_eq_false rfl) (Row.up rfl s256u no_ no_ m230u))))), (Blk.up s280u (Nat.ne_of_beq_eq_false rfl) (Blk.up s277u (Nat.ne_of_beq_eq_false rfl) (Blk.up s271u no_ (Blk.up s259u (Nat.ne_of_beq_eq_false rfl) (Blk.up s256u no_ hb226u))))), hl228u, (At.up (At.up (At.up (At.up (At.up ha227u s256u no_ nc0) s259u (Nat.ne_of_beq_eq_false rfl) nc0) s271u no_ nc0) s277u (Nat.ne_of_beq_eq_false rfl) nc0) s280u (Nat.ne_of_beq_eq_false rfl) nc0), (Row.up rfl s280u (Nat.ne_of_beq_eq_false rfl) (Nat.ne_of_beq_eq_false rfl) m275u), hb282u, hl286u, ha285u⟩
      · replace hF1 := bif_f hb240u hF1
        refine EW.exit ?_
        have hF0 := out_ hF1 hr1
        refine EW.seq ?_
        refine EW.region (by kernel_rfl) ?_
        refine EWL.op rfl ?_
        have m287u := Row.rc rfl (by decide) m237u 0
        have s289u := Stp.rc1 g215u 4704 0
        replace I := I.to s289u (Lo.rc (d := 0) I.l (.inl z0)) (at_in (zpv rfl))
        obtain ⟨g288u, rc_⟩ : ∃ q, q = g215u.rc 4704 (4704 + 1) 0 := ⟨_, rfl⟩
        rw [← rc_] at m287u s289u I
        refine stp.wld (w := g288u.w) (by rw [rc_]; rfl) ?_
        clear rc_
        have ha290u := frz_ref18uMemo (At.up ha234u s289u (Nat.ne_of_beq_eq_false rfl) nc0) (Row.sl m287u)
        have hb291u := (Blk.up s289u (Nat.ne_of_beq_eq_false rfl) hb233u)
        refine s_ldK t85 rfl (Blk.cells hb291u) ha290u rfl rfl fun cs292u m293u => ?_
        refine EWL.opn rfl ?_
        have m294u : k_ref18uMemo.M g288u 0 ({ kind := a0.kind, channel := a0.channel, round := a0.round, op := ({ kind := a0.op.kind, amount := a0.op.amount, cond := r16u, id := a0.op.id } : ref12uOp), trail := x238u, sig := r28u } : ref18uMemo) _ := m293u
        refine s_stK (kd := k_ref18uMemo) I t85 rfl rfl m294u rfl (Blk.up s289u (Nat.ne_of_beq_eq_false rfl) hb226u) (ble_ hl228u rfl) (by decide) nc0 (zpv rfl) fun g295u L297u s296u I hb298u hu299u hn300u => ?_
        have ha301u := hn300u
        have hl302u := hu299u.1.trans hl228u
        refine EW.ret ?_
        obtain rfl := som hF0
        refine endsC (.inl rfl) rfl (run_lvA t85 (Blk.cells hb298u) (At.fits ha301u (by decide))) ?_
        exact ret_ (g := g295u) I lo hZ z0 rfl ⟨_, rfl, Kd.upK rfl (Stp.rc g295u 4700 4800 0) fz ha301u⟩
theorem law20uFrom_ok {g0 : GW} {Z : Nat → Prop} (hZ : ∀ c, Z c → c = 0 ∨ 4900 ≤ c) (z0 : Z 0) (lo : Lo Z g0) (rc0 : Nat) (zrc0 : Z rc0) {a0 : (List clerk_Wish)} {va0 : Value} {ka0 : Nat} (ma0 : Sl k_clerk_Wish g0 ka0 a0 va0) (hka0 : ka0 = 0 ∨ 4900 ≤ ka0) {r : (List ref20uWish)} (hF0 : law20uFrom a0 = some r) :
    Calls P 9 [va0].toArray g0.w (Rets (RR (no) Z g0 ((fun h v => Row 31 k_ref20uWish h rc0 r v)))) := by
  refine calls_of Go.Proofs.Try.func9 rfl (Nat.le_of_ble_eq_true rfl) (by kernel_rfl) ?_
  have I : Inv (or_ (no) (iv 4800 4900)) (or_ Z (iv 4800 4900)) g0 g0 := Inv.start (lo.mono (fun _ h => .inl h))
  have fz : ¬ iv 4800 4900 0 := nz0 rfl
  unfold law20uFrom at hF0
  refine EW.seq ?_
  refine EW.region (by kernel_rfl) ?_
  refine EWL.op rfl ?_
  refine s_as ?_
  refine EW.seq ?_
  refine EW.region (by kernel_rfl) ?_
  refine EWL.op rfl ?_
  refine s_as ?_
  refine EW.seq ?_
  refine EW.seq ?_
  refine EW.region (by kernel_rfl) ?_
  refine EWL.op rfl ?_
  refine s_mv ?_
  refine EWL.op rfl ?_
  refine s_lenR (kd := k_clerk_Wish) (xs := a0) s43 rfl (Sl.rs ma0) ?_
  refine EWL.op rfl ?_
  refine s_mv ?_
  refine EW.block ?_
  refine EW.loop (b := (law20uFrom_b1 a0)) (fun (s : ((List ref20uWish) × Int)) ρ w => ∃ (g6u : GW) (x8u : (List ref20uWish)) (v9u : Value) (v12u : Value) (x16u : Int), w = g6u.w ∧ Inv (or_ (no) (iv 4800 4900)) (or_ Z (iv 4800 4900)) g0 g6u ∧ (x8u, x16u) = s ∧ ρ 3 = v9u ∧ Row 31 k_ref20uWish g6u 4805 x8u v9u ∧ ρ 7 = v12u ∧ Sl k_clerk_Wish g6u ka0 a0 v12u ∧ ρ 8 = .int .i64 (a0.length : Int) ∧ ρ 9 = .int .i64 x16u) hF0 ⟨g0, [], _, _, 0, rfl, I, rfl, rfl, Row.none, rfl, ma0, rfl, rfl⟩ ?_
  · rintro s_ o17u ρ w ⟨g6u, x8u, v9u, v12u, x16u, rfl, I, eo, hr7u, m10u, hr11u, m13u, hr14u, hr15u⟩ hF1 hr1
    subst eo
    unfold law20uFrom_b1 at hF1
    refine EW.re (up1 (up1 (up1 (up1 rfl hr7u) hr11u) hr14u) hr15u) ?_
    refine EW.seq ?_
    refine EW.region (by kernel_rfl) ?_
    refine EWL.op rfl ?_
    refine s_lss rfl rfl ?_
    refine EW.seq ?_
    refine EW.condS rfl rfl (fun hb18u => ?_) (fun hb18u => ?_)
    · replace hF1 := bif_t hb18u hF1
      refine EW.skip ?_
      refine EW.seq ?_
      refine EW.block ?_
      refine EW.seq ?_
      refine EW.region (by kernel_rfl) ?_
      refine EWL.op rfl ?_
      obtain ⟨x19u, h20u, hF1⟩ := bnd hF1
      refine s_idxS s43 t42 rfl m13u rfl h20u fun b21u o22u L23u hc24u ha25u => ?_
      refine EWL.op rfl ?_
      refine s_ldK t42 rfl (Imm.cells hc24u) ha25u rfl rfl fun cs26u m27u => ?_
      refine EWL.op rfl ?_
      refine s_newK k_clerk_Wish 4801 I (zpv rfl) z42 rfl fun g33u b28u L32u s34u I hb29u hl31u ha30u => ?_
      refine EWL.opn rfl ?_
      have m35u : k_clerk_Wish.M g33u 0 x19u _ := (Kd.upK rfl s34u no_ m27u)
      refine s_stK (kd := k_clerk_Wish) I t42 rfl rfl m35u rfl hb29u (ble_ hl31u rfl) (by decide) nc0 (zpv rfl) fun g36u L38u s37u I hb39u hu40u hn41u => ?_
      have ha42u := hn41u
      have hl43u := hu40u.1.trans hl31u
      refine EW.seq ?_
      refine EW.region (by kernel_rfl) ?_
      refine EWL.op rfl ?_
      refine s_fa f42u0 rfl ?_
      refine EWL.op rfl ?_
      refine s_ldK t39 rfl (Blk.cells hb39u) (At.fld ha42u 0 rfl) rfl rfl fun cs44u m45u => ?_
      refine EWL.op rfl ?_
      refine s_fa f42u1 rfl ?_
      refine EWL.op rfl ?_
      refine s_ldSl t40 rfl (Blk.cells hb39u) (At.fld ha42u 1 rfl) fun v46u m47u => ?_
      refine EWL.op rfl ?_
      refine s_bldK (kd := k_memo_Memo) (r := ({ kind := 0, channel := 0, round := 0, op := x19u.op, trail := x19u.trail, sig := ring_Sig.zero } : memo_Memo)) (g := g36u) zs75 Z75 l75 P75 (And.intro (congrArg some (kl (d := k_pact_Op) m45u).symm) (And.intro (congrArg some (kl (d := (kSl k_memo_Hop rfl)) (Sl.kdv rfl m47u)).symm) (trivial))) (SM.flat (fs := fs_memo_Memo) tl_memo_Memo (allc rfl (allc rfl (allc rfl (allc m45u (allc (Sl.kdv rfl m47u) (allc (Kd.zk (i := 0) k_ring_Sig rfl) alln))))))) fun cs48u m49u => ?_
      refine EWL.op rfl ?_
      obtain ⟨r50u, h51u, hF1⟩ := bnd hF1
      refine s_cf I k29 rfl (law18uFrom_ok (zle hZ rfl rfl) (.inl z0) I.l m49u h51u) no_any fun g54u v52u s55u I p53u => ?_
      obtain ⟨cs56u, rfl, m57u⟩ := p53u
      refine EWL.op rfl ?_
      refine s_newK (h_ref18uMemo (.slice none 0 0)) 4802 I (zpv rfl) z85 rfl fun g63u b58u L62u s64u I hb59u hl61u ha60u => ?_
      refine EWL.opn rfl ?_
      have m65u : k_ref18uMemo.M g63u 0 r50u _ := (Kd.upK rfl s64u no_ m57u)
      refine s_stK (kd := k_ref18uMemo) I t85 rfl rfl m65u rfl hb59u (ble_ hl61u rfl) (by decide) nc0 (zpv rfl) fun g66u L68u s67u I hb69u hu70u hn71u => ?_
      have ha72u := hn71u
      have hl73u := hu70u.1.trans hl61u
      refine EW.region (by kernel_rfl) ?_
      refine EWL.op rfl ?_
      refine s_mv ?_
      refine EWL.op rfl ?_
      refine s_fa f85u3 rfl ?_
      refine EWL.op rfl ?_
      refine s_ldK t28 rfl (Blk.cells hb69u) (At.fld ha72u 3 rfl) rfl rfl fun cs74u m75u => ?_
      refine EWL.op rfl ?_
      refine s_fa f85u4 rfl ?_
      refine EWL.op rfl ?_
      refine s_ldSl t29 rfl (Blk.cells hb69u) (At.fld ha72u 4 rfl) fun v76u m77u => ?_
      refine EWL.op rfl ?_
      refine s_bldK (kd := k_ref20uWish) (r := ({ op := r50u.op, trail := r50u.trail } : ref20uWish)) (g := g66u) zs31 Z31 l31 P31 (And.intro (congrArg some (kl (d := k_ref12uOp) m75u).symm) (And.intro (congrArg some (kl (d := (kSl k_ref18uHop rfl)) (Sl.kdv rfl m77u)).symm) (trivial))) (SM.flat (fs := fs_ref20uWish) tl_ref20uWish (allc m75u (allc (Sl.kdv rfl m77u) alln))) fun cs78u m79u => ?_
      refine EWL.op rfl ?_
      refine s_bslK (kd := k_ref20uWish) (xs := ([({ op := r50u.op, trail := r50u.trail } : ref20uWish)] : List ref20uWish)) 4804 I s22 t31 z31 rfl rfl (by decide) rfl (by decide) (And.intro (congrArg some (kl (d := k_ref20uWish) m79u).symm) (trivial)) (Seg.flat (d := k_ref20uWish) (g := g66u) (alls m79u alle)) rfl (zpv rfl) fun g82u v80u s83u I m81u => ?_
      refine EWL.op rfl ?_
      obtain ⟨l84u, h85u, hF1⟩ := bnd hF1
      refine s_app (kd := k_ref20uWish) I s22 rfl s22 t31 z31 rfl (Row.up rfl s83u no_ no_ (Row.up rfl s67u (Nat.ne_of_beq_eq_false rfl) (Nat.ne_of_beq_eq_false rfl) (Row.up rfl s64u no_ no_ (Row.up rfl s55u no_ no_ (Row.up rfl s37u (Nat.ne_of_beq_eq_false rfl) (Nat.ne_of_beq_eq_false rfl) (Row.up rfl s34u no_ no_ m10u)))))) (Sl.rs (Row.sl m81u)) h85u (by decide) (zpv rfl) (zpv rfl) fun g88u v86u s89u I m87u => ?_
      refine EWL.op rfl ?_
      refine s_as ?_
      refine EW.region (by kernel_rfl) ?_
      refine EWL.op rfl ?_
      refine s_add rfl rfl ?_
      refine EWL.op rfl ?_
      refine s_mv ?_
      exact ⟨_, (som hF1).symm, g88u, l84u, _, _, (IntKind.i64.wrap (x16u + 1)), rfl, I, rfl, rfl, m87u, rfl, (Sl.up rfl s89u (Nat.ne_of_beq_eq_false rfl) (ne_ld hka0 rfl rfl) (Sl.up rfl s83u no_ no_ (Sl.up rfl s67u (Nat.ne_of_beq_eq_false rfl) (ne_ld hka0 rfl rfl) (Sl.up rfl s64u no_ no_ (Sl.up rfl s55u no_ no_ (Sl.up rfl s37u (Nat.ne_of_beq_eq_false rfl) (ne_ld hka0 rfl rfl) (Sl.up rfl s34u no_ no_ m13u))))))), rfl, rfl⟩
    · replace hF1 := bif_f hb18u hF1
      refine EW.exit ?_
      have hF0 := out_ hF1 hr1
      refine EW.seq ?_
      refine EW.region (by kernel_rfl) ?_
      refine EWL.op rfl ?_
      refine s_mv ?_
      refine EWL.op rfl ?_
      refine s_as ?_
      refine EW.ret ?_
      obtain rfl := som hF0
      refine ends1 (.inl rfl)  ?_
      have m90u := Row.rc rfl (by decide) m10u rc0
      have s92u := Stp.rc1 g6u 4805 rc0
      replace I := I.to s92u (Lo.rc (d := rc0) I.l (.inl zrc0)) (at_in (zpv rfl))
      exact ret_ (g := (g6u.rc 4805 (4805 + 1) rc0)) I lo hZ z0 rfl (Row.up rfl (Stp.rc (g6u.rc 4805 (4805 + 1) rc0) 4800 4900 0) fz (iv_z hZ rfl zrc0) m90u)
theorem ref20uSame_ok {g0 : GW} {Z : Nat → Prop} (hZ : ∀ c, Z c → c = 0 ∨ 5000 ≤ c) (z0 : Z 0) (lo : Lo Z g0)  {a0 : ref12uOp} {ca0 : List Value} {a1 : ref12uOp} {ca1 : List Value} (ma0 : k_ref12uOp.M g0 0 a0 ca0) (ma1 : k_ref12uOp.M g0 0 a1 ca1) {r : Bool} (hF0 : ref20uSame a0 a1 = some r) :
    Calls P 17 [.agg ca0.toArray, .agg ca1.toArray].toArray g0.w (Rets (RR (no) Z g0 (PEq (.bool r)))) := by
  refine calls_of Go.Proofs.Try.func17 rfl (Nat.le_of_ble_eq_true rfl) (by kernel_rfl) ?_
  have I : Inv (or_ (no) (iv 4900 5000)) (or_ Z (iv 4900 5000)) g0 g0 := Inv.start (lo.mono (fun _ h => .inl h))
  have fz : ¬ iv 4900 5000 0 := nz0 rfl
  unfold ref20uSame at hF0
  refine EW.seq ?_
  refine EW.region (by kernel_rfl) ?_
  refine EWL.op rfl ?_
  refine s_boxK (kd := k_ref12uOp) (r := a0) 4901 I (zpv rfl) ma0 rfl rfl fun g5u b1u s6u I hb2u hl4u ha3u => ?_
  refine EWL.op rfl ?_
  refine s_boxK (kd := k_ref12uOp) (r := a1) 4902 I (zpv rfl) (Kd.upK rfl s6u no_ ma1) rfl rfl fun g11u b7u s12u I hb8u hl10u ha9u => ?_
  refine EWL.op rfl ?_
  refine s_as ?_
  refine EW.seq ?_
  refine EW.seq ?_
  refine EW.region (by kernel_rfl) ?_
  refine EWL.op rfl ?_
  refine s_fa f28u0 rfl ?_
  refine EWL.op rfl ?_
  refine s_ldS t3 rfl (Blk.cells (Blk.up s12u no_ hb2u)) (At.fld (At.up ha3u s12u no_ nc0) 0 rfl) ?_
  refine EWL.op rfl ?_
  refine s_eql rfl rfl ?_
  refine EWL.op rfl ?_
  refine s_mv ?_
  rcases Bool.eq_false_or_eq_true (decide (a0.kind = 3)) with hb13u | hb13u
  · replace hF0 := bif_t hb13u hF0
    refine EWL.pass (want_of rfl rfl (beq_ hb13u)) ?_
    refine EWL.pass (want_of rfl rfl (beq_ hb13u)) ?_
    refine EWL.pass (want_of rfl rfl (beq_ hb13u)) ?_
    refine EWL.op rfl ?_
    refine s_pT rfl hb13u ?_
    refine EWL.op rfl ?_
    refine s_mv ?_
    refine EWL.op (want_of rfl rfl rfl) ?_
    refine s_fa f28u0 rfl ?_
    refine EWL.op (want_of rfl rfl rfl) ?_
    refine s_ldS t3 rfl (Blk.cells hb8u) (At.fld ha9u 0 rfl) ?_
    refine EWL.op (want_of rfl rfl rfl) ?_
    refine s_eql rfl rfl ?_
    refine EWL.op (want_of rfl rfl rfl) ?_
    refine s_mv ?_
    rcases Bool.eq_false_or_eq_true (decide (a1.kind = 3)) with hb14u | hb14u
    · replace hF0 := bif_t hb14u hF0
      refine EWL.pass (want_of rfl rfl (beq_ hb14u)) ?_
      refine EWL.pass (want_of rfl rfl (beq_ hb14u)) ?_
      refine EWL.pass (want_of rfl rfl (beq_ hb14u)) ?_
      refine EWL.op (want_of rfl rfl rfl) ?_
      refine s_pT rfl hb14u ?_
      refine EWL.op rfl ?_
      refine s_pT rfl rfl ?_
      refine EW.condS rfl rfl (fun hb => ?_) (fun hb => (tf_ rfl hb).elim)
      refine EW.seq ?_
      refine EW.region (by kernel_rfl) ?_
      refine EWL.op rfl ?_
      refine s_fa f28u3 rfl ?_
      refine EWL.op rfl ?_
      refine s_ldS t23 rfl (Blk.cells (Blk.up s12u no_ hb2u)) (At.fld (At.up ha3u s12u no_ nc0) 3 rfl) ?_
      refine EWL.op rfl ?_
      refine s_fa f28u3 rfl ?_
      refine EWL.op rfl ?_
      refine s_ldS t23 rfl (Blk.cells hb8u) (At.fld ha9u 3 rfl) ?_
      refine EWL.op rfl ?_
      refine s_eql rfl rfl ?_
      refine EWL.op rfl ?_
      refine s_as ?_
      refine EW.ret ?_
      obtain rfl := som hF0
      refine ends1 (.inl rfl)  ?_
      exact ret_ (g := g11u) I lo hZ z0 rfl rfl
    · replace hF0 := bif_f hb14u hF0
      refine EWL.op (want_of rfl rfl (beq_ hb14u)) ?_
      refine s_fa f28u0 rfl ?_
      refine EWL.op (want_of rfl rfl (beq_ hb14u)) ?_
      refine s_ldS t3 rfl (Blk.cells hb8u) (At.fld ha9u 0 rfl) ?_
      refine EWL.op (want_of rfl rfl (beq_ hb14u)) ?_
      refine s_eql rfl rfl ?_
      refine EWL.op (want_of rfl rfl rfl) ?_
      refine s_pF rfl hb14u ?_
      refine EWL.op rfl ?_
      refine s_pT rfl rfl ?_
      refine EW.condS rfl rfl (fun hb15u => ?_) (fun hb15u => ?_)
      · replace hF0 := bif_t hb15u hF0
        refine EW.seq ?_
        refine EW.region (by kernel_rfl) ?_
        refine EWL.op rfl ?_
        refine s_fa f28u3 rfl ?_
        refine EWL.op rfl ?_
        refine s_ldS t23 rfl (Blk.cells (Blk.up s12u no_ hb2u)) (At.fld (At.up ha3u s12u no_ nc0) 3 rfl) ?_
        refine EWL.op rfl ?_
        refine s_fa f28u3 rfl ?_
        refine EWL.op rfl ?_
        refine s_ldS t23 rfl (Blk.cells hb8u) (At.fld ha9u 3 rfl) ?_
        refine EWL.op rfl ?_
        refine s_eql rfl rfl ?_
        refine EWL.op rfl ?_
        refine s_as ?_
        refine EW.ret ?_
        obtain rfl := som hF0
        refine ends1 (.inl rfl)  ?_
        exact ret_ (g := g11u) I lo hZ z0 rfl rfl
      · replace hF0 := bif_f hb15u hF0
        refine EW.skip ?_
        refine EW.seq ?_
        refine EW.region (by kernel_rfl) ?_
        refine EWL.op rfl ?_
        refine s_ldK t28 rfl (Blk.cells (Blk.up s12u no_ hb2u)) (At.up ha3u s12u no_ nc0) rfl rfl fun cs16u m17u => ?_
        refine EWL.op rfl ?_
        refine s_ldK t28 rfl (Blk.cells hb8u) ha9u rfl rfl fun cs18u m19u => ?_
        refine EWL.op rfl ?_
        refine s_eqA E28 rfl (by kernel_rfl) rfl rfl m17u m19u ?_
        refine EWL.op rfl ?_
        refine s_as ?_
        refine EW.ret ?_
        obtain rfl := som hF0
        refine ends1 (.inl rfl)  ?_
        exact ret_ (g := g11u) I lo hZ z0 rfl rfl
  · replace hF0 := bif_f hb13u hF0
    refine EWL.op (want_of rfl rfl (beq_ hb13u)) ?_
    refine s_fa f28u0 rfl ?_
    refine EWL.op (want_of rfl rfl (beq_ hb13u)) ?_
    refine s_ldS t3 rfl (Blk.cells (Blk.up s12u no_ hb2u)) (At.fld (At.up ha3u s12u no_ nc0) 0 rfl) ?_
    refine EWL.op (want_of rfl rfl (beq_ hb13u)) ?_
    refine s_eql rfl rfl ?_
    refine EWL.op rfl ?_
    refine s_pF rfl hb13u ?_
    refine EWL.op rfl ?_
    refine s_mv ?_
    rcases Bool.eq_false_or_eq_true (decide (a0.kind = 4)) with hb20u | hb20u
    · replace hF0 := bif_t hb20u hF0
      refine EWL.op (want_of rfl rfl (beq_ hb20u)) ?_
      refine s_fa f28u0 rfl ?_
      refine EWL.op (want_of rfl rfl (beq_ hb20u)) ?_
      refine s_ldS t3 rfl (Blk.cells hb8u) (At.fld ha9u 0 rfl) ?_
      refine EWL.op (want_of rfl rfl (beq_ hb20u)) ?_
      refine s_eql rfl rfl ?_
      refine EWL.op (want_of rfl rfl (beq_ hb20u)) ?_
      refine s_mv ?_
      rcases Bool.eq_false_or_eq_true (decide (a1.kind = 3)) with hb21u | hb21u
      · replace hF0 := bif_t hb21u hF0
        refine EWL.pass (want_of rfl rfl (beq_ hb21u)) ?_
        refine EWL.pass (want_of rfl rfl (beq_ hb21u)) ?_
        refine EWL.pass (want_of rfl rfl (beq_ hb21u)) ?_
        refine EWL.op (want_of rfl rfl (beq_ hb20u)) ?_
        refine s_pT rfl hb21u ?_
        refine EWL.op rfl ?_
        refine s_pT rfl hb20u ?_
        refine EW.condS rfl rfl (fun hb => ?_) (fun hb => (tf_ rfl hb).elim)
        refine EW.seq ?_
        refine EW.region (by kernel_rfl) ?_
        refine EWL.op rfl ?_
        refine s_fa f28u3 rfl ?_
        refine EWL.op rfl ?_
        refine s_ldS t23 rfl (Blk.cells (Blk.up s12u no_ hb2u)) (At.fld (At.up ha3u s12u no_ nc0) 3 rfl) ?_
        refine EWL.op rfl ?_
        refine s_fa f28u3 rfl ?_
        refine EWL.op rfl ?_
        refine s_ldS t23 rfl (Blk.cells hb8u) (At.fld ha9u 3 rfl) ?_
        refine EWL.op rfl ?_
        refine s_eql rfl rfl ?_
        refine EWL.op rfl ?_
        refine s_as ?_
        refine EW.ret ?_
        obtain rfl := som hF0
        refine ends1 (.inl rfl)  ?_
        exact ret_ (g := g11u) I lo hZ z0 rfl rfl
      · replace hF0 := bif_f hb21u hF0
        refine EWL.op (want_of rfl rfl (beq_ hb21u)) ?_
        refine s_fa f28u0 rfl ?_
        refine EWL.op (want_of rfl rfl (beq_ hb21u)) ?_
        refine s_ldS t3 rfl (Blk.cells hb8u) (At.fld ha9u 0 rfl) ?_
        refine EWL.op (want_of rfl rfl (beq_ hb21u)) ?_
        refine s_eql rfl rfl ?_
        refine EWL.op (want_of rfl rfl (beq_ hb20u)) ?_
        refine s_pF rfl hb21u ?_
        refine EWL.op rfl ?_
        refine s_pT rfl hb20u ?_
        refine EW.condS rfl rfl (fun hb22u => ?_) (fun hb22u => ?_)
        · replace hF0 := bif_t hb22u hF0
          refine EW.seq ?_
          refine EW.region (by kernel_rfl) ?_
          refine EWL.op rfl ?_
          refine s_fa f28u3 rfl ?_
          refine EWL.op rfl ?_
          refine s_ldS t23 rfl (Blk.cells (Blk.up s12u no_ hb2u)) (At.fld (At.up ha3u s12u no_ nc0) 3 rfl) ?_
          refine EWL.op rfl ?_
          refine s_fa f28u3 rfl ?_
          refine EWL.op rfl ?_
          refine s_ldS t23 rfl (Blk.cells hb8u) (At.fld ha9u 3 rfl) ?_
          refine EWL.op rfl ?_
          refine s_eql rfl rfl ?_
          refine EWL.op rfl ?_
          refine s_as ?_
          refine EW.ret ?_
          obtain rfl := som hF0
          refine ends1 (.inl rfl)  ?_
          exact ret_ (g := g11u) I lo hZ z0 rfl rfl
        · replace hF0 := bif_f hb22u hF0
          refine EW.skip ?_
          refine EW.seq ?_
          refine EW.region (by kernel_rfl) ?_
          refine EWL.op rfl ?_
          refine s_ldK t28 rfl (Blk.cells (Blk.up s12u no_ hb2u)) (At.up ha3u s12u no_ nc0) rfl rfl fun cs23u m24u => ?_
          refine EWL.op rfl ?_
          refine s_ldK t28 rfl (Blk.cells hb8u) ha9u rfl rfl fun cs25u m26u => ?_
          refine EWL.op rfl ?_
          refine s_eqA E28 rfl (by kernel_rfl) rfl rfl m24u m26u ?_
          refine EWL.op rfl ?_
          refine s_as ?_
          refine EW.ret ?_
          obtain rfl := som hF0
          refine ends1 (.inl rfl)  ?_
          exact ret_ (g := g11u) I lo hZ z0 rfl rfl
    · replace hF0 := bif_f hb20u hF0
      refine EWL.pass (want_of rfl rfl (beq_ hb20u)) ?_
      refine EWL.pass (want_of rfl rfl (beq_ hb20u)) ?_
      refine EWL.pass (want_of rfl rfl (beq_ hb20u)) ?_
      refine EWL.pass (want_of rfl rfl (beq_ hb20u)) ?_
      refine EWL.pass rfl ?_
      refine EWL.pass rfl ?_
      refine EWL.pass rfl ?_
      refine EWL.pass (want_of rfl rfl (beq_ hb20u)) ?_
      refine EWL.op rfl ?_
      refine s_pF rfl hb20u ?_
      refine EW.condS rfl rfl (fun hb => (tf_ hb rfl).elim) (fun hb => ?_)
      refine EW.skip ?_
      refine EW.seq ?_
      refine EW.region (by kernel_rfl) ?_
      refine EWL.op rfl ?_
      refine s_ldK t28 rfl (Blk.cells (Blk.up s12u no_ hb2u)) (At.up ha3u s12u no_ nc0) rfl rfl fun cs27u m28u => ?_
      refine EWL.op rfl ?_
      refine s_ldK t28 rfl (Blk.cells hb8u) ha9u rfl rfl fun cs29u m30u => ?_
      refine EWL.op rfl ?_
      refine s_eqA E28 rfl (by kernel_rfl) rfl rfl m28u m30u ?_
      refine EWL.op rfl ?_
      refine s_as ?_
      refine EW.ret ?_
      obtain rfl := som hF0
      refine ends1 (.inl rfl)  ?_
      exact ret_ (g := g11u) I lo hZ z0 rfl rfl
theorem ref20uAdd_ok {g0 : GW} {Z : Nat → Prop} (hZ : ∀ c, Z c → c = 0 ∨ 5100 ≤ c) (z0 : Z 0) (lo : Lo Z g0) (rc0 : Nat) (zrc0 : Z rc0) {a0 : (List ref20uWish)} {va0 : Value} {ka0 : Nat} {a1 : ref20uWish} {ca1 : List Value} (ma0 : Sl k_ref20uWish g0 ka0 a0 va0) (hka0 : ka0 = 0 ∨ 5100 ≤ ka0) (ma1 : k_ref20uWish.M g0 0 a1 ca1) {r : (List ref20uWish)} (hF0 : ref20uAdd a0 a1 = some r) :
    Calls P 11 [va0, .agg ca1.toArray].toArray g0.w (Rets (RR (no) Z g0 ((fun h v => Row 31 k_ref20uWish h rc0 r v)))) := by
  refine calls_of Go.Proofs.Try.func11 rfl (Nat.le_of_ble_eq_true rfl) (by kernel_rfl) ?_
  have I : Inv (or_ (no) (iv 5000 5100)) (or_ Z (iv 5000 5100)) g0 g0 := Inv.start (lo.mono (fun _ h => .inl h))
  have fz : ¬ iv 5000 5100 0 := nz0 rfl
  unfold ref20uAdd at hF0
  refine EW.seq ?_
  refine EW.region (by kernel_rfl) ?_
  refine EWL.op rfl ?_
  refine s_boxK (kd := k_ref20uWish) (r := a1) 5001 I (zpv rfl) ma1 rfl rfl fun g5u b1u s6u I hb2u hl4u ha3u => ?_
  refine EWL.op rfl ?_
  refine s_as ?_
  refine EW.seq ?_
  refine EW.region (by kernel_rfl) ?_
  refine EWL.op rfl ?_
  refine s_bslK (kd := k_ref20uWish) (xs := ([] : List ref20uWish)) 5002 I s22 t31 z31 rfl rfl (by decide) rfl (by decide) (trivial) (Seg.flat (d := k_ref20uWish) (g := g5u) alle) rfl (zpv rfl) fun g9u v7u s10u I m8u => ?_
  refine EWL.op rfl ?_
  refine s_mv ?_
  refine EWL.op rfl ?_
  obtain ⟨l11u, h12u, hF0⟩ := bnd hF0
  refine s_app (kd := k_ref20uWish) I s22 rfl s22 t31 z31 rfl m8u (Sl.rs (Sl.up rfl s10u no_ no_ (Sl.up rfl s6u no_ no_ ma0))) h12u (by decide) (zpv rfl) (zpv rfl) fun g15u v13u s16u I m14u => ?_
  refine EWL.op rfl ?_
  refine s_as ?_
  refine EW.seq ?_
  refine EW.seq ?_
  refine EW.region (by kernel_rfl) ?_
  refine EWL.op rfl ?_
  refine s_as ?_
  refine EW.block ?_
  refine EW.loop (b := (ref20uAdd_b1 a0 l11u)) (fun (s : (Int × ref20uWish)) ρ w => ∃ (g20u : GW) (v22u : Value) (v26u : Value) (x29u : Int) (L31u : List Value) (x35u : ref20uWish), w = g20u.w ∧ Inv (or_ (no) (iv 5000 5100)) (or_ Z (iv 5000 5100)) g0 g20u ∧ (x29u, x35u) = s ∧ ρ 0 = v22u ∧ Sl k_ref20uWish g20u ka0 a0 v22u ∧ ρ 3 = .pointer (some ⟨b1u, 0, none⟩) ∧ ρ 5 = v26u ∧ Row 31 k_ref20uWish g20u 5002 l11u v26u ∧ ρ 6 = .int .i64 x29u ∧ Blk g20u b1u 5001 31 L31u ∧ L31u.length = 40 ∧ At k_ref20uWish g20u 0 x35u L31u 0) hF0 ⟨g15u, _, _, 0, _, a1, rfl, I, rfl, rfl, (Sl.up rfl s16u (Nat.ne_of_beq_eq_false rfl) (ne_ld hka0 rfl rfl) (Sl.up rfl s10u no_ no_ (Sl.up rfl s6u no_ no_ ma0))), rfl, rfl, m14u, rfl, (Blk.up s16u (Nat.ne_of_beq_eq_false rfl) (Blk.up s10u no_ hb2u)), hl4u, (At.up (At.up ha3u s10u no_ nc0) s16u (Nat.ne_of_beq_eq_false rfl) nc0)⟩ ?_
  · rintro s_ o36u ρ w ⟨g20u, v22u, v26u, x29u, L31u, x35u, rfl, I, eo, hr21u, m23u, hr24u, hr25u, m27u, hr28u, hb32u, hl34u, ha33u⟩ hF1 hr1
    subst eo
    unfold ref20uAdd_b1 at hF1
    refine EW.re (up1 (up1 (up1 (up1 rfl hr21u) hr24u) hr25u) hr28u) ?_
    refine EW.seq ?_
    refine EW.seq ?_
    refine EW.region (by kernel_rfl) ?_
    refine EWL.op rfl ?_
    refine s_mv ?_
    refine EWL.op rfl ?_
    refine s_mv ?_
    refine EWL.op rfl ?_
    refine s_lenR (kd := k_ref20uWish) (xs := a0) s22 rfl (Sl.rs m23u) ?_
    refine EWL.op rfl ?_
    refine s_lss rfl rfl ?_
    refine EW.condS rfl rfl (fun hb37u => ?_) (fun hb37u => ?_)
    · replace hF1 := bif_t hb37u hF1
      refine EW.skip ?_
      refine EW.seq ?_
      refine EW.block ?_
      refine EW.seq ?_
      obtain ⟨x38u, h39u, hF1⟩ := bnd hF1
      obtain ⟨r49u, h50u, hF1⟩ := bnd hF1
      refine EW.drawn [] [⟨SF.sl 0 k_ref20uWish rfl ka0 a0, none, none⟩, ⟨SF.val 6 (.int .i64 x29u), none, none⟩, ⟨SF.val 3 (.pointer (some ⟨b1u, 0, none⟩)), none, none⟩, ⟨SF.bx b1u 5001 31 k_ref20uWish rfl x35u, none, none⟩, ⟨SF.row 5 31 k_ref20uWish rfl 5002 l11u, none, none⟩, ⟨SF.sl 16 k_ref20uWish rfl ka0 a0, some 0, none⟩, ⟨SF.val 17 (.int .i64 x29u), some 1, none⟩, ⟨SF.ep 18 k_ref20uWish rfl ka0 x38u (fun o => o), some 2, none⟩, ⟨SF.ep 19 k_ref20uWish rfl ka0 x38u (fun o => o + 0), some 3, none⟩, ⟨SF.agg 20 k_ref12uOp rfl x38u.op, some 4, none⟩, ⟨SF.val 21 (.pointer (some ⟨b1u, 0 + 0, none⟩)), some 5, none⟩, ⟨SF.agg 22 k_ref12uOp rfl x35u.op, some 6, none⟩, ⟨SF.val 23 (.bool r49u), some 7, none⟩] [] (by kernel_rfl) (by kernel_rfl) (by kernel_rfl) ?_ I ?_ (dcons ?_ (dcons ?_ (dcons ?_ (dcons ?_ (dcons ?_ (dcons ?_ (dcons ?_ (dcons ?_ dnil)))))))) ?_
      · exact trivial
      · exact (nwc (pf_sl rfl rfl m23u) (nwc (pf_val rfl) (nwc (pf_val rfl) (nwc (pf_bx rfl hb32u hl34u ha33u) (nwc (pf_row rfl rfl m27u) nwn)))))
      · intro ρ g I av
        obtain ⟨v73u, hr71u, m72u⟩ := av 0 _ rfl (by kernel_rfl)
        refine ddo (up1 rfl hr71u) rfl ?_
        refine s_mv ?_
        exact ⟨_, rfl, (Stp.refl _ _), I, (nwc (pf_sl rfl rfl m72u) nwn)⟩
      · intro ρ g I av
        have hr74u := av 1 _ rfl (by kernel_rfl)
        refine ddo (up1 rfl hr74u) rfl ?_
        refine s_mv ?_
        exact ⟨_, rfl, (Stp.refl _ _), I, (nwc (pf_val rfl) nwn)⟩
      · intro ρ g I av
        obtain ⟨v78u, hr76u, m77u⟩ := av 5 _ rfl (by kernel_rfl)
        have hr79u := av 6 _ rfl (by kernel_rfl)
        refine ddo (up1 (up1 rfl hr76u) hr79u) rfl ?_
        refine s_idxS s22 t31 rfl m77u rfl h39u fun b81u o82u L83u hc84u ha85u => ?_
        exact ⟨_, rfl, (Stp.refl _ _), I, (nwc (pf_ep rfl rfl hc84u ha85u) nwn)⟩
      · intro ρ g I av
        obtain ⟨b88u, o89u, L90u, hr86u, hc91u, ha92u⟩ := av 7 _ rfl (by kernel_rfl)
        refine ddo (up1 rfl hr86u) rfl ?_
        refine s_fa f31u0 rfl ?_
        exact ⟨_, rfl, (Stp.refl _ _), I, (nwc (pf_ep rfl rfl hc91u ha92u) nwn)⟩
      · intro ρ g I av
        obtain ⟨b95u, o96u, L97u, hr93u, hc98u, ha99u⟩ := av 8 _ rfl (by kernel_rfl)
        refine ddo (up1 rfl hr93u) rfl ?_
        refine s_ldK t28 rfl (Imm.cells hc98u) (At.fld ha99u 0 rfl) rfl rfl fun cs100u m101u => ?_
        exact ⟨_, rfl, (Stp.refl _ _), I, (nwc (pf_agg rfl rfl m101u) nwn)⟩
      · intro ρ g I av
        have hr102u := av 2 _ rfl (by kernel_rfl)
        refine ddo (up1 rfl hr102u) rfl ?_
        refine s_fa f31u0 rfl ?_
        exact ⟨_, rfl, (Stp.refl _ _), I, (nwc (pf_val rfl) nwn)⟩
      · intro ρ g I av
        obtain ⟨L104u, hb105u, hl106u, ha107u⟩ := av 3 _ rfl (by kernel_rfl)
        have hr108u := av 10 _ rfl (by kernel_rfl)
        refine ddo (up1 rfl hr108u) rfl ?_
        refine s_ldK t28 rfl (Blk.cells hb105u) (At.fld ha107u 0 rfl) rfl rfl fun cs110u m111u => ?_
        exact ⟨_, rfl, (Stp.refl _ _), I, (nwc (pf_agg rfl rfl m111u) nwn)⟩
      · intro ρ g I av
        obtain ⟨_, hr112u, m113u⟩ := av 9 _ rfl (by kernel_rfl)
        obtain ⟨_, hr114u, m115u⟩ := av 11 _ rfl (by kernel_rfl)
        refine ddo (up1 (up1 rfl hr112u) hr114u) rfl ?_
        refine s_cf I k17 rfl (ref20uSame_ok (zle hZ rfl rfl) (.inl z0) I.l m113u m115u h50u) no_any fun g118u v116u s119u I p117u => ?_
        obtain rfl := p117u
        exact ⟨_, rfl, s119u, I, (nwc (pf_val rfl) nwn)⟩
      · intro ρ g I av
        obtain ⟨L55u, hb56u, hl57u, ha58u⟩ := av 3 _ rfl rfl
        obtain ⟨v61u, hr59u, m60u⟩ := av 0 _ rfl rfl
        have hr62u := av 2 _ rfl rfl
        obtain ⟨v66u, hr64u, m65u⟩ := av 4 _ rfl rfl
        have hr67u := av 1 _ rfl rfl
        have hr69u := av 12 _ rfl rfl
        refine ⟨_, (up1 (up1 (up1 (up1 (up1 rfl hr59u) hr62u) hr64u) hr67u) hr69u), ?_⟩
        refine EW.condS rfl rfl (fun hb120u => ?_) (fun hb120u => ?_)
        · replace hF1 := bif_t hb120u hF1
          refine EW.seq ?_
          refine EW.region (by kernel_rfl) ?_
          refine EWL.op rfl ?_
          refine s_mv ?_
          refine EWL.op rfl ?_
          refine s_as ?_
          refine EW.ret ?_
          have hF0 := out_ hF1 hr1
          obtain rfl := som hF0
          refine ends1 (.inl rfl)  ?_
          have m121u := Row.rc rfl (by decide) m65u rc0
          have s123u := Stp.rc1 g 5002 rc0
          replace I := I.to s123u (Lo.rc (d := rc0) I.l (.inl zrc0)) (at_in (zpv rfl))
          exact ret_ (g := (g.rc 5002 (5002 + 1) rc0)) I lo hZ z0 rfl (Row.up rfl (Stp.rc (g.rc 5002 (5002 + 1) rc0) 5000 5100 0) fz (iv_z hZ rfl zrc0) m121u)
        · replace hF1 := bif_f hb120u hF1
          refine EW.skip ?_
          refine EW.region (by kernel_rfl) ?_
          refine EWL.op rfl ?_
          refine s_mv ?_
          refine EWL.op rfl ?_
          refine s_add rfl rfl ?_
          refine EWL.op rfl ?_
          refine s_as ?_
          exact ⟨_, (som hF1).symm, g, _, _, (IntKind.i64.wrap (x29u + 1)), _, x35u, rfl, I, rfl, rfl, m60u, rfl, rfl, m65u, rfl, hb56u, hl57u, ha58u⟩
    · replace hF1 := bif_f hb37u hF1
      refine EW.exit ?_
      have hF0 := out_ hF1 hr1
      refine EW.seq ?_
      refine EW.region (by kernel_rfl) ?_
      refine EWL.op rfl ?_
      refine s_mv ?_
      refine EWL.op rfl ?_
      refine s_ldK t31 rfl (Blk.cells hb32u) ha33u rfl rfl fun cs124u m125u => ?_
      refine EWL.op rfl ?_
      refine s_bslK (kd := k_ref20uWish) (xs := ([x35u] : List ref20uWish)) 5003 I s22 t31 z31 rfl rfl (by decide) rfl (by decide) (And.intro (congrArg some (kl (d := k_ref20uWish) m125u).symm) (trivial)) (Seg.flat (d := k_ref20uWish) (g := g20u) (alls m125u alle)) rfl (zpv rfl) fun g128u v126u s129u I m127u => ?_
      refine EWL.op rfl ?_
      obtain ⟨l130u, h131u, hF0⟩ := bnd hF0
      refine s_app (kd := k_ref20uWish) I s22 rfl s22 t31 z31 rfl (Row.up rfl s129u no_ no_ m27u) (Sl.rs (Row.sl m127u)) h131u (by decide) (zpv rfl) (zpv rfl) fun g134u v132u s135u I m133u => ?_
      refine EWL.op rfl ?_
      refine s_as ?_
      refine EW.ret ?_
      obtain rfl := som hF0
      refine ends1 (.inl rfl)  ?_
      have m136u := Row.rc rfl (by decide) m133u rc0
      have s138u := Stp.rc1 g134u 5002 rc0
      replace I := I.to s138u (Lo.rc (d := rc0) I.l (.inl zrc0)) (at_in (zpv rfl))
      exact ret_ (g := (g134u.rc 5002 (5002 + 1) rc0)) I lo hZ z0 rfl (Row.up rfl (Stp.rc (g134u.rc 5002 (5002 + 1) rc0) 5000 5100 0) fz (iv_z hZ rfl zrc0) m136u)
theorem octet_Out_One_ok {g0 : GW} {Z : Nat → Prop} (hZ : ∀ c, Z c → c = 0 ∨ 5200 ≤ c) (z0 : Z 0) (lo : Lo Z g0)  {a0 : (List Int)} {va0 : Value} {ka0 : Nat} {a1 : (List Int)} {va1 : Value} {ka1 : Nat} (ma0 : Row 5 (kInt .u8) g0 ka0 a0 va0) (hka0 : 5200 ≤ ka0) (zka0 : Z ka0) (ma1 : Sl (kInt .u8) g0 ka1 a1 va1) (hka1 : ka1 = 0 ∨ 5200 ≤ ka1) (d_ka1uka0 : ka1 ≠ ka0) {r : (List Int)} (hF0 : octet_Out_One a0 a1 = some r) :
    Calls P 33 [va0, va1].toArray g0.w (Rets (RR (at_ ka0) Z g0 ((fun h v => Row 5 (kInt .u8) h ka0 r v)))) := by
  refine calls_of Go.Proofs.Try.func33 rfl (Nat.le_of_ble_eq_true rfl) (by kernel_rfl) ?_
  have I : Inv (or_ (at_ ka0) (iv 5100 5200)) (or_ Z (iv 5100 5200)) g0 g0 := Inv.start (lo.mono (fun _ h => .inl h))
  have fz : ¬ iv 5100 5200 0 := nz0 rfl
  unfold octet_Out_One at hF0
  refine EW.seq ?_
  refine EW.region (by kernel_rfl) ?_
  refine EWL.op rfl ?_
  refine s_as ?_
  refine EW.seq ?_
  refine EW.region (by kernel_rfl) ?_
  refine EWL.op rfl ?_
  refine s_mv ?_
  refine EWL.op rfl ?_
  refine s_mv ?_
  refine EWL.op rfl ?_
  obtain ⟨l1u, h2u, hF0⟩ := bnd hF0
  refine s_app (kd := (kInt .u8)) I s104 rfl s32 t5 z5 rfl ma0 (Sl.rs ma1) h2u (ne_od hka0 rfl) (.inl zka0) (.inl rfl) fun g5u v3u s6u I m4u => ?_
  refine EWL.op rfl ?_
  refine s_as ?_
  refine EW.ret ?_
  obtain rfl := som hF0
  refine ends1 (.inl rfl)  ?_
  exact ret_ (g := g5u) I lo hZ z0 rfl (Row.up rfl (Stp.rc g5u 5100 5200 0) fz (iv_o hka0) m4u)
theorem octet_Out_num_ok {g0 : GW} {Z : Nat → Prop} (hZ : ∀ c, Z c → c = 0 ∨ 5300 ≤ c) (z0 : Z 0) (lo : Lo Z g0)  {a0 : (List Int)} {va0 : Value} {ka0 : Nat} {a1 : Int} {a2 : Int} (ma0 : Row 5 (kInt .u8) g0 ka0 a0 va0) (hka0 : 5300 ≤ ka0) (zka0 : Z ka0) {r : (List Int)} (hF0 : octet_Out_num a0 a1 a2 = some r) :
    Calls P 65 [va0, .int .u64 a1, .int .i64 a2].toArray g0.w (Rets (RR (at_ ka0) Z g0 ((fun h v => Row 5 (kInt .u8) h ka0 r v)))) := by
  refine calls_of Go.Proofs.Try.func65 rfl (Nat.le_of_ble_eq_true rfl) (by kernel_rfl) ?_
  have I : Inv (or_ (at_ ka0) (iv 5200 5300)) (or_ Z (iv 5200 5300)) g0 g0 := Inv.start (lo.mono (fun _ h => .inl h))
  have fz : ¬ iv 5200 5300 0 := nz0 rfl
  unfold octet_Out_num at hF0
  refine EW.seq ?_
  refine EW.region (by kernel_rfl) ?_
  refine EWL.op rfl ?_
  refine s_as ?_
  refine EW.seq ?_
  refine EW.seq ?_
  refine EW.region (by kernel_rfl) ?_
  refine EWL.op rfl ?_
  refine s_mv ?_
  refine EWL.op rfl ?_
  refine s_sub rfl rfl ?_
  refine EWL.op rfl ?_
  refine s_as ?_
  refine EW.block ?_
  refine EW.loop (b := (octet_Out_num_b1 a1)) (fun (s : ((List Int) × Int)) ρ w => ∃ (g5u : GW) (x7u : (List Int)) (v8u : Value) (x12u : Int), w = g5u.w ∧ Inv (or_ (at_ ka0) (iv 5200 5300)) (or_ Z (iv 5200 5300)) g0 g5u ∧ (x7u, x12u) = s ∧ ρ 0 = v8u ∧ Row 5 (kInt .u8) g5u ka0 x7u v8u ∧ ρ 1 = .int .u64 a1 ∧ ρ 7 = .int .i64 x12u) hF0 ⟨g0, a0, _, (IntKind.i64.wrap (a2 - 1)), rfl, I, rfl, rfl, ma0, rfl, rfl⟩ ?_
  · rintro s_ o13u ρ w ⟨g5u, x7u, v8u, x12u, rfl, I, eo, hr6u, m9u, hr10u, hr11u⟩ hF1 hr1
    subst eo
    unfold octet_Out_num_b1 at hF1
    refine EW.re (up1 (up1 (up1 rfl hr6u) hr10u) hr11u) ?_
    refine EW.seq ?_
    refine EW.seq ?_
    refine EW.region (by kernel_rfl) ?_
    refine EWL.op rfl ?_
    refine s_mv ?_
    refine EWL.op rfl ?_
    refine s_geq rfl rfl ?_
    refine EW.condS rfl rfl (fun hb14u => ?_) (fun hb14u => ?_)
    · replace hF1 := bif_t hb14u hF1
      refine EW.skip ?_
      refine EW.seq ?_
      refine EW.block ?_
      refine EW.region (by kernel_rfl) ?_
      refine EWL.op rfl ?_
      refine s_mv ?_
      refine EWL.op rfl ?_
      refine s_mv ?_
      refine EWL.op rfl ?_
      refine s_mv ?_
      refine EWL.op rfl ?_
      refine s_mul rfl rfl ?_
      refine EWL.op rfl ?_
      obtain ⟨h15u, hF1⟩ := grd hF1
      refine s_shr rfl rfl (of_decide_eq_true h15u) ?_
      refine EWL.op rfl ?_
      refine s_cvt u23 n5 rfl ?_
      refine EWL.op rfl ?_
      refine s_bslK (kd := (kInt .u8)) (xs := ([(IntKind.u8.wrap (Tl.shr .u64 a1 (IntKind.i64.wrap (8 * x12u))))] : List Int)) 5201 I s104 t5 z5 rfl rfl (by decide) rfl (by decide) (And.intro rfl (trivial)) (Seg.flat (d := (kInt .u8)) (g := g5u) (alls rfl alle)) rfl (zpv rfl) fun g18u v16u s19u I m17u => ?_
      refine EWL.op rfl ?_
      obtain ⟨l20u, h21u, hF1⟩ := bnd hF1
      refine s_app (kd := (kInt .u8)) I s104 rfl s104 t5 z5 rfl (Row.up rfl s19u no_ no_ m9u) (Sl.rs (Row.sl m17u)) h21u (ne_od hka0 rfl) (.inl zka0) (.inl rfl) fun g24u v22u s25u I m23u => ?_
      refine EWL.op rfl ?_
      refine s_as ?_
      refine EW.region (by kernel_rfl) ?_
      refine EWL.op rfl ?_
      refine s_mv ?_
      refine EWL.op rfl ?_
      refine s_sub rfl rfl ?_
      refine EWL.op rfl ?_
      refine s_as ?_
      exact ⟨_, (som hF1).symm, g24u, l20u, _, (IntKind.i64.wrap (x12u - 1)), rfl, I, rfl, rfl, m23u, rfl, rfl⟩
    · replace hF1 := bif_f hb14u hF1
      refine EW.exit ?_
      have hF0 := out_ hF1 hr1
      refine EW.seq ?_
      refine EW.region (by kernel_rfl) ?_
      refine EWL.op rfl ?_
      refine s_mv ?_
      refine EWL.op rfl ?_
      refine s_as ?_
      refine EW.ret ?_
      obtain rfl := som hF0
      refine ends1 (.inl rfl)  ?_
      exact ret_ (g := g5u) I lo hZ z0 rfl (Row.up rfl (Stp.rc g5u 5200 5300 0) fz (iv_o hka0) m9u)
theorem octet_Out_Four_ok {g0 : GW} {Z : Nat → Prop} (hZ : ∀ c, Z c → c = 0 ∨ 5400 ≤ c) (z0 : Z 0) (lo : Lo Z g0)  {a0 : (List Int)} {va0 : Value} {ka0 : Nat} {a1 : (List Int)} {va1 : Value} {ka1 : Nat} (ma0 : Row 5 (kInt .u8) g0 ka0 a0 va0) (hka0 : 5400 ≤ ka0) (zka0 : Z ka0) (ma1 : Sl (kInt .u32) g0 ka1 a1 va1) (hka1 : ka1 = 0 ∨ 5400 ≤ ka1) (d_ka1uka0 : ka1 ≠ ka0) {r : (List Int)} (hF0 : octet_Out_Four a0 a1 = some r) :
    Calls P 54 [va0, va1].toArray g0.w (Rets (RR (at_ ka0) Z g0 ((fun h v => Row 5 (kInt .u8) h ka0 r v)))) := by
  refine calls_of Go.Proofs.Try.func54 rfl (Nat.le_of_ble_eq_true rfl) (by kernel_rfl) ?_
  have I : Inv (or_ (at_ ka0) (iv 5300 5400)) (or_ Z (iv 5300 5400)) g0 g0 := Inv.start (lo.mono (fun _ h => .inl h))
  have fz : ¬ iv 5300 5400 0 := nz0 rfl
  unfold octet_Out_Four at hF0
  refine EW.seq ?_
  refine EW.region (by kernel_rfl) ?_
  refine EWL.op rfl ?_
  refine s_as ?_
  refine EW.seq ?_
  refine EW.seq ?_
  refine EW.region (by kernel_rfl) ?_
  refine EWL.op rfl ?_
  refine s_mv ?_
  refine EWL.op rfl ?_
  refine s_lenR (kd := (kInt .u32)) (xs := a1) s137 rfl (Sl.rs ma1) ?_
  refine EWL.op rfl ?_
  refine s_mv ?_
  refine EW.block ?_
  refine EW.loop (b := (octet_Out_Four_b1 a1)) (fun (s : ((List Int) × Int)) ρ w => ∃ (g5u : GW) (x7u : (List Int)) (v8u : Value) (v11u : Value) (x15u : Int), w = g5u.w ∧ Inv (or_ (at_ ka0) (iv 5300 5400)) (or_ Z (iv 5300 5400)) g0 g5u ∧ (x7u, x15u) = s ∧ ρ 0 = v8u ∧ Row 5 (kInt .u8) g5u ka0 x7u v8u ∧ ρ 7 = v11u ∧ Sl (kInt .u32) g5u ka1 a1 v11u ∧ ρ 8 = .int .i64 (a1.length : Int) ∧ ρ 9 = .int .i64 x15u) hF0 ⟨g0, a0, _, _, 0, rfl, I, rfl, rfl, ma0, rfl, ma1, rfl, rfl⟩ ?_
  · rintro s_ o16u ρ w ⟨g5u, x7u, v8u, v11u, x15u, rfl, I, eo, hr6u, m9u, hr10u, m12u, hr13u, hr14u⟩ hF1 hr1
    subst eo
    unfold octet_Out_Four_b1 at hF1
    refine EW.re (up1 (up1 (up1 (up1 rfl hr6u) hr10u) hr13u) hr14u) ?_
    refine EW.seq ?_
    refine EW.region (by kernel_rfl) ?_
    refine EWL.op rfl ?_
    refine s_lss rfl rfl ?_
    refine EW.seq ?_
    refine EW.condS rfl rfl (fun hb17u => ?_) (fun hb17u => ?_)
    · replace hF1 := bif_t hb17u hF1
      refine EW.skip ?_
      refine EW.seq ?_
      refine EW.block ?_
      refine EW.seq ?_
      refine EW.region (by kernel_rfl) ?_
      refine EWL.op rfl ?_
      obtain ⟨x18u, h19u, hF1⟩ := bnd hF1
      refine s_idxS s137 t65 rfl m12u rfl h19u fun b20u o21u L22u hc23u ha24u => ?_
      refine EWL.op rfl ?_
      refine s_ldS t65 rfl (Imm.cells hc23u) ha24u ?_
      refine EWL.op rfl ?_
      refine s_as ?_
      refine EW.region (by kernel_rfl) ?_
      refine EWL.op rfl ?_
      refine s_mv ?_
      refine EWL.op rfl ?_
      refine s_mv ?_
      refine EWL.op rfl ?_
      refine s_cvt u65 n23 rfl ?_
      refine EWL.op rfl ?_
      obtain ⟨r25u, h26u, hF1⟩ := bnd hF1
      refine s_cf I k65 rfl (octet_Out_num_ok (zle hZ rfl rfl) (.inl z0) I.l m9u (le_b rfl hka0) (.inl zka0) h26u) (at_in (.inl rfl)) fun g29u v27u s30u I p28u => ?_
      refine EWL.op rfl ?_
      refine s_as ?_
      refine EW.region (by kernel_rfl) ?_
      refine EWL.op rfl ?_
      refine s_add rfl rfl ?_
      refine EWL.op rfl ?_
      refine s_mv ?_
      exact ⟨_, (som hF1).symm, g29u, r25u, _, _, (IntKind.i64.wrap (x15u + 1)), rfl, I, rfl, rfl, p28u, rfl, (Sl.up rfl s30u (Ne.symm (ne_od hka0 rfl)) d_ka1uka0 m12u), rfl, rfl⟩
    · replace hF1 := bif_f hb17u hF1
      refine EW.exit ?_
      have hF0 := out_ hF1 hr1
      refine EW.seq ?_
      refine EW.region (by kernel_rfl) ?_
      refine EWL.op rfl ?_
      refine s_mv ?_
      refine EWL.op rfl ?_
      refine s_as ?_
      refine EW.ret ?_
      obtain rfl := som hF0
      refine ends1 (.inl rfl)  ?_
      exact ret_ (g := g5u) I lo hZ z0 rfl (Row.up rfl (Stp.rc g5u 5300 5400 0) fz (iv_o hka0) m9u)
theorem octet_Out_Eight_ok {g0 : GW} {Z : Nat → Prop} (hZ : ∀ c, Z c → c = 0 ∨ 5500 ≤ c) (z0 : Z 0) (lo : Lo Z g0)  {a0 : (List Int)} {va0 : Value} {ka0 : Nat} {a1 : (List Int)} {va1 : Value} {ka1 : Nat} (ma0 : Row 5 (kInt .u8) g0 ka0 a0 va0) (hka0 : 5500 ≤ ka0) (zka0 : Z ka0) (ma1 : Sl (kInt .u64) g0 ka1 a1 va1) (hka1 : ka1 = 0 ∨ 5500 ≤ ka1) (d_ka1uka0 : ka1 ≠ ka0) {r : (List Int)} (hF0 : octet_Out_Eight a0 a1 = some r) :
    Calls P 55 [va0, va1].toArray g0.w (Rets (RR (at_ ka0) Z g0 ((fun h v => Row 5 (kInt .u8) h ka0 r v)))) := by
  refine calls_of Go.Proofs.Try.func55 rfl (Nat.le_of_ble_eq_true rfl) (by kernel_rfl) ?_
  have I : Inv (or_ (at_ ka0) (iv 5400 5500)) (or_ Z (iv 5400 5500)) g0 g0 := Inv.start (lo.mono (fun _ h => .inl h))
  have fz : ¬ iv 5400 5500 0 := nz0 rfl
  unfold octet_Out_Eight at hF0
  refine EW.seq ?_
  refine EW.region (by kernel_rfl) ?_
  refine EWL.op rfl ?_
  refine s_as ?_
  refine EW.seq ?_
  refine EW.seq ?_
  refine EW.region (by kernel_rfl) ?_
  refine EWL.op rfl ?_
  refine s_mv ?_
  refine EWL.op rfl ?_
  refine s_lenR (kd := (kInt .u64)) (xs := a1) s139 rfl (Sl.rs ma1) ?_
  refine EWL.op rfl ?_
  refine s_mv ?_
  refine EW.block ?_
  refine EW.loop (b := (octet_Out_Eight_b1 a1)) (fun (s : ((List Int) × Int)) ρ w => ∃ (g5u : GW) (x7u : (List Int)) (v8u : Value) (v11u : Value) (x15u : Int), w = g5u.w ∧ Inv (or_ (at_ ka0) (iv 5400 5500)) (or_ Z (iv 5400 5500)) g0 g5u ∧ (x7u, x15u) = s ∧ ρ 0 = v8u ∧ Row 5 (kInt .u8) g5u ka0 x7u v8u ∧ ρ 7 = v11u ∧ Sl (kInt .u64) g5u ka1 a1 v11u ∧ ρ 8 = .int .i64 (a1.length : Int) ∧ ρ 9 = .int .i64 x15u) hF0 ⟨g0, a0, _, _, 0, rfl, I, rfl, rfl, ma0, rfl, ma1, rfl, rfl⟩ ?_
  · rintro s_ o16u ρ w ⟨g5u, x7u, v8u, v11u, x15u, rfl, I, eo, hr6u, m9u, hr10u, m12u, hr13u, hr14u⟩ hF1 hr1
    subst eo
    unfold octet_Out_Eight_b1 at hF1
    refine EW.re (up1 (up1 (up1 (up1 rfl hr6u) hr10u) hr13u) hr14u) ?_
    refine EW.seq ?_
    refine EW.region (by kernel_rfl) ?_
    refine EWL.op rfl ?_
    refine s_lss rfl rfl ?_
    refine EW.seq ?_
    refine EW.condS rfl rfl (fun hb17u => ?_) (fun hb17u => ?_)
    · replace hF1 := bif_t hb17u hF1
      refine EW.skip ?_
      refine EW.seq ?_
      refine EW.block ?_
      refine EW.seq ?_
      refine EW.region (by kernel_rfl) ?_
      refine EWL.op rfl ?_
      obtain ⟨x18u, h19u, hF1⟩ := bnd hF1
      refine s_idxS s139 t23 rfl m12u rfl h19u fun b20u o21u L22u hc23u ha24u => ?_
      refine EWL.op rfl ?_
      refine s_ldS t23 rfl (Imm.cells hc23u) ha24u ?_
      refine EWL.op rfl ?_
      refine s_as ?_
      refine EW.region (by kernel_rfl) ?_
      refine EWL.op rfl ?_
      refine s_mv ?_
      refine EWL.op rfl ?_
      refine s_mv ?_
      refine EWL.op rfl ?_
      obtain ⟨r25u, h26u, hF1⟩ := bnd hF1
      refine s_cf I k65 rfl (octet_Out_num_ok (zle hZ rfl rfl) (.inl z0) I.l m9u (le_b rfl hka0) (.inl zka0) h26u) (at_in (.inl rfl)) fun g29u v27u s30u I p28u => ?_
      refine EWL.op rfl ?_
      refine s_as ?_
      refine EW.region (by kernel_rfl) ?_
      refine EWL.op rfl ?_
      refine s_add rfl rfl ?_
      refine EWL.op rfl ?_
      refine s_mv ?_
      exact ⟨_, (som hF1).symm, g29u, r25u, _, _, (IntKind.i64.wrap (x15u + 1)), rfl, I, rfl, rfl, p28u, rfl, (Sl.up rfl s30u (Ne.symm (ne_od hka0 rfl)) d_ka1uka0 m12u), rfl, rfl⟩
    · replace hF1 := bif_f hb17u hF1
      refine EW.exit ?_
      have hF0 := out_ hF1 hr1
      refine EW.seq ?_
      refine EW.region (by kernel_rfl) ?_
      refine EWL.op rfl ?_
      refine s_mv ?_
      refine EWL.op rfl ?_
      refine s_as ?_
      refine EW.ret ?_
      obtain rfl := som hF0
      refine ends1 (.inl rfl)  ?_
      exact ret_ (g := g5u) I lo hZ z0 rfl (Row.up rfl (Stp.rc g5u 5400 5500 0) fz (iv_o hka0) m9u)
theorem memo_LayTrail_ok {g0 : GW} {Z : Nat → Prop} (hZ : ∀ c, Z c → c = 0 ∨ 5600 ≤ c) (z0 : Z 0) (lo : Lo Z g0)  {a0 : (List Int)} {va0 : Value} {ka0 : Nat} {a1 : (List memo_Hop)} {va1 : Value} {ka1 : Nat} (ma0 : Row 5 (kInt .u8) g0 ka0 a0 va0) (hka0 : 5600 ≤ ka0) (zka0 : Z ka0) (ma1 : Sl k_memo_Hop g0 ka1 a1 va1) (hka1 : ka1 = 0 ∨ 5600 ≤ ka1) (d_ka1uka0 : ka1 ≠ ka0) {r : (List Int)} (hF0 : memo_LayTrail a0 a1 = some r) :
    Calls P 34 [va0, va1].toArray g0.w (Rets (RR (at_ ka0) Z g0 ((fun h v => Row 5 (kInt .u8) h ka0 r v)))) := by
  refine calls_of Go.Proofs.Try.func34 rfl (Nat.le_of_ble_eq_true rfl) (by kernel_rfl) ?_
  have I : Inv (or_ (at_ ka0) (iv 5500 5600)) (or_ Z (iv 5500 5600)) g0 g0 := Inv.start (lo.mono (fun _ h => .inl h))
  have fz : ¬ iv 5500 5600 0 := nz0 rfl
  unfold memo_LayTrail at hF0
  refine EW.seq ?_
  refine EW.region (by kernel_rfl) ?_
  refine EWL.op rfl ?_
  refine s_as ?_
  refine EW.seq ?_
  refine EW.region (by kernel_rfl) ?_
  refine EWL.op rfl ?_
  refine s_mv ?_
  refine EWL.op rfl ?_
  refine s_mv ?_
  refine EWL.op rfl ?_
  refine s_lenR (kd := k_memo_Hop) (xs := a1) s40 rfl (Sl.rs ma1) ?_
  refine EWL.op rfl ?_
  refine s_cvt u3 n5 rfl ?_
  refine EWL.op rfl ?_
  refine s_bslK (kd := (kInt .u8)) (xs := ([(IntKind.u8.wrap (a1.length : Int))] : List Int)) 5501 I s32 t5 z5 rfl rfl (by decide) rfl (by decide) (And.intro rfl (trivial)) (Seg.flat (d := (kInt .u8)) (g := g0) (alls rfl alle)) rfl (zpv rfl) fun g3u v1u s4u I m2u => ?_
  refine EWL.op rfl ?_
  obtain ⟨r5u, h6u, hF0⟩ := bnd hF0
  refine s_cf I k33 rfl (octet_Out_One_ok (zle hZ rfl rfl) (.inl z0) I.l (Row.up rfl s4u no_ no_ ma0) (le_b rfl hka0) (.inl zka0) (Row.sl m2u) (Or.inr (Nat.le_of_ble_eq_true rfl)) (Ne.symm (ne_od hka0 rfl)) h6u) (at_in (.inl rfl)) fun g9u v7u s10u I p8u => ?_
  refine EWL.op rfl ?_
  refine s_as ?_
  refine EW.seq ?_
  refine EW.seq ?_
  refine EW.region (by kernel_rfl) ?_
  refine EWL.op rfl ?_
  refine s_mv ?_
  refine EWL.op rfl ?_
  refine s_lenR (kd := k_memo_Hop) (xs := a1) s40 rfl (Sl.rs (Sl.up rfl s10u (Ne.symm (ne_od hka0 rfl)) d_ka1uka0 (Sl.up rfl s4u no_ no_ ma1))) ?_
  refine EWL.op rfl ?_
  refine s_mv ?_
  refine EW.block ?_
  refine EW.loop (b := (memo_LayTrail_b1 a1)) (fun (s : ((List Int) × Int)) ρ w => ∃ (g15u : GW) (x17u : (List Int)) (v18u : Value) (v21u : Value) (x25u : Int), w = g15u.w ∧ Inv (or_ (at_ ka0) (iv 5500 5600)) (or_ Z (iv 5500 5600)) g0 g15u ∧ (x17u, x25u) = s ∧ ρ 0 = v18u ∧ Row 5 (kInt .u8) g15u ka0 x17u v18u ∧ ρ 13 = v21u ∧ Sl k_memo_Hop g15u ka1 a1 v21u ∧ ρ 14 = .int .i64 (a1.length : Int) ∧ ρ 15 = .int .i64 x25u) hF0 ⟨g9u, r5u, _, _, 0, rfl, I, rfl, rfl, p8u, rfl, (Sl.up rfl s10u (Ne.symm (ne_od hka0 rfl)) d_ka1uka0 (Sl.up rfl s4u no_ no_ ma1)), rfl, rfl⟩ ?_
  · rintro s_ o26u ρ w ⟨g15u, x17u, v18u, v21u, x25u, rfl, I, eo, hr16u, m19u, hr20u, m22u, hr23u, hr24u⟩ hF1 hr1
    subst eo
    unfold memo_LayTrail_b1 at hF1
    refine EW.re (up1 (up1 (up1 (up1 rfl hr16u) hr20u) hr23u) hr24u) ?_
    refine EW.seq ?_
    refine EW.region (by kernel_rfl) ?_
    refine EWL.op rfl ?_
    refine s_lss rfl rfl ?_
    refine EW.seq ?_
    refine EW.condS rfl rfl (fun hb27u => ?_) (fun hb27u => ?_)
    · replace hF1 := bif_t hb27u hF1
      refine EW.skip ?_
      refine EW.seq ?_
      refine EW.block ?_
      refine EW.seq ?_
      refine EW.region (by kernel_rfl) ?_
      refine EWL.op rfl ?_
      obtain ⟨x28u, h29u, hF1⟩ := bnd hF1
      refine s_idxS s40 t111 rfl m22u rfl h29u fun b30u o31u L32u hc33u ha34u => ?_
      refine EWL.op rfl ?_
      refine s_ldK t111 rfl (Imm.cells hc33u) ha34u rfl rfl fun cs35u m36u => ?_
      refine EWL.op rfl ?_
      refine s_newK k_memo_Hop 5502 I (zpv rfl) z111 rfl fun g42u b37u L41u s43u I hb38u hl40u ha39u => ?_
      refine EWL.opn rfl ?_
      have m44u : k_memo_Hop.M g42u 0 x28u _ := (Kd.upK rfl s43u no_ m36u)
      refine s_stK (kd := k_memo_Hop) I t111 rfl rfl m44u rfl hb38u (ble_ hl40u rfl) (by decide) nc0 (zpv rfl) fun g45u L47u s46u I hb48u hu49u hn50u => ?_
      have ha51u := hn50u
      have hl52u := hu49u.1.trans hl40u
      obtain ⟨r57u, h58u, hF1⟩ := bnd hF1
      obtain ⟨r67u, h68u, hF1⟩ := bnd hF1
      refine EW.drawn [] [⟨SF.row 0 5 (kInt .u8) rfl ka0 x17u, none, some 4⟩, ⟨SF.val 6 (.pointer (some ⟨b37u, 0, none⟩)), none, none⟩, ⟨SF.bx b37u 5502 111 k_memo_Hop rfl x28u, none, none⟩, ⟨SF.sl 13 k_memo_Hop rfl ka1 a1, none, none⟩, ⟨SF.val 14 (.int .i64 (a1.length : Int)), none, none⟩, ⟨SF.val 15 (.int .i64 x25u), none, none⟩, ⟨SF.row 19 5 (kInt .u8) rfl ka0 x17u, some 0, some 4⟩, ⟨SF.val 20 (.pointer (some ⟨b37u, 0 + 0, none⟩)), some 1, none⟩, ⟨SF.val 21 (.int .u32 x28u.channel), some 2, none⟩, ⟨SF.row 22 65 (kInt .u32) rfl 5503 ([x28u.channel] : List Int), some 3, none⟩, ⟨SF.row 23 5 (kInt .u8) rfl ka0 r57u, some 4, some 10⟩, ⟨SF.val 24 (.pointer (some ⟨b37u, 0 + 1, none⟩)), some 5, none⟩, ⟨SF.val 25 (.int .u64 x28u.amount), some 6, none⟩, ⟨SF.val 26 (.pointer (some ⟨b37u, 0 + 2, none⟩)), some 7, none⟩, ⟨SF.val 27 (.int .u64 x28u.id), some 8, none⟩, ⟨SF.row 28 23 (kInt .u64) rfl 5504 ([x28u.amount, x28u.id] : List Int), some 9, none⟩, ⟨SF.row 29 5 (kInt .u8) rfl ka0 r67u, some 10, none⟩, ⟨SF.row 0 5 (kInt .u8) rfl ka0 r67u, some 11, none⟩] [(4, at_ ka0), (10, at_ ka0)] (by kernel_rfl) (by kernel_rfl) (by kernel_rfl) ?_ I ?_ (dcons ?_ (dcons ?_ (dcons ?_ (dcons ?_ (dcons ?_ (dcons ?_ (dcons ?_ (dcons ?_ (dcons ?_ (dcons ?_ (dcons ?_ (dcons ?_ dnil)))))))))))) ?_
      · exact (And.intro (And.intro (Ne.symm (ne_od hka0 rfl)) (And.intro trivial (And.intro trivial (And.intro (And.intro (Ne.symm (ne_od hka0 rfl)) trivial) (And.intro (And.intro d_ka1uka0 trivial) (And.intro trivial (And.intro trivial (And.intro trivial (And.intro trivial (And.intro trivial (And.intro (And.intro (Ne.symm (ne_od hka0 rfl)) trivial) (And.intro trivial (And.intro trivial (And.intro trivial (And.intro trivial (And.intro trivial (And.intro (And.intro (Ne.symm (ne_od hka0 rfl)) trivial) (And.intro trivial (And.intro trivial trivial))))))))))))))))))) (And.intro (And.intro (Ne.symm (ne_od hka0 rfl)) (And.intro trivial (And.intro trivial (And.intro (And.intro (Ne.symm (ne_od hka0 rfl)) trivial) (And.intro (And.intro d_ka1uka0 trivial) (And.intro trivial (And.intro trivial (And.intro trivial (And.intro trivial (And.intro trivial (And.intro (And.intro (Ne.symm (ne_od hka0 rfl)) trivial) (And.intro trivial (And.intro trivial (And.intro trivial (And.intro trivial (And.intro trivial (And.intro (And.intro (Ne.symm (ne_od hka0 rfl)) trivial) (And.intro trivial (And.intro trivial trivial))))))))))))))))))) trivial))
      · exact (nwc (pf_row rfl rfl (Row.up rfl s46u (Nat.ne_of_beq_eq_false rfl) (ne_od hka0 rfl) (Row.up rfl s43u no_ no_ m19u))) (nwc (pf_val rfl) (nwc (pf_bx rfl hb48u hl52u ha51u) (nwc (pf_sl rfl rfl (Sl.up rfl s46u (Nat.ne_of_beq_eq_false rfl) (ne_ld hka1 rfl rfl) (Sl.up rfl s43u no_ no_ m22u))) (nwc (pf_val rfl) (nwc (pf_val rfl) nwn))))))
      · intro ρ g I av
        obtain ⟨v85u, hr83u, m84u⟩ := av 0 _ rfl (by kernel_rfl)
        refine ddo (up1 rfl hr83u) rfl ?_
        refine s_mv ?_
        exact ⟨_, rfl, (Stp.refl _ _), I, (nwc (pf_row rfl rfl m84u) nwn)⟩
      · intro ρ g I av
        have hr86u := av 1 _ rfl (by kernel_rfl)
        refine ddo (up1 rfl hr86u) rfl ?_
        refine s_fa f111u0 rfl ?_
        exact ⟨_, rfl, (Stp.refl _ _), I, (nwc (pf_val rfl) nwn)⟩
      · intro ρ g I av
        obtain ⟨L88u, hb89u, hl90u, ha91u⟩ := av 2 _ rfl (by kernel_rfl)
        have hr92u := av 7 _ rfl (by kernel_rfl)
        refine ddo (up1 rfl hr92u) rfl ?_
        refine s_ldS t65 rfl (Blk.cells hb89u) (At.fld ha91u 0 rfl) ?_
        exact ⟨_, rfl, (Stp.refl _ _), I, (nwc (pf_val rfl) nwn)⟩
      · intro ρ g I av
        have hr94u := av 8 _ rfl (by kernel_rfl)
        refine ddo (up1 rfl hr94u) rfl ?_
        refine s_bslK (kd := (kInt .u32)) (xs := ([x28u.channel] : List Int)) 5503 I s137 t65 z65 rfl rfl (by decide) rfl (by decide) (And.intro rfl (trivial)) (Seg.flat (d := (kInt .u32)) (g := g) (alls rfl alle)) rfl (zpv rfl) fun g98u v96u s99u I m97u => ?_
        exact ⟨_, rfl, s99u, I, (nwc (pf_row rfl rfl m97u) nwn)⟩
      · intro ρ g I av
        obtain ⟨v102u, hr100u, m101u⟩ := av 6 _ rfl (by kernel_rfl)
        obtain ⟨v105u, hr103u, m104u⟩ := av 9 _ rfl (by kernel_rfl)
        refine ddo (up1 (up1 rfl hr100u) hr103u) rfl ?_
        refine s_cf I k54 rfl (octet_Out_Four_ok (zle hZ rfl rfl) (.inl z0) I.l m101u (le_b rfl hka0) (.inl zka0) (Row.sl m104u) (Or.inr (Nat.le_of_ble_eq_true rfl)) (Ne.symm (ne_od hka0 rfl)) h58u) (at_in (.inl rfl)) fun g108u v106u s109u I p107u => ?_
        exact ⟨_, rfl, s109u, I, (nwc (pf_row rfl rfl p107u) nwn)⟩
      · intro ρ g I av
        have hr110u := av 1 _ rfl (by kernel_rfl)
        refine ddo (up1 rfl hr110u) rfl ?_
        refine s_fa f111u1 rfl ?_
        exact ⟨_, rfl, (Stp.refl _ _), I, (nwc (pf_val rfl) nwn)⟩
      · intro ρ g I av
        obtain ⟨L112u, hb113u, hl114u, ha115u⟩ := av 2 _ rfl (by kernel_rfl)
        have hr116u := av 11 _ rfl (by kernel_rfl)
        refine ddo (up1 rfl hr116u) rfl ?_
        refine s_ldS t23 rfl (Blk.cells hb113u) (At.fld ha115u 1 rfl) ?_
        exact ⟨_, rfl, (Stp.refl _ _), I, (nwc (pf_val rfl) nwn)⟩
      · intro ρ g I av
        have hr118u := av 1 _ rfl (by kernel_rfl)
        refine ddo (up1 rfl hr118u) rfl ?_
        refine s_fa f111u2 rfl ?_
        exact ⟨_, rfl, (Stp.refl _ _), I, (nwc (pf_val rfl) nwn)⟩
      · intro ρ g I av
        obtain ⟨L120u, hb121u, hl122u, ha123u⟩ := av 2 _ rfl (by kernel_rfl)
        have hr124u := av 13 _ rfl (by kernel_rfl)
        refine ddo (up1 rfl hr124u) rfl ?_
        refine s_ldS t23 rfl (Blk.cells hb121u) (At.fld ha123u 2 rfl) ?_
        exact ⟨_, rfl, (Stp.refl _ _), I, (nwc (pf_val rfl) nwn)⟩
      · intro ρ g I av
        have hr126u := av 12 _ rfl (by kernel_rfl)
        have hr128u := av 14 _ rfl (by kernel_rfl)
        refine ddo (up1 (up1 rfl hr126u) hr128u) rfl ?_
        refine s_bslK (kd := (kInt .u64)) (xs := ([x28u.amount, x28u.id] : List Int)) 5504 I s139 t23 z23 rfl rfl (by decide) rfl (by decide) (And.intro rfl (And.intro rfl (trivial))) (Seg.flat (d := (kInt .u64)) (g := g) (alls rfl (alls rfl alle))) rfl (zpv rfl) fun g132u v130u s133u I m131u => ?_
        exact ⟨_, rfl, s133u, I, (nwc (pf_row rfl rfl m131u) nwn)⟩
      · intro ρ g I av
        obtain ⟨v136u, hr134u, m135u⟩ := av 10 _ rfl (by kernel_rfl)
        obtain ⟨v139u, hr137u, m138u⟩ := av 15 _ rfl (by kernel_rfl)
        refine ddo (up1 (up1 rfl hr134u) hr137u) rfl ?_
        refine s_cf I k55 rfl (octet_Out_Eight_ok (zle hZ rfl rfl) (.inl z0) I.l m135u (le_b rfl hka0) (.inl zka0) (Row.sl m138u) (Or.inr (Nat.le_of_ble_eq_true rfl)) (Ne.symm (ne_od hka0 rfl)) h68u) (at_in (.inl rfl)) fun g142u v140u s143u I p141u => ?_
        exact ⟨_, rfl, s143u, I, (nwc (pf_row rfl rfl p141u) nwn)⟩
      · intro ρ g I av
        obtain ⟨v146u, hr144u, m145u⟩ := av 16 _ rfl (by kernel_rfl)
        refine ddo (up1 rfl hr144u) rfl ?_
        refine s_as ?_
        exact ⟨_, rfl, (Stp.refl _ _), I, (nwc (pf_row rfl rfl m145u) nwn)⟩
      · intro ρ g I av
        obtain ⟨v75u, hr73u, m74u⟩ := av 17 _ rfl rfl
        obtain ⟨v78u, hr76u, m77u⟩ := av 3 _ rfl rfl
        have hr79u := av 4 _ rfl rfl
        have hr81u := av 5 _ rfl rfl
        refine ⟨_, (up1 (up1 (up1 (up1 rfl hr73u) hr76u) hr79u) hr81u), ?_⟩
        refine EW.region (by kernel_rfl) ?_
        refine EWL.op rfl ?_
        refine s_add rfl rfl ?_
        refine EWL.op rfl ?_
        refine s_mv ?_
        exact ⟨_, (som hF1).symm, g, r67u, _, _, (IntKind.i64.wrap (x25u + 1)), rfl, I, rfl, rfl, m74u, rfl, m77u, rfl, rfl⟩
    · replace hF1 := bif_f hb27u hF1
      refine EW.exit ?_
      have hF0 := out_ hF1 hr1
      refine EW.seq ?_
      refine EW.region (by kernel_rfl) ?_
      refine EWL.op rfl ?_
      refine s_mv ?_
      refine EWL.op rfl ?_
      refine s_as ?_
      refine EW.ret ?_
      obtain rfl := som hF0
      refine ends1 (.inl rfl)  ?_
      exact ret_ (g := g15u) I lo hZ z0 rfl (Row.up rfl (Stp.rc g15u 5500 5600 0) fz (iv_o hka0) m19u)
theorem octet_Out_Sum_ok {g0 : GW} {Z : Nat → Prop} (hZ : ∀ c, Z c → c = 0 ∨ 5700 ≤ c) (z0 : Z 0) (lo : Lo Z g0)  {a0 : (List Int)} {va0 : Value} {ka0 : Nat} {a1 : (List (List Int))} {va1 : Value} {ka1 : Nat} (ma0 : Row 5 (kInt .u8) g0 ka0 a0 va0) (hka0 : 5700 ≤ ka0) (zka0 : Z ka0) (ma1 : Sl (kNums .u8 32) g0 ka1 a1 va1) (hka1 : ka1 = 0 ∨ 5700 ≤ ka1) (d_ka1uka0 : ka1 ≠ ka0) {r : (List Int)} (hF0 : octet_Out_Sum a0 a1 = some r) :
    Calls P 66 [va0, va1].toArray g0.w (Rets (RR (at_ ka0) Z g0 ((fun h v => Row 5 (kInt .u8) h ka0 r v)))) := by
  refine calls_of Go.Proofs.Try.func66 rfl (Nat.le_of_ble_eq_true rfl) (by kernel_rfl) ?_
  have I : Inv (or_ (at_ ka0) (iv 5600 5700)) (or_ Z (iv 5600 5700)) g0 g0 := Inv.start (lo.mono (fun _ h => .inl h))
  have fz : ¬ iv 5600 5700 0 := nz0 rfl
  unfold octet_Out_Sum at hF0
  refine EW.seq ?_
  refine EW.region (by kernel_rfl) ?_
  refine EWL.op rfl ?_
  refine s_as ?_
  refine EW.seq ?_
  refine EW.seq ?_
  refine EW.region (by kernel_rfl) ?_
  refine EWL.op rfl ?_
  refine s_mv ?_
  refine EWL.op rfl ?_
  refine s_lenR (kd := (kNums .u8 32)) (xs := a1) s71 rfl (Sl.rs ma1) ?_
  refine EWL.op rfl ?_
  refine s_mv ?_
  refine EW.block ?_
  refine EW.loop (b := (octet_Out_Sum_b1 a1)) (fun (s : ((List Int) × Int)) ρ w => ∃ (g5u : GW) (x7u : (List Int)) (v8u : Value) (v11u : Value) (x15u : Int), w = g5u.w ∧ Inv (or_ (at_ ka0) (iv 5600 5700)) (or_ Z (iv 5600 5700)) g0 g5u ∧ (x7u, x15u) = s ∧ ρ 0 = v8u ∧ Row 5 (kInt .u8) g5u ka0 x7u v8u ∧ ρ 7 = v11u ∧ Sl (kNums .u8 32) g5u ka1 a1 v11u ∧ ρ 8 = .int .i64 (a1.length : Int) ∧ ρ 9 = .int .i64 x15u) hF0 ⟨g0, a0, _, _, 0, rfl, I, rfl, rfl, ma0, rfl, ma1, rfl, rfl⟩ ?_
  · rintro s_ o16u ρ w ⟨g5u, x7u, v8u, v11u, x15u, rfl, I, eo, hr6u, m9u, hr10u, m12u, hr13u, hr14u⟩ hF1 hr1
    subst eo
    unfold octet_Out_Sum_b1 at hF1
    refine EW.re (up1 (up1 (up1 (up1 rfl hr6u) hr10u) hr13u) hr14u) ?_
    refine EW.seq ?_
    refine EW.region (by kernel_rfl) ?_
    refine EWL.op rfl ?_
    refine s_lss rfl rfl ?_
    refine EW.seq ?_
    refine EW.condS rfl rfl (fun hb17u => ?_) (fun hb17u => ?_)
    · replace hF1 := bif_t hb17u hF1
      refine EW.skip ?_
      refine EW.seq ?_
      refine EW.block ?_
      refine EW.seq ?_
      refine EW.region (by kernel_rfl) ?_
      refine EWL.op rfl ?_
      obtain ⟨x18u, h19u, hF1⟩ := bnd hF1
      refine s_idxS s71 t132 rfl m12u rfl h19u fun b20u o21u L22u hc23u ha24u => ?_
      refine EWL.op rfl ?_
      refine s_ldK t132 rfl (Imm.cells hc23u) ha24u rfl rfl fun cs25u m26u => ?_
      refine EWL.op rfl ?_
      refine s_newK (kNums .u8 32) 5601 I (zpv rfl) z132 rfl fun g32u b27u L31u s33u I hb28u hl30u ha29u => ?_
      refine EWL.opn rfl ?_
      have m34u : (kNums .u8 32).M g32u 0 x18u _ := (Kd.upK rfl s33u no_ m26u)
      refine s_stK (kd := (kNums .u8 32)) I t132 rfl rfl m34u rfl hb28u (ble_ hl30u rfl) (by decide) nc0 (zpv rfl) fun g35u L37u s36u I hb38u hu39u hn40u => ?_
      have ha41u := hn40u
      have hl42u := hu39u.1.trans hl30u
      refine EW.region (by kernel_rfl) ?_
      refine EWL.op rfl ?_
      refine s_mv ?_
      refine EWL.op rfl ?_
      refine s_slcX ar132 t5 rfl ?_
      refine EWL.op rfl ?_
      obtain ⟨l43u, h44u, hF1⟩ := bnd hF1
      refine s_app (kd := (kInt .u8)) I s104 rfl s32 t5 z5 rfl (Row.up rfl s36u (Nat.ne_of_beq_eq_false rfl) (ne_od hka0 rfl) (Row.up rfl s33u no_ no_ m9u)) (Sl.rs (Sl.arrN (Blk.imm hb38u) ha41u rfl)) h44u (ne_od hka0 rfl) (.inl zka0) (.inl rfl) fun g47u v45u s48u I m46u => ?_
      refine EWL.op rfl ?_
      refine s_as ?_
      refine EW.region (by kernel_rfl) ?_
      refine EWL.op rfl ?_
      refine s_add rfl rfl ?_
      refine EWL.op rfl ?_
      refine s_mv ?_
      exact ⟨_, (som hF1).symm, g47u, l43u, _, _, (IntKind.i64.wrap (x15u + 1)), rfl, I, rfl, rfl, m46u, rfl, (Sl.up rfl s48u (Ne.symm (ne_od hka0 rfl)) d_ka1uka0 (Sl.up rfl s36u (Nat.ne_of_beq_eq_false rfl) (ne_ld hka1 rfl rfl) (Sl.up rfl s33u no_ no_ m12u))), rfl, rfl⟩
    · replace hF1 := bif_f hb17u hF1
      refine EW.exit ?_
      have hF0 := out_ hF1 hr1
      refine EW.seq ?_
      refine EW.region (by kernel_rfl) ?_
      refine EWL.op rfl ?_
      refine s_mv ?_
      refine EWL.op rfl ?_
      refine s_as ?_
      refine EW.ret ?_
      obtain rfl := som hF0
      refine ends1 (.inl rfl)  ?_
      exact ret_ (g := g5u) I lo hZ z0 rfl (Row.up rfl (Stp.rc g5u 5600 5700 0) fz (iv_o hka0) m9u)
theorem deed_layCond_ok {g0 : GW} {Z : Nat → Prop} (hZ : ∀ c, Z c → c = 0 ∨ 5800 ≤ c) (z0 : Z 0) (lo : Lo Z g0)  {a0 : (List Int)} {va0 : Value} {ka0 : Nat} {a1 : api_Cond} {ca1 : List Value} (ma0 : Row 5 (kInt .u8) g0 ka0 a0 va0) (hka0 : 5800 ≤ ka0) (zka0 : Z ka0) (ma1 : k_api_Cond.M g0 0 a1 ca1) {r : (List Int)} (hF0 : deed_layCond a0 a1 = some r) :
    Calls P 56 [va0, .agg ca1.toArray].toArray g0.w (Rets (RR (at_ ka0) Z g0 ((fun h v => Row 5 (kInt .u8) h ka0 r v)))) := by
  refine calls_of Go.Proofs.Try.func56 rfl (Nat.le_of_ble_eq_true rfl) (by kernel_rfl) ?_
  have I : Inv (or_ (at_ ka0) (iv 5700 5800)) (or_ Z (iv 5700 5800)) g0 g0 := Inv.start (lo.mono (fun _ h => .inl h))
  have fz : ¬ iv 5700 5800 0 := nz0 rfl
  unfold deed_layCond at hF0
  refine EW.seq ?_
  refine EW.region (by kernel_rfl) ?_
  refine EWL.op rfl ?_
  refine s_boxK (kd := k_api_Cond) (r := a1) 5701 I (zpv rfl) ma1 rfl rfl fun g5u b1u s6u I hb2u hl4u ha3u => ?_
  refine EWL.op rfl ?_
  refine s_as ?_
  refine EW.seq ?_
  obtain ⟨r11u, h12u, hF0⟩ := bnd hF0
  obtain ⟨r21u, h22u, hF0⟩ := bnd hF0
  obtain ⟨r31u, h32u, hF0⟩ := bnd hF0
  obtain ⟨r43u, h44u, hF0⟩ := bnd hF0
  obtain ⟨r53u, h54u, hF0⟩ := bnd hF0
  refine EW.drawn [(21, 17, 4), (17, 13, 4), (13, 9, 4), (21, 17, 9), (17, 13, 9), (21, 17, 13)] [⟨SF.row 0 5 (kInt .u8) rfl ka0 a0, none, some 4⟩, ⟨SF.val 3 (.pointer (some ⟨b1u, 0, none⟩)), none, none⟩, ⟨SF.bx b1u 5701 37 k_api_Cond rfl a1, none, none⟩, ⟨SF.row 5 5 (kInt .u8) rfl ka0 a0, some 0, some 4⟩, ⟨SF.val 6 (.pointer (some ⟨b1u, 0 + 0, none⟩)), some 1, none⟩, ⟨SF.val 7 (.int .u64 a1.id), some 2, none⟩, ⟨SF.row 8 23 (kInt .u64) rfl 5702 ([a1.id] : List Int), some 3, none⟩, ⟨SF.row 9 5 (kInt .u8) rfl ka0 r11u, some 4, some 9⟩, ⟨SF.val 10 (.pointer (some ⟨b1u, 0 + 1, none⟩)), some 5, none⟩, ⟨SF.val 11 (.int .i64 a1.by_), some 6, none⟩, ⟨SF.val 12 (.int .u8 (IntKind.u8.wrap a1.by_)), some 7, none⟩, ⟨SF.row 13 5 (kInt .u8) rfl 5703 ([(IntKind.u8.wrap a1.by_)] : List Int), some 8, none⟩, ⟨SF.row 14 5 (kInt .u8) rfl ka0 r21u, some 9, some 13⟩, ⟨SF.val 15 (.pointer (some ⟨b1u, 0 + 2, none⟩)), some 10, none⟩, ⟨SF.val 16 (.int .u64 a1.amount), some 11, none⟩, ⟨SF.row 17 23 (kInt .u64) rfl 5704 ([a1.amount] : List Int), some 12, none⟩, ⟨SF.row 18 5 (kInt .u8) rfl ka0 r31u, some 13, some 17⟩, ⟨SF.val 19 (.pointer (some ⟨b1u, 0 + 3, none⟩)), some 14, none⟩, ⟨SF.agg 20 (kNums .u8 32) rfl a1.hash, some 15, none⟩, ⟨SF.row 21 132 (kNums .u8 32) rfl 5705 ([a1.hash] : List (List Int)), some 16, none⟩, ⟨SF.row 22 5 (kInt .u8) rfl ka0 r43u, some 17, some 21⟩, ⟨SF.val 23 (.pointer (some ⟨b1u, 0 + 35, none⟩)), some 18, none⟩, ⟨SF.val 24 (.int .u64 a1.expiry), some 19, none⟩, ⟨SF.row 25 23 (kInt .u64) rfl 5706 ([a1.expiry] : List Int), some 20, none⟩, ⟨SF.row 26 5 (kInt .u8) rfl ka0 r53u, some 21, none⟩, ⟨SF.row 4 5 (kInt .u8) rfl ka0 r53u, some 22, none⟩] [(4, at_ ka0), (9, at_ ka0), (13, at_ ka0), (17, at_ ka0), (21, at_ ka0)] (by kernel_rfl) (by kernel_rfl) (by kernel_rfl) ?_ I ?_ (dcons ?_ (dcons ?_ (dcons ?_ (dcons ?_ (dcons ?_ (dcons ?_ (dcons ?_ (dcons ?_ (dcons ?_ (dcons ?_ (dcons ?_ (dcons ?_ (dcons ?_ (dcons ?_ (dcons ?_ (dcons ?_ (dcons ?_ (dcons ?_ (dcons ?_ (dcons ?_ (dcons ?_ (dcons ?_ (dcons ?_ dnil))))))))))))))))))))))) ?_
  · exact (And.intro (And.intro (Ne.symm (ne_od hka0 rfl)) (And.intro trivial (And.intro trivial (And.intro (And.intro (Ne.symm (ne_od hka0 rfl)) trivial) (And.intro trivial (And.intro trivial (And.intro trivial (And.intro (And.intro (Ne.symm (ne_od hka0 rfl)) trivial) (And.intro trivial (And.intro trivial (And.intro trivial (And.intro trivial (And.intro (And.intro (Ne.symm (ne_od hka0 rfl)) trivial) (And.intro trivial (And.intro trivial (And.intro trivial (And.intro (And.intro (Ne.symm (ne_od hka0 rfl)) trivial) (And.intro trivial (And.intro trivial (And.intro trivial (And.intro (And.intro (Ne.symm (ne_od hka0 rfl)) trivial) (And.intro trivial (And.intro trivial (And.intro trivial (And.intro (And.intro (Ne.symm (ne_od hka0 rfl)) trivial) (And.intro trivial (And.intro trivial trivial))))))))))))))))))))))))))) (And.intro (And.intro (Ne.symm (ne_od hka0 rfl)) (And.intro trivial (And.intro trivial (And.intro (And.intro (Ne.symm (ne_od hka0 rfl)) trivial) (And.intro trivial (And.intro trivial (And.intro trivial (And.intro (And.intro (Ne.symm (ne_od hka0 rfl)) trivial) (And.intro trivial (And.intro trivial (And.intro trivial (And.intro trivial (And.intro (And.intro (Ne.symm (ne_od hka0 rfl)) trivial) (And.intro trivial (And.intro trivial (And.intro trivial (And.intro (And.intro (Ne.symm (ne_od hka0 rfl)) trivial) (And.intro trivial (And.intro trivial (And.intro trivial (And.intro (And.intro (Ne.symm (ne_od hka0 rfl)) trivial) (And.intro trivial (And.intro trivial (And.intro trivial (And.intro (And.intro (Ne.symm (ne_od hka0 rfl)) trivial) (And.intro trivial (And.intro trivial trivial))))))))))))))))))))))))))) (And.intro (And.intro (Ne.symm (ne_od hka0 rfl)) (And.intro trivial (And.intro trivial (And.intro (And.intro (Ne.symm (ne_od hka0 rfl)) trivial) (And.intro trivial (And.intro trivial (And.intro trivial (And.intro (And.intro (Ne.symm (ne_od hka0 rfl)) trivial) (And.intro trivial (And.intro trivial (And.intro trivial (And.intro trivial (And.intro (And.intro (Ne.symm (ne_od hka0 rfl)) trivial) (And.intro trivial (And.intro trivial (And.intro trivial (And.intro (And.intro (Ne.symm (ne_od hka0 rfl)) trivial) (And.intro trivial (And.intro trivial (And.intro trivial (And.intro (And.intro (Ne.symm (ne_od hka0 rfl)) trivial) (And.intro trivial (And.intro trivial (And.intro trivial (And.intro (And.intro (Ne.symm (ne_od hka0 rfl)) trivial) (And.intro trivial (And.intro trivial trivial))))))))))))))))))))))))))) (And.intro (And.intro (Ne.symm (ne_od hka0 rfl)) (And.intro trivial (And.intro trivial (And.intro (And.intro (Ne.symm (ne_od hka0 rfl)) trivial) (And.intro trivial (And.intro trivial (And.intro trivial (And.intro (And.intro (Ne.symm (ne_od hka0 rfl)) trivial) (And.intro trivial (And.intro trivial (And.intro trivial (And.intro trivial (And.intro (And.intro (Ne.symm (ne_od hka0 rfl)) trivial) (And.intro trivial (And.intro trivial (And.intro trivial (And.intro (And.intro (Ne.symm (ne_od hka0 rfl)) trivial) (And.intro trivial (And.intro trivial (And.intro trivial (And.intro (And.intro (Ne.symm (ne_od hka0 rfl)) trivial) (And.intro trivial (And.intro trivial (And.intro trivial (And.intro (And.intro (Ne.symm (ne_od hka0 rfl)) trivial) (And.intro trivial (And.intro trivial trivial))))))))))))))))))))))))))) (And.intro (And.intro (Ne.symm (ne_od hka0 rfl)) (And.intro trivial (And.intro trivial (And.intro (And.intro (Ne.symm (ne_od hka0 rfl)) trivial) (And.intro trivial (And.intro trivial (And.intro trivial (And.intro (And.intro (Ne.symm (ne_od hka0 rfl)) trivial) (And.intro trivial (And.intro trivial (And.intro trivial (And.intro trivial (And.intro (And.intro (Ne.symm (ne_od hka0 rfl)) trivial) (And.intro trivial (And.intro trivial (And.intro trivial (And.intro (And.intro (Ne.symm (ne_od hka0 rfl)) trivial) (And.intro trivial (And.intro trivial (And.intro trivial (And.intro (And.intro (Ne.symm (ne_od hka0 rfl)) trivial) (And.intro trivial (And.intro trivial (And.intro trivial (And.intro (And.intro (Ne.symm (ne_od hka0 rfl)) trivial) (And.intro trivial (And.intro trivial trivial))))))))))))))))))))))))))) trivial)))))
  · exact (nwc (pf_row rfl rfl (Row.up rfl s6u no_ no_ ma0)) (nwc (pf_val rfl) (nwc (pf_bx rfl hb2u hl4u ha3u) nwn)))
  · intro ρ g I av
    obtain ⟨v64u, hr62u, m63u⟩ := av 0 _ rfl (by kernel_rfl)
    refine ddo (up1 rfl hr62u) rfl ?_
    refine s_mv ?_
    exact ⟨_, rfl, (Stp.refl _ _), I, (nwc (pf_row rfl rfl m63u) nwn)⟩
  · intro ρ g I av
    have hr65u := av 1 _ rfl (by kernel_rfl)
    refine ddo (up1 rfl hr65u) rfl ?_
    refine s_fa f37u0 rfl ?_
    exact ⟨_, rfl, (Stp.refl _ _), I, (nwc (pf_val rfl) nwn)⟩
  · intro ρ g I av
    obtain ⟨L67u, hb68u, hl69u, ha70u⟩ := av 2 _ rfl (by kernel_rfl)
    have hr71u := av 4 _ rfl (by kernel_rfl)
    refine ddo (up1 rfl hr71u) rfl ?_
    refine s_ldS t23 rfl (Blk.cells hb68u) (At.fld ha70u 0 rfl) ?_
    exact ⟨_, rfl, (Stp.refl _ _), I, (nwc (pf_val rfl) nwn)⟩
  · intro ρ g I av
    have hr73u := av 5 _ rfl (by kernel_rfl)
    refine ddo (up1 rfl hr73u) rfl ?_
    refine s_bslK (kd := (kInt .u64)) (xs := ([a1.id] : List Int)) 5702 I s139 t23 z23 rfl rfl (by decide) rfl (by decide) (And.intro rfl (trivial)) (Seg.flat (d := (kInt .u64)) (g := g) (alls rfl alle)) rfl (zpv rfl) fun g77u v75u s78u I m76u => ?_
    exact ⟨_, rfl, s78u, I, (nwc (pf_row rfl rfl m76u) nwn)⟩
  · intro ρ g I av
    obtain ⟨v81u, hr79u, m80u⟩ := av 3 _ rfl (by kernel_rfl)
    obtain ⟨v84u, hr82u, m83u⟩ := av 6 _ rfl (by kernel_rfl)
    refine ddo (up1 (up1 rfl hr79u) hr82u) rfl ?_
    refine s_cf I k55 rfl (octet_Out_Eight_ok (zle hZ rfl rfl) (.inl z0) I.l m80u (le_b rfl hka0) (.inl zka0) (Row.sl m83u) (Or.inr (Nat.le_of_ble_eq_true rfl)) (Ne.symm (ne_od hka0 rfl)) h12u) (at_in (.inl rfl)) fun g87u v85u s88u I p86u => ?_
    exact ⟨_, rfl, s88u, I, (nwc (pf_row rfl rfl p86u) nwn)⟩
  · intro ρ g I av
    have hr89u := av 1 _ rfl (by kernel_rfl)
    refine ddo (up1 rfl hr89u) rfl ?_
    refine s_fa f37u1 rfl ?_
    exact ⟨_, rfl, (Stp.refl _ _), I, (nwc (pf_val rfl) nwn)⟩
  · intro ρ g I av
    obtain ⟨L91u, hb92u, hl93u, ha94u⟩ := av 2 _ rfl (by kernel_rfl)
    have hr95u := av 8 _ rfl (by kernel_rfl)
    refine ddo (up1 rfl hr95u) rfl ?_
    refine s_ldS t34 rfl (Blk.cells hb92u) (At.fld ha94u 1 rfl) ?_
    exact ⟨_, rfl, (Stp.refl _ _), I, (nwc (pf_val rfl) nwn)⟩
  · intro ρ g I av
    have hr97u := av 9 _ rfl (by kernel_rfl)
    refine ddo (up1 rfl hr97u) rfl ?_
    refine s_cvt u34 n5 rfl ?_
    exact ⟨_, rfl, (Stp.refl _ _), I, (nwc (pf_val rfl) nwn)⟩
  · intro ρ g I av
    have hr99u := av 10 _ rfl (by kernel_rfl)
    refine ddo (up1 rfl hr99u) rfl ?_
    refine s_bslK (kd := (kInt .u8)) (xs := ([(IntKind.u8.wrap a1.by_)] : List Int)) 5703 I s32 t5 z5 rfl rfl (by decide) rfl (by decide) (And.intro rfl (trivial)) (Seg.flat (d := (kInt .u8)) (g := g) (alls rfl alle)) rfl (zpv rfl) fun g103u v101u s104u I m102u => ?_
    exact ⟨_, rfl, s104u, I, (nwc (pf_row rfl rfl m102u) nwn)⟩
  · intro ρ g I av
    obtain ⟨v107u, hr105u, m106u⟩ := av 7 _ rfl (by kernel_rfl)
    obtain ⟨v110u, hr108u, m109u⟩ := av 11 _ rfl (by kernel_rfl)
    refine ddo (up1 (up1 rfl hr105u) hr108u) rfl ?_
    refine s_cf I k33 rfl (octet_Out_One_ok (zle hZ rfl rfl) (.inl z0) I.l m106u (le_b rfl hka0) (.inl zka0) (Row.sl m109u) (Or.inr (Nat.le_of_ble_eq_true rfl)) (Ne.symm (ne_od hka0 rfl)) h22u) (at_in (.inl rfl)) fun g113u v111u s114u I p112u => ?_
    exact ⟨_, rfl, s114u, I, (nwc (pf_row rfl rfl p112u) nwn)⟩
  · intro ρ g I av
    have hr115u := av 1 _ rfl (by kernel_rfl)
    refine ddo (up1 rfl hr115u) rfl ?_
    refine s_fa f37u2 rfl ?_
    exact ⟨_, rfl, (Stp.refl _ _), I, (nwc (pf_val rfl) nwn)⟩
  · intro ρ g I av
    obtain ⟨L117u, hb118u, hl119u, ha120u⟩ := av 2 _ rfl (by kernel_rfl)
    have hr121u := av 13 _ rfl (by kernel_rfl)
    refine ddo (up1 rfl hr121u) rfl ?_
    refine s_ldS t23 rfl (Blk.cells hb118u) (At.fld ha120u 2 rfl) ?_
    exact ⟨_, rfl, (Stp.refl _ _), I, (nwc (pf_val rfl) nwn)⟩
  · intro ρ g I av
    have hr123u := av 14 _ rfl (by kernel_rfl)
    refine ddo (up1 rfl hr123u) rfl ?_
    refine s_bslK (kd := (kInt .u64)) (xs := ([a1.amount] : List Int)) 5704 I s139 t23 z23 rfl rfl (by decide) rfl (by decide) (And.intro rfl (trivial)) (Seg.flat (d := (kInt .u64)) (g := g) (alls rfl alle)) rfl (zpv rfl) fun g127u v125u s128u I m126u => ?_
    exact ⟨_, rfl, s128u, I, (nwc (pf_row rfl rfl m126u) nwn)⟩
  · intro ρ g I av
    obtain ⟨v131u, hr129u, m130u⟩ := av 12 _ rfl (by kernel_rfl)
    obtain ⟨v134u, hr132u, m133u⟩ := av 15 _ rfl (by kernel_rfl)
    refine ddo (up1 (up1 rfl hr129u) hr132u) rfl ?_
    refine s_cf I k55 rfl (octet_Out_Eight_ok (zle hZ rfl rfl) (.inl z0) I.l m130u (le_b rfl hka0) (.inl zka0) (Row.sl m133u) (Or.inr (Nat.le_of_ble_eq_true rfl)) (Ne.symm (ne_od hka0 rfl)) h32u) (at_in (.inl rfl)) fun g137u v135u s138u I p136u => ?_
    exact ⟨_, rfl, s138u, I, (nwc (pf_row rfl rfl p136u) nwn)⟩
  · intro ρ g I av
    have hr139u := av 1 _ rfl (by kernel_rfl)
    refine ddo (up1 rfl hr139u) rfl ?_
    refine s_fa f37u3 rfl ?_
    exact ⟨_, rfl, (Stp.refl _ _), I, (nwc (pf_val rfl) nwn)⟩
  · intro ρ g I av
    obtain ⟨L141u, hb142u, hl143u, ha144u⟩ := av 2 _ rfl (by kernel_rfl)
    have hr145u := av 17 _ rfl (by kernel_rfl)
    refine ddo (up1 rfl hr145u) rfl ?_
    refine s_ldK t35 rfl (Blk.cells hb142u) (At.fld ha144u 3 rfl) rfl rfl fun cs147u m148u => ?_
    exact ⟨_, rfl, (Stp.refl _ _), I, (nwc (pf_agg rfl rfl m148u) nwn)⟩
  · intro ρ g I av
    obtain ⟨_, hr149u, m150u⟩ := av 18 _ rfl (by kernel_rfl)
    refine ddo (up1 rfl hr149u) rfl ?_
    refine s_bslK (kd := (kNums .u8 32)) (xs := ([a1.hash] : List (List Int))) 5705 I s71 t132 z132 rfl rfl (by decide) rfl (by decide) (And.intro (congrArg some (kl (d := (kNums .u8 32)) m150u).symm) (trivial)) (Seg.flat (d := (kNums .u8 32)) (g := g) (alls m150u alle)) rfl (zpv rfl) fun g153u v151u s154u I m152u => ?_
    exact ⟨_, rfl, s154u, I, (nwc (pf_row rfl rfl m152u) nwn)⟩
  · intro ρ g I av
    obtain ⟨v157u, hr155u, m156u⟩ := av 16 _ rfl (by kernel_rfl)
    obtain ⟨v160u, hr158u, m159u⟩ := av 19 _ rfl (by kernel_rfl)
    refine ddo (up1 (up1 rfl hr155u) hr158u) rfl ?_
    refine s_cf I k66 rfl (octet_Out_Sum_ok (zle hZ rfl rfl) (.inl z0) I.l m156u (le_b rfl hka0) (.inl zka0) (Row.sl m159u) (Or.inr (Nat.le_of_ble_eq_true rfl)) (Ne.symm (ne_od hka0 rfl)) h44u) (at_in (.inl rfl)) fun g163u v161u s164u I p162u => ?_
    exact ⟨_, rfl, s164u, I, (nwc (pf_row rfl rfl p162u) nwn)⟩
  · intro ρ g I av
    have hr165u := av 1 _ rfl (by kernel_rfl)
    refine ddo (up1 rfl hr165u) rfl ?_
    refine s_fa f37u4 rfl ?_
    exact ⟨_, rfl, (Stp.refl _ _), I, (nwc (pf_val rfl) nwn)⟩
  · intro ρ g I av
    obtain ⟨L167u, hb168u, hl169u, ha170u⟩ := av 2 _ rfl (by kernel_rfl)
    have hr171u := av 21 _ rfl (by kernel_rfl)
    refine ddo (up1 rfl hr171u) rfl ?_
    refine s_ldS t23 rfl (Blk.cells hb168u) (At.fld ha170u 4 rfl) ?_
    exact ⟨_, rfl, (Stp.refl _ _), I, (nwc (pf_val rfl) nwn)⟩
  · intro ρ g I av
    have hr173u := av 22 _ rfl (by kernel_rfl)
    refine ddo (up1 rfl hr173u) rfl ?_
    refine s_bslK (kd := (kInt .u64)) (xs := ([a1.expiry] : List Int)) 5706 I s139 t23 z23 rfl rfl (by decide) rfl (by decide) (And.intro rfl (trivial)) (Seg.flat (d := (kInt .u64)) (g := g) (alls rfl alle)) rfl (zpv rfl) fun g177u v175u s178u I m176u => ?_
    exact ⟨_, rfl, s178u, I, (nwc (pf_row rfl rfl m176u) nwn)⟩
  · intro ρ g I av
    obtain ⟨v181u, hr179u, m180u⟩ := av 20 _ rfl (by kernel_rfl)
    obtain ⟨v184u, hr182u, m183u⟩ := av 23 _ rfl (by kernel_rfl)
    refine ddo (up1 (up1 rfl hr179u) hr182u) rfl ?_
    refine s_cf I k55 rfl (octet_Out_Eight_ok (zle hZ rfl rfl) (.inl z0) I.l m180u (le_b rfl hka0) (.inl zka0) (Row.sl m183u) (Or.inr (Nat.le_of_ble_eq_true rfl)) (Ne.symm (ne_od hka0 rfl)) h54u) (at_in (.inl rfl)) fun g187u v185u s188u I p186u => ?_
    exact ⟨_, rfl, s188u, I, (nwc (pf_row rfl rfl p186u) nwn)⟩
  · intro ρ g I av
    obtain ⟨v191u, hr189u, m190u⟩ := av 24 _ rfl (by kernel_rfl)
    refine ddo (up1 rfl hr189u) rfl ?_
    refine s_as ?_
    exact ⟨_, rfl, (Stp.refl _ _), I, (nwc (pf_row rfl rfl m190u) nwn)⟩
  · intro ρ g I av
    obtain ⟨v61u, hr59u, m60u⟩ := av 25 _ rfl rfl
    refine ⟨_, (up1 rfl hr59u), ?_⟩
    refine EW.ret ?_
    obtain rfl := som hF0
    refine ends1 (.inl rfl)  ?_
    exact ret_ (g := g) I lo hZ z0 rfl (Row.up rfl (Stp.rc g 5700 5800 0) fz (iv_o hka0) m60u)
theorem deed_LayOp_ok {g0 : GW} {Z : Nat → Prop} (hZ : ∀ c, Z c → c = 0 ∨ 5900 ≤ c) (z0 : Z 0) (lo : Lo Z g0)  {a0 : (List Int)} {va0 : Value} {ka0 : Nat} {a1 : pact_Op} {ca1 : List Value} (ma0 : Row 5 (kInt .u8) g0 ka0 a0 va0) (hka0 : 5900 ≤ ka0) (zka0 : Z ka0) (ma1 : k_pact_Op.M g0 0 a1 ca1) {r : (List Int)} (hF0 : deed_LayOp a0 a1 = some r) :
    Calls P 35 [va0, .agg ca1.toArray].toArray g0.w (Rets (RR (at_ ka0) Z g0 ((fun h v => Row 5 (kInt .u8) h ka0 r v)))) := by
  refine calls_of Go.Proofs.Try.func35 rfl (Nat.le_of_ble_eq_true rfl) (by kernel_rfl) ?_
  have I : Inv (or_ (at_ ka0) (iv 5800 5900)) (or_ Z (iv 5800 5900)) g0 g0 := Inv.start (lo.mono (fun _ h => .inl h))
  have fz : ¬ iv 5800 5900 0 := nz0 rfl
  unfold deed_LayOp at hF0
  refine EW.seq ?_
  refine EW.region (by kernel_rfl) ?_
  refine EWL.op rfl ?_
  refine s_boxK (kd := k_pact_Op) (r := a1) 5801 I (zpv rfl) ma1 rfl rfl fun g5u b1u s6u I hb2u hl4u ha3u => ?_
  refine EWL.op rfl ?_
  refine s_as ?_
  refine EW.seq ?_
  obtain ⟨r11u, h12u, hF0⟩ := bnd hF0
  obtain ⟨r21u, h22u, hF0⟩ := bnd hF0
  obtain ⟨r29u, h30u, hF0⟩ := bnd hF0
  refine EW.drawn [(14, 11, 5)] [⟨SF.row 0 5 (kInt .u8) rfl ka0 a0, none, some 5⟩, ⟨SF.val 3 (.pointer (some ⟨b1u, 0, none⟩)), none, none⟩, ⟨SF.bx b1u 5801 39 k_pact_Op rfl a1, none, none⟩, ⟨SF.row 5 5 (kInt .u8) rfl ka0 a0, some 0, some 5⟩, ⟨SF.val 6 (.pointer (some ⟨b1u, 0 + 0, none⟩)), some 1, none⟩, ⟨SF.val 7 (.int .i64 a1.kind), some 2, none⟩, ⟨SF.val 8 (.int .u8 (IntKind.u8.wrap a1.kind)), some 3, none⟩, ⟨SF.row 9 5 (kInt .u8) rfl 5802 ([(IntKind.u8.wrap a1.kind)] : List Int), some 4, none⟩, ⟨SF.row 10 5 (kInt .u8) rfl ka0 r11u, some 5, some 11⟩, ⟨SF.val 11 (.pointer (some ⟨b1u, 0 + 1, none⟩)), some 6, none⟩, ⟨SF.val 12 (.int .u64 a1.amount), some 7, none⟩, ⟨SF.val 13 (.pointer (some ⟨b1u, 0 + 38, none⟩)), some 8, none⟩, ⟨SF.val 14 (.int .u64 a1.id), some 9, none⟩, ⟨SF.row 15 23 (kInt .u64) rfl 5803 ([a1.amount, a1.id] : List Int), some 10, none⟩, ⟨SF.row 16 5 (kInt .u8) rfl ka0 r21u, some 11, some 14⟩, ⟨SF.val 17 (.pointer (some ⟨b1u, 0 + 2, none⟩)), some 12, none⟩, ⟨SF.agg 18 k_api_Cond rfl a1.cond, some 13, none⟩, ⟨SF.row 19 5 (kInt .u8) rfl ka0 r29u, some 14, none⟩, ⟨SF.row 4 5 (kInt .u8) rfl ka0 r29u, some 15, none⟩] [(5, at_ ka0), (11, at_ ka0), (14, at_ ka0)] (by kernel_rfl) (by kernel_rfl) (by kernel_rfl) ?_ I ?_ (dcons ?_ (dcons ?_ (dcons ?_ (dcons ?_ (dcons ?_ (dcons ?_ (dcons ?_ (dcons ?_ (dcons ?_ (dcons ?_ (dcons ?_ (dcons ?_ (dcons ?_ (dcons ?_ (dcons ?_ (dcons ?_ dnil)))))))))))))))) ?_
  · exact (And.intro (And.intro (Ne.symm (ne_od hka0 rfl)) (And.intro trivial (And.intro trivial (And.intro (And.intro (Ne.symm (ne_od hka0 rfl)) trivial) (And.intro trivial (And.intro trivial (And.intro trivial (And.intro trivial (And.intro (And.intro (Ne.symm (ne_od hka0 rfl)) trivial) (And.intro trivial (And.intro trivial (And.intro trivial (And.intro trivial (And.intro trivial (And.intro (And.intro (Ne.symm (ne_od hka0 rfl)) trivial) (And.intro trivial (And.intro trivial (And.intro trivial (And.intro trivial (And.intro trivial trivial)))))))))))))))))))) (And.intro (And.intro (Ne.symm (ne_od hka0 rfl)) (And.intro trivial (And.intro trivial (And.intro (And.intro (Ne.symm (ne_od hka0 rfl)) trivial) (And.intro trivial (And.intro trivial (And.intro trivial (And.intro trivial (And.intro (And.intro (Ne.symm (ne_od hka0 rfl)) trivial) (And.intro trivial (And.intro trivial (And.intro trivial (And.intro trivial (And.intro trivial (And.intro (And.intro (Ne.symm (ne_od hka0 rfl)) trivial) (And.intro trivial (And.intro trivial (And.intro trivial (And.intro trivial (And.intro trivial trivial)))))))))))))))))))) (And.intro (And.intro (Ne.symm (ne_od hka0 rfl)) (And.intro trivial (And.intro trivial (And.intro (And.intro (Ne.symm (ne_od hka0 rfl)) trivial) (And.intro trivial (And.intro trivial (And.intro trivial (And.intro trivial (And.intro (And.intro (Ne.symm (ne_od hka0 rfl)) trivial) (And.intro trivial (And.intro trivial (And.intro trivial (And.intro trivial (And.intro trivial (And.intro (And.intro (Ne.symm (ne_od hka0 rfl)) trivial) (And.intro trivial (And.intro trivial (And.intro trivial (And.intro trivial (And.intro trivial trivial)))))))))))))))))))) trivial)))
  · exact (nwc (pf_row rfl rfl (Row.up rfl s6u no_ no_ ma0)) (nwc (pf_val rfl) (nwc (pf_bx rfl hb2u hl4u ha3u) nwn)))
  · intro ρ g I av
    obtain ⟨v40u, hr38u, m39u⟩ := av 0 _ rfl (by kernel_rfl)
    refine ddo (up1 rfl hr38u) rfl ?_
    refine s_mv ?_
    exact ⟨_, rfl, (Stp.refl _ _), I, (nwc (pf_row rfl rfl m39u) nwn)⟩
  · intro ρ g I av
    have hr41u := av 1 _ rfl (by kernel_rfl)
    refine ddo (up1 rfl hr41u) rfl ?_
    refine s_fa f39u0 rfl ?_
    exact ⟨_, rfl, (Stp.refl _ _), I, (nwc (pf_val rfl) nwn)⟩
  · intro ρ g I av
    obtain ⟨L43u, hb44u, hl45u, ha46u⟩ := av 2 _ rfl (by kernel_rfl)
    have hr47u := av 4 _ rfl (by kernel_rfl)
    refine ddo (up1 rfl hr47u) rfl ?_
    refine s_ldS t3 rfl (Blk.cells hb44u) (At.fld ha46u 0 rfl) ?_
    exact ⟨_, rfl, (Stp.refl _ _), I, (nwc (pf_val rfl) nwn)⟩
  · intro ρ g I av
    have hr49u := av 5 _ rfl (by kernel_rfl)
    refine ddo (up1 rfl hr49u) rfl ?_
    refine s_cvt u3 n5 rfl ?_
    exact ⟨_, rfl, (Stp.refl _ _), I, (nwc (pf_val rfl) nwn)⟩
  · intro ρ g I av
    have hr51u := av 6 _ rfl (by kernel_rfl)
    refine ddo (up1 rfl hr51u) rfl ?_
    refine s_bslK (kd := (kInt .u8)) (xs := ([(IntKind.u8.wrap a1.kind)] : List Int)) 5802 I s32 t5 z5 rfl rfl (by decide) rfl (by decide) (And.intro rfl (trivial)) (Seg.flat (d := (kInt .u8)) (g := g) (alls rfl alle)) rfl (zpv rfl) fun g55u v53u s56u I m54u => ?_
    exact ⟨_, rfl, s56u, I, (nwc (pf_row rfl rfl m54u) nwn)⟩
  · intro ρ g I av
    obtain ⟨v59u, hr57u, m58u⟩ := av 3 _ rfl (by kernel_rfl)
    obtain ⟨v62u, hr60u, m61u⟩ := av 7 _ rfl (by kernel_rfl)
    refine ddo (up1 (up1 rfl hr57u) hr60u) rfl ?_
    refine s_cf I k33 rfl (octet_Out_One_ok (zle hZ rfl rfl) (.inl z0) I.l m58u (le_b rfl hka0) (.inl zka0) (Row.sl m61u) (Or.inr (Nat.le_of_ble_eq_true rfl)) (Ne.symm (ne_od hka0 rfl)) h12u) (at_in (.inl rfl)) fun g65u v63u s66u I p64u => ?_
    exact ⟨_, rfl, s66u, I, (nwc (pf_row rfl rfl p64u) nwn)⟩
  · intro ρ g I av
    have hr67u := av 1 _ rfl (by kernel_rfl)
    refine ddo (up1 rfl hr67u) rfl ?_
    refine s_fa f39u1 rfl ?_
    exact ⟨_, rfl, (Stp.refl _ _), I, (nwc (pf_val rfl) nwn)⟩
  · intro ρ g I av
    obtain ⟨L69u, hb70u, hl71u, ha72u⟩ := av 2 _ rfl (by kernel_rfl)
    have hr73u := av 9 _ rfl (by kernel_rfl)
    refine ddo (up1 rfl hr73u) rfl ?_
    refine s_ldS t23 rfl (Blk.cells hb70u) (At.fld ha72u 1 rfl) ?_
    exact ⟨_, rfl, (Stp.refl _ _), I, (nwc (pf_val rfl) nwn)⟩
  · intro ρ g I av
    have hr75u := av 1 _ rfl (by kernel_rfl)
    refine ddo (up1 rfl hr75u) rfl ?_
    refine s_fa f39u3 rfl ?_
    exact ⟨_, rfl, (Stp.refl _ _), I, (nwc (pf_val rfl) nwn)⟩
  · intro ρ g I av
    obtain ⟨L77u, hb78u, hl79u, ha80u⟩ := av 2 _ rfl (by kernel_rfl)
    have hr81u := av 11 _ rfl (by kernel_rfl)
    refine ddo (up1 rfl hr81u) rfl ?_
    refine s_ldS t23 rfl (Blk.cells hb78u) (At.fld ha80u 3 rfl) ?_
    exact ⟨_, rfl, (Stp.refl _ _), I, (nwc (pf_val rfl) nwn)⟩
  · intro ρ g I av
    have hr83u := av 10 _ rfl (by kernel_rfl)
    have hr85u := av 12 _ rfl (by kernel_rfl)
    refine ddo (up1 (up1 rfl hr83u) hr85u) rfl ?_
    refine s_bslK (kd := (kInt .u64)) (xs := ([a1.amount, a1.id] : List Int)) 5803 I s139 t23 z23 rfl rfl (by decide) rfl (by decide) (And.intro rfl (And.intro rfl (trivial))) (Seg.flat (d := (kInt .u64)) (g := g) (alls rfl (alls rfl alle))) rfl (zpv rfl) fun g89u v87u s90u I m88u => ?_
    exact ⟨_, rfl, s90u, I, (nwc (pf_row rfl rfl m88u) nwn)⟩
  · intro ρ g I av
    obtain ⟨v93u, hr91u, m92u⟩ := av 8 _ rfl (by kernel_rfl)
    obtain ⟨v96u, hr94u, m95u⟩ := av 13 _ rfl (by kernel_rfl)
    refine ddo (up1 (up1 rfl hr91u) hr94u) rfl ?_
    refine s_cf I k55 rfl (octet_Out_Eight_ok (zle hZ rfl rfl) (.inl z0) I.l m92u (le_b rfl hka0) (.inl zka0) (Row.sl m95u) (Or.inr (Nat.le_of_ble_eq_true rfl)) (Ne.symm (ne_od hka0 rfl)) h22u) (at_in (.inl rfl)) fun g99u v97u s100u I p98u => ?_
    exact ⟨_, rfl, s100u, I, (nwc (pf_row rfl rfl p98u) nwn)⟩
  · intro ρ g I av
    have hr101u := av 1 _ rfl (by kernel_rfl)
    refine ddo (up1 rfl hr101u) rfl ?_
    refine s_fa f39u2 rfl ?_
    exact ⟨_, rfl, (Stp.refl _ _), I, (nwc (pf_val rfl) nwn)⟩
  · intro ρ g I av
    obtain ⟨L103u, hb104u, hl105u, ha106u⟩ := av 2 _ rfl (by kernel_rfl)
    have hr107u := av 15 _ rfl (by kernel_rfl)
    refine ddo (up1 rfl hr107u) rfl ?_
    refine s_ldK t37 rfl (Blk.cells hb104u) (At.fld ha106u 2 rfl) rfl rfl fun cs109u m110u => ?_
    exact ⟨_, rfl, (Stp.refl _ _), I, (nwc (pf_agg rfl rfl m110u) nwn)⟩
  · intro ρ g I av
    obtain ⟨v113u, hr111u, m112u⟩ := av 14 _ rfl (by kernel_rfl)
    obtain ⟨_, hr114u, m115u⟩ := av 16 _ rfl (by kernel_rfl)
    refine ddo (up1 (up1 rfl hr111u) hr114u) rfl ?_
    refine s_cf I k56 rfl (deed_layCond_ok (zle hZ rfl rfl) (.inl z0) I.l m112u (le_b rfl hka0) (.inl zka0) m115u h30u) (at_in (.inl rfl)) fun g118u v116u s119u I p117u => ?_
    exact ⟨_, rfl, s119u, I, (nwc (pf_row rfl rfl p117u) nwn)⟩
  · intro ρ g I av
    obtain ⟨v122u, hr120u, m121u⟩ := av 17 _ rfl (by kernel_rfl)
    refine ddo (up1 rfl hr120u) rfl ?_
    refine s_as ?_
    exact ⟨_, rfl, (Stp.refl _ _), I, (nwc (pf_row rfl rfl m121u) nwn)⟩
  · intro ρ g I av
    obtain ⟨v37u, hr35u, m36u⟩ := av 18 _ rfl rfl
    refine ⟨_, (up1 rfl hr35u), ?_⟩
    refine EW.ret ?_
    obtain rfl := som hF0
    refine ends1 (.inl rfl)  ?_
    exact ret_ (g := g) I lo hZ z0 rfl (Row.up rfl (Stp.rc g 5800 5900 0) fz (iv_o hka0) m36u)
theorem clerk_Save_ok {g0 : GW} {Z : Nat → Prop} (hZ : ∀ c, Z c → c = 0 ∨ 6000 ≤ c) (z0 : Z 0) (lo : Lo Z g0) (rc0 : Nat) (zrc0 : Z rc0) {a0 : (List clerk_Wish)} {va0 : Value} {ka0 : Nat} (ma0 : Sl k_clerk_Wish g0 ka0 a0 va0) (hka0 : ka0 = 0 ∨ 6000 ≤ ka0) {r : (List Int)} (hF0 : clerk_Save a0 = some r) :
    Calls P 12 [va0].toArray g0.w (Rets (RR (no) Z g0 ((fun h v => Row 5 (kInt .u8) h rc0 r v)))) := by
  refine calls_of Go.Proofs.Try.func12 rfl (Nat.le_of_ble_eq_true rfl) (by kernel_rfl) ?_
  have I : Inv (or_ (no) (iv 5900 6000)) (or_ Z (iv 5900 6000)) g0 g0 := Inv.start (lo.mono (fun _ h => .inl h))
  have fz : ¬ iv 5900 6000 0 := nz0 rfl
  unfold clerk_Save at hF0
  refine EW.seq ?_
  refine EW.region (by kernel_rfl) ?_
  refine EWL.op rfl ?_
  refine s_as ?_
  refine EW.seq ?_
  refine EW.region (by kernel_rfl) ?_
  refine EWL.op rfl ?_
  refine s_mv ?_
  refine EWL.op rfl ?_
  refine s_mv ?_
  refine EWL.op rfl ?_
  refine s_lenR (kd := k_clerk_Wish) (xs := a0) s43 rfl (Sl.rs ma0) ?_
  refine EWL.op rfl ?_
  refine s_min rfl rfl ?_
  refine EWL.op rfl ?_
  obtain ⟨l1u, h2u, hF0⟩ := bnd hF0
  refine s_slcH s43 t42 rfl ma0 rfl h2u fun v3u m4u => ?_
  refine EWL.op rfl ?_
  refine s_as ?_
  refine EW.seq ?_
  refine EW.region (by kernel_rfl) ?_
  refine EWL.op rfl ?_
  refine s_bslK (kd := (kInt .u8)) (xs := ([] : List Int)) 5901 I s104 t5 z5 rfl rfl (by decide) rfl (by decide) (trivial) (Seg.flat (d := (kInt .u8)) (g := g0) alle) rfl (zpv rfl) fun g7u v5u s8u I m6u => ?_
  refine EWL.op rfl ?_
  refine s_mv ?_
  refine EWL.op rfl ?_
  refine s_lenR (kd := k_clerk_Wish) (xs := l1u) s43 rfl (Sl.rs (Sl.up rfl s8u no_ no_ m4u)) ?_
  refine EWL.op rfl ?_
  refine s_cvt u3 n5 rfl ?_
  refine EWL.op rfl ?_
  refine s_bslK (kd := (kInt .u8)) (xs := ([(IntKind.u8.wrap (l1u.length : Int))] : List Int)) 5902 I s32 t5 z5 rfl rfl (by decide) rfl (by decide) (And.intro rfl (trivial)) (Seg.flat (d := (kInt .u8)) (g := g7u) (alls rfl alle)) rfl (zpv rfl) fun g11u v9u s12u I m10u => ?_
  refine EWL.op rfl ?_
  obtain ⟨r13u, h14u, hF0⟩ := bnd hF0
  refine s_cf I k33 rfl (octet_Out_One_ok (zle hZ rfl rfl) (.inl z0) I.l (Row.up rfl s12u no_ no_ m6u) (Nat.le_of_ble_eq_true rfl) (zpv rfl) (Row.sl m10u) (Or.inr (Nat.le_of_ble_eq_true rfl)) (Nat.ne_of_beq_eq_false rfl) h14u) (at_in (zpv rfl)) fun g17u v15u s18u I p16u => ?_
  refine EWL.op rfl ?_
  refine s_as ?_
  refine EW.seq ?_
  refine EW.seq ?_
  refine EW.region (by kernel_rfl) ?_
  refine EWL.op rfl ?_
  refine s_mv ?_
  refine EWL.op rfl ?_
  refine s_lenR (kd := k_clerk_Wish) (xs := l1u) s43 rfl (Sl.rs (Sl.up rfl s18u (Nat.ne_of_beq_eq_false rfl) (ne_ld hka0 rfl rfl) (Sl.up rfl s12u no_ no_ (Sl.up rfl s8u no_ no_ m4u)))) ?_
  refine EWL.op rfl ?_
  refine s_mv ?_
  refine EW.block ?_
  refine EW.loop (b := (clerk_Save_b1 l1u)) (fun (s : ((List Int) × Int)) ρ w => ∃ (g23u : GW) (x25u : (List Int)) (v26u : Value) (v29u : Value) (x33u : Int), w = g23u.w ∧ Inv (or_ (no) (iv 5900 6000)) (or_ Z (iv 5900 6000)) g0 g23u ∧ (x25u, x33u) = s ∧ ρ 3 = v26u ∧ Row 5 (kInt .u8) g23u 5901 x25u v26u ∧ ρ 17 = v29u ∧ Sl k_clerk_Wish g23u ka0 l1u v29u ∧ ρ 18 = .int .i64 (l1u.length : Int) ∧ ρ 19 = .int .i64 x33u) hF0 ⟨g17u, r13u, _, _, 0, rfl, I, rfl, rfl, p16u, rfl, (Sl.up rfl s18u (Nat.ne_of_beq_eq_false rfl) (ne_ld hka0 rfl rfl) (Sl.up rfl s12u no_ no_ (Sl.up rfl s8u no_ no_ m4u))), rfl, rfl⟩ ?_
  · rintro s_ o34u ρ w ⟨g23u, x25u, v26u, v29u, x33u, rfl, I, eo, hr24u, m27u, hr28u, m30u, hr31u, hr32u⟩ hF1 hr1
    subst eo
    unfold clerk_Save_b1 at hF1
    refine EW.re (up1 (up1 (up1 (up1 rfl hr24u) hr28u) hr31u) hr32u) ?_
    refine EW.seq ?_
    refine EW.region (by kernel_rfl) ?_
    refine EWL.op rfl ?_
    refine s_lss rfl rfl ?_
    refine EW.seq ?_
    refine EW.condS rfl rfl (fun hb35u => ?_) (fun hb35u => ?_)
    · replace hF1 := bif_t hb35u hF1
      refine EW.skip ?_
      refine EW.seq ?_
      refine EW.block ?_
      refine EW.seq ?_
      refine EW.region (by kernel_rfl) ?_
      refine EWL.op rfl ?_
      obtain ⟨x36u, h37u, hF1⟩ := bnd hF1
      refine s_idxS s43 t42 rfl m30u rfl h37u fun b38u o39u L40u hc41u ha42u => ?_
      refine EWL.op rfl ?_
      refine s_ldK t42 rfl (Imm.cells hc41u) ha42u rfl rfl fun cs43u m44u => ?_
      refine EWL.op rfl ?_
      refine s_newK k_clerk_Wish 5903 I (zpv rfl) z42 rfl fun g50u b45u L49u s51u I hb46u hl48u ha47u => ?_
      refine EWL.opn rfl ?_
      have m52u : k_clerk_Wish.M g50u 0 x36u _ := (Kd.upK rfl s51u no_ m44u)
      refine s_stK (kd := k_clerk_Wish) I t42 rfl rfl m52u rfl hb46u (ble_ hl48u rfl) (by decide) nc0 (zpv rfl) fun g53u L55u s54u I hb56u hu57u hn58u => ?_
      have ha59u := hn58u
      have hl60u := hu57u.1.trans hl48u
      obtain ⟨r63u, h64u, hF1⟩ := bnd hF1
      obtain ⟨r71u, h72u, hF1⟩ := bnd hF1
      refine EW.drawn [] [⟨SF.row 3 5 (kInt .u8) rfl 5901 x25u, none, some 3⟩, ⟨SF.val 5 (.pointer (some ⟨b45u, 0, none⟩)), none, none⟩, ⟨SF.bx b45u 5903 42 k_clerk_Wish rfl x36u, none, none⟩, ⟨SF.sl 17 k_clerk_Wish rfl ka0 l1u, none, none⟩, ⟨SF.val 18 (.int .i64 (l1u.length : Int)), none, none⟩, ⟨SF.val 19 (.int .i64 x33u), none, none⟩, ⟨SF.row 23 5 (kInt .u8) rfl 5901 x25u, some 0, some 3⟩, ⟨SF.val 24 (.pointer (some ⟨b45u, 0 + 0, none⟩)), some 1, none⟩, ⟨SF.agg 25 k_pact_Op rfl x36u.op, some 2, none⟩, ⟨SF.row 26 5 (kInt .u8) rfl 5901 r63u, some 3, some 6⟩, ⟨SF.val 27 (.pointer (some ⟨b45u, 0 + 39, none⟩)), some 4, none⟩, ⟨SF.sl 28 k_memo_Hop rfl 0 x36u.trail, some 5, none⟩, ⟨SF.row 29 5 (kInt .u8) rfl 5901 r71u, some 6, none⟩, ⟨SF.row 3 5 (kInt .u8) rfl 5901 r71u, some 7, none⟩] [(3, at_ 5901), (6, at_ 5901)] (by kernel_rfl) (by kernel_rfl) (by kernel_rfl) ?_ I ?_ (dcons ?_ (dcons ?_ (dcons ?_ (dcons ?_ (dcons ?_ (dcons ?_ (dcons ?_ (dcons ?_ dnil)))))))) ?_
      · exact (And.intro (And.intro (Nat.ne_of_beq_eq_false rfl) (And.intro trivial (And.intro trivial (And.intro (And.intro (Nat.ne_of_beq_eq_false rfl) trivial) (And.intro (And.intro (ne_ld hka0 rfl rfl) trivial) (And.intro trivial (And.intro trivial (And.intro trivial (And.intro trivial (And.intro trivial (And.intro trivial (And.intro trivial (And.intro (And.intro (Nat.ne_of_beq_eq_false rfl) trivial) (And.intro trivial (And.intro trivial trivial))))))))))))))) (And.intro (And.intro (Nat.ne_of_beq_eq_false rfl) (And.intro trivial (And.intro trivial (And.intro (And.intro (Nat.ne_of_beq_eq_false rfl) trivial) (And.intro (And.intro (ne_ld hka0 rfl rfl) trivial) (And.intro trivial (And.intro trivial (And.intro trivial (And.intro trivial (And.intro trivial (And.intro trivial (And.intro trivial (And.intro (And.intro (Nat.ne_of_beq_eq_false rfl) trivial) (And.intro trivial (And.intro trivial trivial))))))))))))))) trivial))
      · exact (nwc (pf_row rfl rfl (Row.up rfl s54u (Nat.ne_of_beq_eq_false rfl) (Nat.ne_of_beq_eq_false rfl) (Row.up rfl s51u no_ no_ m27u))) (nwc (pf_val rfl) (nwc (pf_bx rfl hb56u hl60u ha59u) (nwc (pf_sl rfl rfl (Sl.up rfl s54u (Nat.ne_of_beq_eq_false rfl) (ne_ld hka0 rfl rfl) (Sl.up rfl s51u no_ no_ m30u))) (nwc (pf_val rfl) (nwc (pf_val rfl) nwn))))))
      · intro ρ g I av
        obtain ⟨v89u, hr87u, m88u⟩ := av 0 _ rfl (by kernel_rfl)
        refine ddo (up1 rfl hr87u) rfl ?_
        refine s_mv ?_
        exact ⟨_, rfl, (Stp.refl _ _), I, (nwc (pf_row rfl rfl m88u) nwn)⟩
      · intro ρ g I av
        have hr90u := av 1 _ rfl (by kernel_rfl)
        refine ddo (up1 rfl hr90u) rfl ?_
        refine s_fa f42u0 rfl ?_
        exact ⟨_, rfl, (Stp.refl _ _), I, (nwc (pf_val rfl) nwn)⟩
      · intro ρ g I av
        obtain ⟨L92u, hb93u, hl94u, ha95u⟩ := av 2 _ rfl (by kernel_rfl)
        have hr96u := av 7 _ rfl (by kernel_rfl)
        refine ddo (up1 rfl hr96u) rfl ?_
        refine s_ldK t39 rfl (Blk.cells hb93u) (At.fld ha95u 0 rfl) rfl rfl fun cs98u m99u => ?_
        exact ⟨_, rfl, (Stp.refl _ _), I, (nwc (pf_agg rfl rfl m99u) nwn)⟩
      · intro ρ g I av
        obtain ⟨v102u, hr100u, m101u⟩ := av 6 _ rfl (by kernel_rfl)
        obtain ⟨_, hr103u, m104u⟩ := av 8 _ rfl (by kernel_rfl)
        refine ddo (up1 (up1 rfl hr100u) hr103u) rfl ?_
        refine s_cf I k35 rfl (deed_LayOp_ok (zle hZ rfl rfl) (.inl z0) I.l m101u (Nat.le_of_ble_eq_true rfl) (zpv rfl) m104u h64u) (at_in (zpv rfl)) fun g107u v105u s108u I p106u => ?_
        exact ⟨_, rfl, s108u, I, (nwc (pf_row rfl rfl p106u) nwn)⟩
      · intro ρ g I av
        have hr109u := av 1 _ rfl (by kernel_rfl)
        refine ddo (up1 rfl hr109u) rfl ?_
        refine s_fa f42u1 rfl ?_
        exact ⟨_, rfl, (Stp.refl _ _), I, (nwc (pf_val rfl) nwn)⟩
      · intro ρ g I av
        obtain ⟨L111u, hb112u, hl113u, ha114u⟩ := av 2 _ rfl (by kernel_rfl)
        have hr115u := av 10 _ rfl (by kernel_rfl)
        refine ddo (up1 rfl hr115u) rfl ?_
        refine s_ldSl t40 rfl (Blk.cells hb112u) (At.fld ha114u 1 rfl) fun v117u m118u => ?_
        exact ⟨_, rfl, (Stp.refl _ _), I, (nwc (pf_sl rfl rfl m118u) nwn)⟩
      · intro ρ g I av
        obtain ⟨v121u, hr119u, m120u⟩ := av 9 _ rfl (by kernel_rfl)
        obtain ⟨v124u, hr122u, m123u⟩ := av 11 _ rfl (by kernel_rfl)
        refine ddo (up1 (up1 rfl hr119u) hr122u) rfl ?_
        refine s_cf I k34 rfl (memo_LayTrail_ok (zle hZ rfl rfl) (.inl z0) I.l m120u (Nat.le_of_ble_eq_true rfl) (zpv rfl) m123u (Or.inl rfl) (Nat.ne_of_beq_eq_false rfl) h72u) (at_in (zpv rfl)) fun g127u v125u s128u I p126u => ?_
        exact ⟨_, rfl, s128u, I, (nwc (pf_row rfl rfl p126u) nwn)⟩
      · intro ρ g I av
        obtain ⟨v131u, hr129u, m130u⟩ := av 12 _ rfl (by kernel_rfl)
        refine ddo (up1 rfl hr129u) rfl ?_
        refine s_as ?_
        exact ⟨_, rfl, (Stp.refl _ _), I, (nwc (pf_row rfl rfl m130u) nwn)⟩
      · intro ρ g I av
        obtain ⟨v79u, hr77u, m78u⟩ := av 13 _ rfl rfl
        obtain ⟨v82u, hr80u, m81u⟩ := av 3 _ rfl rfl
        have hr83u := av 4 _ rfl rfl
        have hr85u := av 5 _ rfl rfl
        refine ⟨_, (up1 (up1 (up1 (up1 rfl hr77u) hr80u) hr83u) hr85u), ?_⟩
        refine EW.region (by kernel_rfl) ?_
        refine EWL.op rfl ?_
        refine s_add rfl rfl ?_
        refine EWL.op rfl ?_
        refine s_mv ?_
        exact ⟨_, (som hF1).symm, g, r71u, _, _, (IntKind.i64.wrap (x33u + 1)), rfl, I, rfl, rfl, m78u, rfl, m81u, rfl, rfl⟩
    · replace hF1 := bif_f hb35u hF1
      refine EW.exit ?_
      have hF0 := out_ hF1 hr1
      refine EW.seq ?_
      refine EW.region (by kernel_rfl) ?_
      refine EWL.op rfl ?_
      refine s_mv ?_
      refine EWL.op rfl ?_
      refine s_as ?_
      refine EW.ret ?_
      obtain rfl := som hF0
      refine ends1 (.inl rfl)  ?_
      have m132u := Row.rc rfl (by decide) m27u rc0
      have s134u := Stp.rc1 g23u 5901 rc0
      replace I := I.to s134u (Lo.rc (d := rc0) I.l (.inl zrc0)) (at_in (zpv rfl))
      exact ret_ (g := (g23u.rc 5901 (5901 + 1) rc0)) I lo hZ z0 rfl (Row.up rfl (Stp.rc (g23u.rc 5901 (5901 + 1) rc0) 5900 6000 0) fz (iv_z hZ rfl zrc0) m132u)
theorem ref01uNum_ok {g0 : GW} {Z : Nat → Prop} (hZ : ∀ c, Z c → c = 0 ∨ 6100 ≤ c) (z0 : Z 0) (lo : Lo Z g0) (rc0 : Nat) (zrc0 : Z rc0) {a0 : (List Int)} {va0 : Value} {ka0 : Nat} {a1 : Int} {a2 : Int} (ma0 : Sl (kInt .u8) g0 ka0 a0 va0) (hka0 : ka0 = 0 ∨ 6100 ≤ ka0) {r : (List Int)} (hF0 : ref01uNum a0 a1 a2 = some r) :
    Calls P 57 [va0, .int .u64 a1, .int .i64 a2].toArray g0.w (Rets (RR (no) Z g0 ((fun h v => Row 5 (kInt .u8) h rc0 r v)))) := by
  refine calls_of Go.Proofs.Try.func57 rfl (Nat.le_of_ble_eq_true rfl) (by kernel_rfl) ?_
  have I : Inv (or_ (no) (iv 6000 6100)) (or_ Z (iv 6000 6100)) g0 g0 := Inv.start (lo.mono (fun _ h => .inl h))
  have fz : ¬ iv 6000 6100 0 := nz0 rfl
  unfold ref01uNum at hF0
  refine EW.seq ?_
  refine EW.region (by kernel_rfl) ?_
  refine EWL.op rfl ?_
  refine s_as ?_
  refine EW.seq ?_
  refine EW.region (by kernel_rfl) ?_
  refine EWL.op rfl ?_
  refine s_mv ?_
  refine EWL.op rfl ?_
  obtain ⟨l1u, h2u, hF0⟩ := bnd hF0
  refine s_make (kd := (kInt .u8)) 6001 I s32 t5 z5 rfl rfl rfl rfl h2u (zpv rfl) fun g5u v3u s6u I m4u => ?_
  refine EWL.op rfl ?_
  refine s_as ?_
  refine EW.seq ?_
  refine EW.seq ?_
  refine EW.region (by kernel_rfl) ?_
  refine EWL.op rfl ?_
  refine s_mv ?_
  refine EWL.op rfl ?_
  refine s_sub rfl rfl ?_
  refine EWL.op rfl ?_
  refine s_as ?_
  refine EW.block ?_
  refine EW.loop (b := (ref01uNum_b1 a0)) (fun (s : (Int × (List Int) × Int)) ρ w => ∃ (g15u : GW) (v17u : Value) (x20u : Int) (x22u : (List Int)) (v23u : Value) (x26u : Int), w = g15u.w ∧ Inv (or_ (no) (iv 6000 6100)) (or_ Z (iv 6000 6100)) g0 g15u ∧ (x20u, x22u, x26u) = s ∧ ρ 0 = v17u ∧ Sl (kInt .u8) g15u ka0 a0 v17u ∧ ρ 1 = .int .u64 x20u ∧ ρ 7 = v23u ∧ Row 5 (kInt .u8) g15u 6001 x22u v23u ∧ ρ 8 = .int .i64 x26u) hF0 ⟨g5u, _, a1, l1u, _, (IntKind.i64.wrap (a2 - 1)), rfl, I, rfl, rfl, (Sl.up rfl s6u no_ no_ ma0), rfl, rfl, m4u, rfl⟩ ?_
  · rintro s_ o27u ρ w ⟨g15u, v17u, x20u, x22u, v23u, x26u, rfl, I, eo, hr16u, m18u, hr19u, hr21u, m24u, hr25u⟩ hF1 hr1
    subst eo
    unfold ref01uNum_b1 at hF1
    refine EW.re (up1 (up1 (up1 (up1 rfl hr16u) hr19u) hr21u) hr25u) ?_
    refine EW.seq ?_
    refine EW.seq ?_
    refine EW.region (by kernel_rfl) ?_
    refine EWL.op rfl ?_
    refine s_mv ?_
    refine EWL.op rfl ?_
    refine s_geq rfl rfl ?_
    refine EW.condS rfl rfl (fun hb28u => ?_) (fun hb28u => ?_)
    · replace hF1 := bif_t hb28u hF1
      refine EW.skip ?_
      refine EW.seq ?_
      refine EW.block ?_
      refine EW.seq ?_
      refine EW.region (by kernel_rfl) ?_
      refine EWL.op rfl ?_
      refine s_mv ?_
      refine EWL.op rfl ?_
      refine s_mv ?_
      refine EWL.op rfl ?_
      refine s_mv ?_
      refine EWL.op rfl ?_
      refine s_rem rfl rfl (by decide) ?_
      refine EWL.op rfl ?_
      refine s_cvt u23 n5 rfl ?_
      refine EWL.op rfl ?_
      obtain ⟨x29u, h30u, hF1⟩ := bnd hF1
      refine s_idxR s32 t5 m24u rfl h30u fun b31u _ _ lk32u => ?_
      obtain ⟨L33u, hb34u, ha35u, cl36u⟩ := Row.opn m24u lk32u h30u rfl
      refine EWL.opn rfl ?_
      have m37u : (kInt .u8).M g15u 0 (IntKind.u8.wrap (Int.tmod x20u 256)) _ := rfl
      obtain ⟨L38u, hb39u, ha40u, cl41u⟩ := Row.opn m24u lk32u h30u rfl
      refine s_stP (kd := (kInt .u8)) I t5 rfl rfl m37u rfl hb39u (At.fits ha40u (by decide)) (by decide) nc0 (zpv rfl) fun g42u L44u s43u I hb45u hu46u hn47u => ?_
      have m48u := cl41u s43u (Nat.ne_of_beq_eq_false rfl) rfl hb45u hu46u hn47u
      refine EW.region (by kernel_rfl) ?_
      refine EWL.op rfl ?_
      refine s_mv ?_
      refine EWL.op rfl ?_
      refine s_quo rfl rfl (by decide) ?_
      refine EWL.op rfl ?_
      refine s_as ?_
      refine EW.region (by kernel_rfl) ?_
      refine EWL.op rfl ?_
      refine s_mv ?_
      refine EWL.op rfl ?_
      refine s_sub rfl rfl ?_
      refine EWL.op rfl ?_
      refine s_as ?_
      exact ⟨_, (som hF1).symm, g42u, _, (IntKind.u64.wrap (Int.tdiv x20u 256)), (upd x22u x26u (IntKind.u8.wrap (Int.tmod x20u 256))), _, (IntKind.i64.wrap (x26u - 1)), rfl, I, rfl, rfl, (Sl.up rfl s43u (Nat.ne_of_beq_eq_false rfl) (ne_ld hka0 rfl rfl) m18u), rfl, rfl, m48u, rfl⟩
    · replace hF1 := bif_f hb28u hF1
      refine EW.exit ?_
      have hF0 := out_ hF1 hr1
      refine EW.seq ?_
      refine EW.region (by kernel_rfl) ?_
      refine EWL.op rfl ?_
      refine s_bslK (kd := (kInt .u8)) (xs := ([] : List Int)) 6002 I s32 t5 z5 rfl rfl (by decide) rfl (by decide) (trivial) (Seg.flat (d := (kInt .u8)) (g := g15u) alle) rfl (zpv rfl) fun g51u v49u s52u I m50u => ?_
      refine EWL.op rfl ?_
      refine s_mv ?_
      refine EWL.op rfl ?_
      obtain ⟨l53u, h54u, hF0⟩ := bnd hF0
      refine s_app (kd := (kInt .u8)) I s32 rfl s32 t5 z5 rfl m50u (Sl.rs (Sl.up rfl s52u no_ no_ m18u)) h54u (by decide) (zpv rfl) (zpv rfl) fun g57u v55u s58u I m56u => ?_
      refine EWL.op rfl ?_
      refine s_mv ?_
      refine EWL.op rfl ?_
      obtain ⟨l59u, h60u, hF0⟩ := bnd hF0
      refine s_app (kd := (kInt .u8)) I s32 rfl s32 t5 z5 rfl m56u (Sl.rs (Row.sl (Row.up rfl s58u (Nat.ne_of_beq_eq_false rfl) (Nat.ne_of_beq_eq_false rfl) (Row.up rfl s52u no_ no_ m24u)))) h60u (by decide) (zpv rfl) (zpv rfl) fun g63u v61u s64u I m62u => ?_
      refine EWL.op rfl ?_
      refine s_as ?_
      refine EW.ret ?_
      obtain rfl := som hF0
      refine ends1 (.inl rfl)  ?_
      have m65u := Row.rc rfl (by decide) m62u rc0
      have s67u := Stp.rc1 g63u 6002 rc0
      replace I := I.to s67u (Lo.rc (d := rc0) I.l (.inl zrc0)) (at_in (zpv rfl))
      exact ret_ (g := (g63u.rc 6002 (6002 + 1) rc0)) I lo hZ z0 rfl (Row.up rfl (Stp.rc (g63u.rc 6002 (6002 + 1) rc0) 6000 6100 0) fz (iv_z hZ rfl zrc0) m65u)
theorem ref18uTrail_ok {g0 : GW} {Z : Nat → Prop} (hZ : ∀ c, Z c → c = 0 ∨ 6200 ≤ c) (z0 : Z 0) (lo : Lo Z g0) (rc0 : Nat) (zrc0 : Z rc0) {a0 : (List Int)} {va0 : Value} {ka0 : Nat} {a1 : (List ref18uHop)} {va1 : Value} {ka1 : Nat} (ma0 : Sl (kInt .u8) g0 ka0 a0 va0) (hka0 : ka0 = 0 ∨ 6200 ≤ ka0) (ma1 : Sl k_ref18uHop g0 ka1 a1 va1) (hka1 : ka1 = 0 ∨ 6200 ≤ ka1) {r : (List Int)} (hF0 : ref18uTrail a0 a1 = some r) :
    Calls P 36 [va0, va1].toArray g0.w (Rets (RR (no) Z g0 ((fun h v => Row 5 (kInt .u8) h rc0 r v)))) := by
  refine calls_of Go.Proofs.Try.func36 rfl (Nat.le_of_ble_eq_true rfl) (by kernel_rfl) ?_
  have I : Inv (or_ (no) (iv 6100 6200)) (or_ Z (iv 6100 6200)) g0 g0 := Inv.start (lo.mono (fun _ h => .inl h))
  have fz : ¬ iv 6100 6200 0 := nz0 rfl
  unfold ref18uTrail at hF0
  refine EW.seq ?_
  refine EW.region (by kernel_rfl) ?_
  refine EWL.op rfl ?_
  refine s_as ?_
  refine EW.seq ?_
  refine EW.region (by kernel_rfl) ?_
  refine EWL.op rfl ?_
  refine s_bslK (kd := (kInt .u8)) (xs := ([] : List Int)) 6101 I s32 t5 z5 rfl rfl (by decide) rfl (by decide) (trivial) (Seg.flat (d := (kInt .u8)) (g := g0) alle) rfl (zpv rfl) fun g3u v1u s4u I m2u => ?_
  refine EWL.op rfl ?_
  refine s_mv ?_
  refine EWL.op rfl ?_
  obtain ⟨l5u, h6u, hF0⟩ := bnd hF0
  refine s_app (kd := (kInt .u8)) I s32 rfl s32 t5 z5 rfl m2u (Sl.rs (Sl.up rfl s4u no_ no_ ma0)) h6u (by decide) (zpv rfl) (zpv rfl) fun g9u v7u s10u I m8u => ?_
  refine EWL.op rfl ?_
  refine s_mv ?_
  refine EWL.op rfl ?_
  refine s_lenR (kd := k_ref18uHop) (xs := a1) s29 rfl (Sl.rs (Sl.up rfl s10u (Nat.ne_of_beq_eq_false rfl) (ne_ld hka1 rfl rfl) (Sl.up rfl s4u no_ no_ ma1))) ?_
  refine EWL.op rfl ?_
  refine s_cvt u3 n5 rfl ?_
  refine EWL.op rfl ?_
  refine s_bslK (kd := (kInt .u8)) (xs := ([(IntKind.u8.wrap (a1.length : Int))] : List Int)) 6102 I s32 t5 z5 rfl rfl (by decide) rfl (by decide) (And.intro rfl (trivial)) (Seg.flat (d := (kInt .u8)) (g := g9u) (alls rfl alle)) rfl (zpv rfl) fun g13u v11u s14u I m12u => ?_
  refine EWL.op rfl ?_
  obtain ⟨l15u, h16u, hF0⟩ := bnd hF0
  refine s_app (kd := (kInt .u8)) I s32 rfl s32 t5 z5 rfl (Row.up rfl s14u no_ no_ m8u) (Sl.rs (Row.sl m12u)) h16u (by decide) (zpv rfl) (zpv rfl) fun g19u v17u s20u I m18u => ?_
  refine EWL.op rfl ?_
  refine s_as ?_
  refine EW.seq ?_
  refine EW.seq ?_
  refine EW.region (by kernel_rfl) ?_
  refine EWL.op rfl ?_
  refine s_as ?_
  refine EW.block ?_
  refine EW.loop (b := (ref18uTrail_b1 a1)) (fun (s : ((List Int) × Int)) ρ w => ∃ (g25u : GW) (x27u : (List Int)) (v28u : Value) (v31u : Value) (x34u : Int), w = g25u.w ∧ Inv (or_ (no) (iv 6100 6200)) (or_ Z (iv 6100 6200)) g0 g25u ∧ (x27u, x34u) = s ∧ ρ 0 = v28u ∧ Row 5 (kInt .u8) g25u 6101 x27u v28u ∧ ρ 1 = v31u ∧ Sl k_ref18uHop g25u ka1 a1 v31u ∧ ρ 5 = .int .i64 x34u) hF0 ⟨g19u, l15u, _, _, 0, rfl, I, rfl, rfl, m18u, rfl, (Sl.up rfl s20u (Nat.ne_of_beq_eq_false rfl) (ne_ld hka1 rfl rfl) (Sl.up rfl s14u no_ no_ (Sl.up rfl s10u (Nat.ne_of_beq_eq_false rfl) (ne_ld hka1 rfl rfl) (Sl.up rfl s4u no_ no_ ma1)))), rfl⟩ ?_
  · rintro s_ o35u ρ w ⟨g25u, x27u, v28u, v31u, x34u, rfl, I, eo, hr26u, m29u, hr30u, m32u, hr33u⟩ hF1 hr1
    subst eo
    unfold ref18uTrail_b1 at hF1
    refine EW.re (up1 (up1 (up1 rfl hr26u) hr30u) hr33u) ?_
    refine EW.seq ?_
    refine EW.seq ?_
    refine EW.region (by kernel_rfl) ?_
    refine EWL.op rfl ?_
    refine s_mv ?_
    refine EWL.op rfl ?_
    refine s_mv ?_
    refine EWL.op rfl ?_
    refine s_lenR (kd := k_ref18uHop) (xs := a1) s29 rfl (Sl.rs m32u) ?_
    refine EWL.op rfl ?_
    refine s_lss rfl rfl ?_
    refine EW.condS rfl rfl (fun hb36u => ?_) (fun hb36u => ?_)
    · replace hF1 := bif_t hb36u hF1
      refine EW.skip ?_
      refine EW.seq ?_
      refine EW.block ?_
      obtain ⟨x37u, h38u, hF1⟩ := bnd hF1
      obtain ⟨r44u, h45u, hF1⟩ := bnd hF1
      obtain ⟨x50u, h51u, hF1⟩ := bnd hF1
      obtain ⟨r57u, h58u, hF1⟩ := bnd hF1
      obtain ⟨x63u, h64u, hF1⟩ := bnd hF1
      obtain ⟨r70u, h71u, hF1⟩ := bnd hF1
      refine EW.drawn [] [⟨SF.row 0 5 (kInt .u8) rfl 6101 x27u, none, some 20⟩, ⟨SF.sl 1 k_ref18uHop rfl ka1 a1, none, none⟩, ⟨SF.val 5 (.int .i64 x34u), none, none⟩, ⟨SF.row 20 5 (kInt .u8) rfl 6101 x27u, some 0, none⟩, ⟨SF.sl 21 k_ref18uHop rfl ka1 a1, some 1, none⟩, ⟨SF.val 22 (.int .i64 x34u), some 2, none⟩, ⟨SF.ep 23 k_ref18uHop rfl ka1 x37u (fun o => o), some 3, none⟩, ⟨SF.ep 24 k_ref18uHop rfl ka1 x37u (fun o => o + 0), some 4, none⟩, ⟨SF.val 25 (.int .u32 x37u.channel), some 5, none⟩, ⟨SF.val 26 (.int .u64 (IntKind.u64.wrap x37u.channel)), some 6, none⟩, ⟨SF.row 27 5 (kInt .u8) rfl 6103 r44u, some 7, none⟩, ⟨SF.sl 28 k_ref18uHop rfl ka1 a1, some 8, none⟩, ⟨SF.val 29 (.int .i64 x34u), some 9, none⟩, ⟨SF.ep 30 k_ref18uHop rfl ka1 x50u (fun o => o), some 10, none⟩, ⟨SF.ep 31 k_ref18uHop rfl ka1 x50u (fun o => o + 1), some 11, none⟩, ⟨SF.val 32 (.int .u64 x50u.amount), some 12, none⟩, ⟨SF.row 33 5 (kInt .u8) rfl 6104 r57u, some 13, none⟩, ⟨SF.sl 34 k_ref18uHop rfl ka1 a1, some 14, none⟩, ⟨SF.val 35 (.int .i64 x34u), some 15, none⟩, ⟨SF.ep 36 k_ref18uHop rfl ka1 x63u (fun o => o), some 16, none⟩, ⟨SF.ep 37 k_ref18uHop rfl ka1 x63u (fun o => o + 2), some 17, none⟩, ⟨SF.val 38 (.int .u64 x63u.id), some 18, none⟩, ⟨SF.row 39 5 (kInt .u8) rfl 6105 r70u, some 19, none⟩, ⟨SF.row 0 5 (kInt .u8) rfl 6105 r70u, some 20, none⟩] [] (by kernel_rfl) (by kernel_rfl) (by kernel_rfl) ?_ I ?_ (dcons ?_ (dcons ?_ (dcons ?_ (dcons ?_ (dcons ?_ (dcons ?_ (dcons ?_ (dcons ?_ (dcons ?_ (dcons ?_ (dcons ?_ (dcons ?_ (dcons ?_ (dcons ?_ (dcons ?_ (dcons ?_ (dcons ?_ (dcons ?_ (dcons ?_ (dcons ?_ (dcons ?_ dnil))))))))))))))))))))) ?_
      · exact trivial
      · exact (nwc (pf_row rfl rfl m29u) (nwc (pf_sl rfl rfl m32u) (nwc (pf_val rfl) nwn)))
      · intro ρ g I av
        obtain ⟨v86u, hr84u, m85u⟩ := av 0 _ rfl (by kernel_rfl)
        refine ddo (up1 rfl hr84u) rfl ?_
        refine s_mv ?_
        exact ⟨_, rfl, (Stp.refl _ _), I, (nwc (pf_row rfl rfl m85u) nwn)⟩
      · intro ρ g I av
        obtain ⟨v89u, hr87u, m88u⟩ := av 1 _ rfl (by kernel_rfl)
        refine ddo (up1 rfl hr87u) rfl ?_
        refine s_mv ?_
        exact ⟨_, rfl, (Stp.refl _ _), I, (nwc (pf_sl rfl rfl m88u) nwn)⟩
      · intro ρ g I av
        have hr90u := av 2 _ rfl (by kernel_rfl)
        refine ddo (up1 rfl hr90u) rfl ?_
        refine s_mv ?_
        exact ⟨_, rfl, (Stp.refl _ _), I, (nwc (pf_val rfl) nwn)⟩
      · intro ρ g I av
        obtain ⟨v94u, hr92u, m93u⟩ := av 4 _ rfl (by kernel_rfl)
        have hr95u := av 5 _ rfl (by kernel_rfl)
        refine ddo (up1 (up1 rfl hr92u) hr95u) rfl ?_
        refine s_idxS s29 t99 rfl m93u rfl h38u fun b97u o98u L99u hc100u ha101u => ?_
        exact ⟨_, rfl, (Stp.refl _ _), I, (nwc (pf_ep rfl rfl hc100u ha101u) nwn)⟩
      · intro ρ g I av
        obtain ⟨b104u, o105u, L106u, hr102u, hc107u, ha108u⟩ := av 6 _ rfl (by kernel_rfl)
        refine ddo (up1 rfl hr102u) rfl ?_
        refine s_fa f99u0 rfl ?_
        exact ⟨_, rfl, (Stp.refl _ _), I, (nwc (pf_ep rfl rfl hc107u ha108u) nwn)⟩
      · intro ρ g I av
        obtain ⟨b111u, o112u, L113u, hr109u, hc114u, ha115u⟩ := av 7 _ rfl (by kernel_rfl)
        refine ddo (up1 rfl hr109u) rfl ?_
        refine s_ldS t65 rfl (Imm.cells hc114u) (At.fld ha115u 0 rfl) ?_
        exact ⟨_, rfl, (Stp.refl _ _), I, (nwc (pf_val rfl) nwn)⟩
      · intro ρ g I av
        have hr116u := av 8 _ rfl (by kernel_rfl)
        refine ddo (up1 rfl hr116u) rfl ?_
        refine s_cvt u65 n23 rfl ?_
        exact ⟨_, rfl, (Stp.refl _ _), I, (nwc (pf_val rfl) nwn)⟩
      · intro ρ g I av
        obtain ⟨v120u, hr118u, m119u⟩ := av 3 _ rfl (by kernel_rfl)
        have hr121u := av 9 _ rfl (by kernel_rfl)
        refine ddo (up1 (up1 rfl hr118u) hr121u) rfl ?_
        refine s_cf I k57 rfl (ref01uNum_ok (zle hZ rfl rfl) (.inl z0) I.l 6103 (zpv rfl) (Row.sl m119u) (Or.inr (Nat.le_of_ble_eq_true rfl)) h45u) no_any fun g125u v123u s126u I p124u => ?_
        exact ⟨_, rfl, s126u, I, (nwc (pf_row rfl rfl p124u) nwn)⟩
      · intro ρ g I av
        obtain ⟨v129u, hr127u, m128u⟩ := av 1 _ rfl (by kernel_rfl)
        refine ddo (up1 rfl hr127u) rfl ?_
        refine s_mv ?_
        exact ⟨_, rfl, (Stp.refl _ _), I, (nwc (pf_sl rfl rfl m128u) nwn)⟩
      · intro ρ g I av
        have hr130u := av 2 _ rfl (by kernel_rfl)
        refine ddo (up1 rfl hr130u) rfl ?_
        refine s_mv ?_
        exact ⟨_, rfl, (Stp.refl _ _), I, (nwc (pf_val rfl) nwn)⟩
      · intro ρ g I av
        obtain ⟨v134u, hr132u, m133u⟩ := av 11 _ rfl (by kernel_rfl)
        have hr135u := av 12 _ rfl (by kernel_rfl)
        refine ddo (up1 (up1 rfl hr132u) hr135u) rfl ?_
        refine s_idxS s29 t99 rfl m133u rfl h51u fun b137u o138u L139u hc140u ha141u => ?_
        exact ⟨_, rfl, (Stp.refl _ _), I, (nwc (pf_ep rfl rfl hc140u ha141u) nwn)⟩
      · intro ρ g I av
        obtain ⟨b144u, o145u, L146u, hr142u, hc147u, ha148u⟩ := av 13 _ rfl (by kernel_rfl)
        refine ddo (up1 rfl hr142u) rfl ?_
        refine s_fa f99u1 rfl ?_
        exact ⟨_, rfl, (Stp.refl _ _), I, (nwc (pf_ep rfl rfl hc147u ha148u) nwn)⟩
      · intro ρ g I av
        obtain ⟨b151u, o152u, L153u, hr149u, hc154u, ha155u⟩ := av 14 _ rfl (by kernel_rfl)
        refine ddo (up1 rfl hr149u) rfl ?_
        refine s_ldS t23 rfl (Imm.cells hc154u) (At.fld ha155u 1 rfl) ?_
        exact ⟨_, rfl, (Stp.refl _ _), I, (nwc (pf_val rfl) nwn)⟩
      · intro ρ g I av
        obtain ⟨v158u, hr156u, m157u⟩ := av 10 _ rfl (by kernel_rfl)
        have hr159u := av 15 _ rfl (by kernel_rfl)
        refine ddo (up1 (up1 rfl hr156u) hr159u) rfl ?_
        refine s_cf I k57 rfl (ref01uNum_ok (zle hZ rfl rfl) (.inl z0) I.l 6104 (zpv rfl) (Row.sl m157u) (Or.inr (Nat.le_of_ble_eq_true rfl)) h58u) no_any fun g163u v161u s164u I p162u => ?_
        exact ⟨_, rfl, s164u, I, (nwc (pf_row rfl rfl p162u) nwn)⟩
      · intro ρ g I av
        obtain ⟨v167u, hr165u, m166u⟩ := av 1 _ rfl (by kernel_rfl)
        refine ddo (up1 rfl hr165u) rfl ?_
        refine s_mv ?_
        exact ⟨_, rfl, (Stp.refl _ _), I, (nwc (pf_sl rfl rfl m166u) nwn)⟩
      · intro ρ g I av
        have hr168u := av 2 _ rfl (by kernel_rfl)
        refine ddo (up1 rfl hr168u) rfl ?_
        refine s_mv ?_
        exact ⟨_, rfl, (Stp.refl _ _), I, (nwc (pf_val rfl) nwn)⟩
      · intro ρ g I av
        obtain ⟨v172u, hr170u, m171u⟩ := av 17 _ rfl (by kernel_rfl)
        have hr173u := av 18 _ rfl (by kernel_rfl)
        refine ddo (up1 (up1 rfl hr170u) hr173u) rfl ?_
        refine s_idxS s29 t99 rfl m171u rfl h64u fun b175u o176u L177u hc178u ha179u => ?_
        exact ⟨_, rfl, (Stp.refl _ _), I, (nwc (pf_ep rfl rfl hc178u ha179u) nwn)⟩
      · intro ρ g I av
        obtain ⟨b182u, o183u, L184u, hr180u, hc185u, ha186u⟩ := av 19 _ rfl (by kernel_rfl)
        refine ddo (up1 rfl hr180u) rfl ?_
        refine s_fa f99u2 rfl ?_
        exact ⟨_, rfl, (Stp.refl _ _), I, (nwc (pf_ep rfl rfl hc185u ha186u) nwn)⟩
      · intro ρ g I av
        obtain ⟨b189u, o190u, L191u, hr187u, hc192u, ha193u⟩ := av 20 _ rfl (by kernel_rfl)
        refine ddo (up1 rfl hr187u) rfl ?_
        refine s_ldS t23 rfl (Imm.cells hc192u) (At.fld ha193u 2 rfl) ?_
        exact ⟨_, rfl, (Stp.refl _ _), I, (nwc (pf_val rfl) nwn)⟩
      · intro ρ g I av
        obtain ⟨v196u, hr194u, m195u⟩ := av 16 _ rfl (by kernel_rfl)
        have hr197u := av 21 _ rfl (by kernel_rfl)
        refine ddo (up1 (up1 rfl hr194u) hr197u) rfl ?_
        refine s_cf I k57 rfl (ref01uNum_ok (zle hZ rfl rfl) (.inl z0) I.l 6105 (zpv rfl) (Row.sl m195u) (Or.inr (Nat.le_of_ble_eq_true rfl)) h71u) no_any fun g201u v199u s202u I p200u => ?_
        exact ⟨_, rfl, s202u, I, (nwc (pf_row rfl rfl p200u) nwn)⟩
      · intro ρ g I av
        obtain ⟨v205u, hr203u, m204u⟩ := av 22 _ rfl (by kernel_rfl)
        refine ddo (up1 rfl hr203u) rfl ?_
        refine s_as ?_
        exact ⟨_, rfl, (Stp.refl _ _), I, (nwc (pf_row rfl rfl m204u) nwn)⟩
      · intro ρ g I av
        obtain ⟨v78u, hr76u, m77u⟩ := av 23 _ rfl rfl
        obtain ⟨v81u, hr79u, m80u⟩ := av 1 _ rfl rfl
        have hr82u := av 2 _ rfl rfl
        refine ⟨_, (up1 (up1 (up1 rfl hr76u) hr79u) hr82u), ?_⟩
        refine EW.region (by kernel_rfl) ?_
        refine EWL.op rfl ?_
        refine s_mv ?_
        refine EWL.op rfl ?_
        refine s_add rfl rfl ?_
        refine EWL.op rfl ?_
        refine s_as ?_
        have m206u := Row.rc rfl (by decide) m77u 6101
        have s208u := Stp.rc1 g 6105 6101
        replace I := I.to s208u (Lo.rc (d := 6101) I.l (zpv rfl)) (at_in (zpv rfl))
        exact ⟨_, (som hF1).symm, (g.rc 6105 (6105 + 1) 6101), r70u, _, _, (IntKind.i64.wrap (x34u + 1)), rfl, I, rfl, rfl, m206u, rfl, (Sl.up rfl s208u (Nat.ne_of_beq_eq_false rfl) (ne_ld hka1 rfl rfl) m80u), rfl⟩
    · replace hF1 := bif_f hb36u hF1
      refine EW.exit ?_
      have hF0 := out_ hF1 hr1
      refine EW.seq ?_
      refine EW.region (by kernel_rfl) ?_
      refine EWL.op rfl ?_
      refine s_mv ?_
      refine EWL.op rfl ?_
      refine s_as ?_
      refine EW.ret ?_
      obtain rfl := som hF0
      refine ends1 (.inl rfl)  ?_
      have m209u := Row.rc rfl (by decide) m29u rc0
      have s211u := Stp.rc1 g25u 6101 rc0
      replace I := I.to s211u (Lo.rc (d := rc0) I.l (.inl zrc0)) (at_in (zpv rfl))
      exact ret_ (g := (g25u.rc 6101 (6101 + 1) rc0)) I lo hZ z0 rfl (Row.up rfl (Stp.rc (g25u.rc 6101 (6101 + 1) rc0) 6100 6200 0) fz (iv_z hZ rfl zrc0) m209u)
theorem ref13uCond_ok {g0 : GW} {Z : Nat → Prop} (hZ : ∀ c, Z c → c = 0 ∨ 6300 ≤ c) (z0 : Z 0) (lo : Lo Z g0) (rc0 : Nat) (zrc0 : Z rc0) {a0 : (List Int)} {va0 : Value} {ka0 : Nat} {a1 : ref10uCond} {ca1 : List Value} (ma0 : Sl (kInt .u8) g0 ka0 a0 va0) (hka0 : ka0 = 0 ∨ 6300 ≤ ka0) (ma1 : k_ref10uCond.M g0 0 a1 ca1) {r : (List Int)} (hF0 : ref13uCond a0 a1 = some r) :
    Calls P 58 [va0, .agg ca1.toArray].toArray g0.w (Rets (RR (no) Z g0 ((fun h v => Row 5 (kInt .u8) h rc0 r v)))) := by
  refine calls_of Go.Proofs.Try.func58 rfl (Nat.le_of_ble_eq_true rfl) (by kernel_rfl) ?_
  have I : Inv (or_ (no) (iv 6200 6300)) (or_ Z (iv 6200 6300)) g0 g0 := Inv.start (lo.mono (fun _ h => .inl h))
  have fz : ¬ iv 6200 6300 0 := nz0 rfl
  unfold ref13uCond at hF0
  refine EW.seq ?_
  refine EW.region (by kernel_rfl) ?_
  refine EWL.op rfl ?_
  refine s_boxK (kd := k_ref10uCond) (r := a1) 6201 I (zpv rfl) ma1 rfl rfl fun g5u b1u s6u I hb2u hl4u ha3u => ?_
  refine EWL.op rfl ?_
  refine s_as ?_
  refine EW.seq ?_
  obtain ⟨r7u, h8u, hF0⟩ := bnd hF0
  obtain ⟨l17u, h18u, hF0⟩ := bnd hF0
  refine EW.drawn [] [⟨SF.sl 0 (kInt .u8) rfl ka0 a0, none, some 9⟩, ⟨SF.val 3 (.pointer (some ⟨b1u, 0, none⟩)), none, none⟩, ⟨SF.bx b1u 6201 26 k_ref10uCond rfl a1, none, none⟩, ⟨SF.sl 5 (kInt .u8) rfl ka0 a0, some 0, none⟩, ⟨SF.val 6 (.pointer (some ⟨b1u, 0 + 0, none⟩)), some 1, none⟩, ⟨SF.val 7 (.int .u64 a1.id), some 2, none⟩, ⟨SF.row 8 5 (kInt .u8) rfl 6202 r7u, some 3, some 8⟩, ⟨SF.val 9 (.pointer (some ⟨b1u, 0 + 1, none⟩)), some 4, none⟩, ⟨SF.val 10 (.int .i64 a1.by_), some 5, none⟩, ⟨SF.val 11 (.int .u8 (IntKind.u8.wrap a1.by_)), some 6, none⟩, ⟨SF.row 12 5 (kInt .u8) rfl 6203 ([(IntKind.u8.wrap a1.by_)] : List Int), some 7, none⟩, ⟨SF.row 13 5 (kInt .u8) rfl 6202 l17u, some 8, none⟩, ⟨SF.row 0 5 (kInt .u8) rfl 6202 l17u, some 9, none⟩] [(8, at_ 6202)] (by kernel_rfl) (by kernel_rfl) (by kernel_rfl) ?_ I ?_ (dcons ?_ (dcons ?_ (dcons ?_ (dcons ?_ (dcons ?_ (dcons ?_ (dcons ?_ (dcons ?_ (dcons ?_ (dcons ?_ dnil)))))))))) ?_
  · exact (And.intro (And.intro (Nat.ne_of_beq_eq_false rfl) (And.intro (And.intro (ne_ld hka0 rfl rfl) trivial) (And.intro trivial (And.intro (And.intro (Nat.ne_of_beq_eq_false rfl) trivial) (And.intro (And.intro (ne_ld hka0 rfl rfl) trivial) (And.intro trivial (And.intro trivial (And.intro trivial (And.intro trivial (And.intro trivial (And.intro trivial (And.intro (And.intro (Nat.ne_of_beq_eq_false rfl) trivial) (And.intro trivial (And.intro trivial trivial)))))))))))))) trivial)
  · exact (nwc (pf_sl rfl rfl (Sl.up rfl s6u no_ no_ ma0)) (nwc (pf_val rfl) (nwc (pf_bx rfl hb2u hl4u ha3u) nwn)))
  · intro ρ g I av
    obtain ⟨v34u, hr32u, m33u⟩ := av 0 _ rfl (by kernel_rfl)
    refine ddo (up1 rfl hr32u) rfl ?_
    refine s_mv ?_
    exact ⟨_, rfl, (Stp.refl _ _), I, (nwc (pf_sl rfl rfl m33u) nwn)⟩
  · intro ρ g I av
    have hr35u := av 1 _ rfl (by kernel_rfl)
    refine ddo (up1 rfl hr35u) rfl ?_
    refine s_fa f26u0 rfl ?_
    exact ⟨_, rfl, (Stp.refl _ _), I, (nwc (pf_val rfl) nwn)⟩
  · intro ρ g I av
    obtain ⟨L37u, hb38u, hl39u, ha40u⟩ := av 2 _ rfl (by kernel_rfl)
    have hr41u := av 4 _ rfl (by kernel_rfl)
    refine ddo (up1 rfl hr41u) rfl ?_
    refine s_ldS t23 rfl (Blk.cells hb38u) (At.fld ha40u 0 rfl) ?_
    exact ⟨_, rfl, (Stp.refl _ _), I, (nwc (pf_val rfl) nwn)⟩
  · intro ρ g I av
    obtain ⟨v45u, hr43u, m44u⟩ := av 3 _ rfl (by kernel_rfl)
    have hr46u := av 5 _ rfl (by kernel_rfl)
    refine ddo (up1 (up1 rfl hr43u) hr46u) rfl ?_
    refine s_cf I k57 rfl (ref01uNum_ok (zle hZ rfl rfl) (.inl z0) I.l 6202 (zpv rfl) m44u (lent_ hka0 rfl) h8u) no_any fun g50u v48u s51u I p49u => ?_
    exact ⟨_, rfl, s51u, I, (nwc (pf_row rfl rfl p49u) nwn)⟩
  · intro ρ g I av
    have hr52u := av 1 _ rfl (by kernel_rfl)
    refine ddo (up1 rfl hr52u) rfl ?_
    refine s_fa f26u1 rfl ?_
    exact ⟨_, rfl, (Stp.refl _ _), I, (nwc (pf_val rfl) nwn)⟩
  · intro ρ g I av
    obtain ⟨L54u, hb55u, hl56u, ha57u⟩ := av 2 _ rfl (by kernel_rfl)
    have hr58u := av 7 _ rfl (by kernel_rfl)
    refine ddo (up1 rfl hr58u) rfl ?_
    refine s_ldS t3 rfl (Blk.cells hb55u) (At.fld ha57u 1 rfl) ?_
    exact ⟨_, rfl, (Stp.refl _ _), I, (nwc (pf_val rfl) nwn)⟩
  · intro ρ g I av
    have hr60u := av 8 _ rfl (by kernel_rfl)
    refine ddo (up1 rfl hr60u) rfl ?_
    refine s_cvt u3 n5 rfl ?_
    exact ⟨_, rfl, (Stp.refl _ _), I, (nwc (pf_val rfl) nwn)⟩
  · intro ρ g I av
    have hr62u := av 9 _ rfl (by kernel_rfl)
    refine ddo (up1 rfl hr62u) rfl ?_
    refine s_bslK (kd := (kInt .u8)) (xs := ([(IntKind.u8.wrap a1.by_)] : List Int)) 6203 I s32 t5 z5 rfl rfl (by decide) rfl (by decide) (And.intro rfl (trivial)) (Seg.flat (d := (kInt .u8)) (g := g) (alls rfl alle)) rfl (zpv rfl) fun g66u v64u s67u I m65u => ?_
    exact ⟨_, rfl, s67u, I, (nwc (pf_row rfl rfl m65u) nwn)⟩
  · intro ρ g I av
    obtain ⟨v70u, hr68u, m69u⟩ := av 6 _ rfl (by kernel_rfl)
    obtain ⟨v73u, hr71u, m72u⟩ := av 10 _ rfl (by kernel_rfl)
    refine ddo (up1 (up1 rfl hr68u) hr71u) rfl ?_
    refine s_app (kd := (kInt .u8)) I s32 rfl s32 t5 z5 rfl m69u (Sl.rs (Row.sl m72u)) h18u (by decide) (zpv rfl) (zpv rfl) fun g76u v74u s77u I m75u => ?_
    exact ⟨_, rfl, s77u, I, (nwc (pf_row rfl rfl m75u) nwn)⟩
  · intro ρ g I av
    obtain ⟨v80u, hr78u, m79u⟩ := av 11 _ rfl (by kernel_rfl)
    refine ddo (up1 rfl hr78u) rfl ?_
    refine s_as ?_
    exact ⟨_, rfl, (Stp.refl _ _), I, (nwc (pf_row rfl rfl m79u) nwn)⟩
  · intro ρ g I av
    obtain ⟨L23u, hb24u, hl25u, ha26u⟩ := av 2 _ rfl rfl
    obtain ⟨v29u, hr27u, m28u⟩ := av 12 _ rfl rfl
    have hr30u := av 1 _ rfl rfl
    refine ⟨_, (up1 (up1 rfl hr27u) hr30u), ?_⟩
    refine EW.seq ?_
    obtain ⟨r81u, h82u, hF0⟩ := bnd hF0
    obtain ⟨l87u, h88u, hF0⟩ := bnd hF0
    refine EW.drawn [] [⟨SF.row 0 5 (kInt .u8) rfl 6202 l17u, none, some 7⟩, ⟨SF.val 3 (.pointer (some ⟨b1u, 0, none⟩)), none, none⟩, ⟨SF.bx b1u 6201 26 k_ref10uCond rfl a1, none, none⟩, ⟨SF.row 14 5 (kInt .u8) rfl 6202 l17u, some 0, none⟩, ⟨SF.val 15 (.pointer (some ⟨b1u, 0 + 2, none⟩)), some 1, none⟩, ⟨SF.val 16 (.int .u64 a1.amount), some 2, none⟩, ⟨SF.row 17 5 (kInt .u8) rfl 6204 r81u, some 3, some 6⟩, ⟨SF.val 18 (.pointer (some ⟨b1u, 0 + 3, none⟩)), some 4, none⟩, ⟨SF.val 19 (.slice (some ⟨b1u, 0 + 3, none⟩) 32 32), some 5, none⟩, ⟨SF.row 20 5 (kInt .u8) rfl 6204 l87u, some 6, none⟩, ⟨SF.row 0 5 (kInt .u8) rfl 6204 l87u, some 7, none⟩] [(6, at_ 6204)] (by kernel_rfl) (by kernel_rfl) (by kernel_rfl) ?_ I ?_ (dcons ?_ (dcons ?_ (dcons ?_ (dcons ?_ (dcons ?_ (dcons ?_ (dcons ?_ (dcons ?_ dnil)))))))) ?_
    · exact (And.intro (And.intro (Nat.ne_of_beq_eq_false rfl) (And.intro (And.intro (Nat.ne_of_beq_eq_false rfl) trivial) (And.intro trivial (And.intro (And.intro (Nat.ne_of_beq_eq_false rfl) trivial) (And.intro (And.intro (Nat.ne_of_beq_eq_false rfl) trivial) (And.intro trivial (And.intro trivial (And.intro trivial (And.intro trivial (And.intro trivial (And.intro trivial (And.intro trivial trivial)))))))))))) trivial)
    · exact (nwc (pf_row rfl rfl m28u) (nwc (pf_val rfl) (nwc (pf_bx rfl hb24u hl25u ha26u) nwn)))
    · intro ρ g I av
      obtain ⟨v104u, hr102u, m103u⟩ := av 0 _ rfl (by kernel_rfl)
      refine ddo (up1 rfl hr102u) rfl ?_
      refine s_mv ?_
      exact ⟨_, rfl, (Stp.refl _ _), I, (nwc (pf_row rfl rfl m103u) nwn)⟩
    · intro ρ g I av
      have hr105u := av 1 _ rfl (by kernel_rfl)
      refine ddo (up1 rfl hr105u) rfl ?_
      refine s_fa f26u2 rfl ?_
      exact ⟨_, rfl, (Stp.refl _ _), I, (nwc (pf_val rfl) nwn)⟩
    · intro ρ g I av
      obtain ⟨L107u, hb108u, hl109u, ha110u⟩ := av 2 _ rfl (by kernel_rfl)
      have hr111u := av 4 _ rfl (by kernel_rfl)
      refine ddo (up1 rfl hr111u) rfl ?_
      refine s_ldS t23 rfl (Blk.cells hb108u) (At.fld ha110u 2 rfl) ?_
      exact ⟨_, rfl, (Stp.refl _ _), I, (nwc (pf_val rfl) nwn)⟩
    · intro ρ g I av
      obtain ⟨v115u, hr113u, m114u⟩ := av 3 _ rfl (by kernel_rfl)
      have hr116u := av 5 _ rfl (by kernel_rfl)
      refine ddo (up1 (up1 rfl hr113u) hr116u) rfl ?_
      refine s_cf I k57 rfl (ref01uNum_ok (zle hZ rfl rfl) (.inl z0) I.l 6204 (zpv rfl) (Row.sl m114u) (Or.inr (Nat.le_of_ble_eq_true rfl)) h82u) no_any fun g120u v118u s121u I p119u => ?_
      exact ⟨_, rfl, s121u, I, (nwc (pf_row rfl rfl p119u) nwn)⟩
    · intro ρ g I av
      have hr122u := av 1 _ rfl (by kernel_rfl)
      refine ddo (up1 rfl hr122u) rfl ?_
      refine s_fa f26u3 rfl ?_
      exact ⟨_, rfl, (Stp.refl _ _), I, (nwc (pf_val rfl) nwn)⟩
    · intro ρ g I av
      obtain ⟨L124u, hb125u, hl126u, ha127u⟩ := av 2 _ rfl (by kernel_rfl)
      have hr128u := av 7 _ rfl (by kernel_rfl)
      refine ddo (up1 rfl hr128u) rfl ?_
      refine s_slcX ar24 t5 rfl ?_
      exact ⟨_, rfl, (Stp.refl _ _), I, (nwc (pf_val rfl) nwn)⟩
    · intro ρ g I av
      obtain ⟨L130u, hb131u, hl132u, ha133u⟩ := av 2 _ rfl (by kernel_rfl)
      obtain ⟨v136u, hr134u, m135u⟩ := av 6 _ rfl (by kernel_rfl)
      have hr137u := av 8 _ rfl (by kernel_rfl)
      refine ddo (up1 (up1 rfl hr134u) hr137u) rfl ?_
      refine s_app (kd := (kInt .u8)) I s32 rfl s32 t5 z5 rfl m135u (Sl.rs (Sl.arrN (Blk.imm hb131u) (At.fld ha133u 3 rfl) rfl)) h88u (by decide) (zpv rfl) (zpv rfl) fun g141u v139u s142u I m140u => ?_
      exact ⟨_, rfl, s142u, I, (nwc (pf_row rfl rfl m140u) nwn)⟩
    · intro ρ g I av
      obtain ⟨v145u, hr143u, m144u⟩ := av 9 _ rfl (by kernel_rfl)
      refine ddo (up1 rfl hr143u) rfl ?_
      refine s_as ?_
      exact ⟨_, rfl, (Stp.refl _ _), I, (nwc (pf_row rfl rfl m144u) nwn)⟩
    · intro ρ g I av
      obtain ⟨L93u, hb94u, hl95u, ha96u⟩ := av 2 _ rfl rfl
      obtain ⟨v99u, hr97u, m98u⟩ := av 10 _ rfl rfl
      have hr100u := av 1 _ rfl rfl
      refine ⟨_, (up1 (up1 rfl hr97u) hr100u), ?_⟩
      refine EW.seq ?_
      refine EW.region (by kernel_rfl) ?_
      refine EWL.op rfl ?_
      refine s_mv ?_
      refine EWL.op rfl ?_
      refine s_fa f26u4 rfl ?_
      refine EWL.op rfl ?_
      refine s_ldS t23 rfl (Blk.cells hb94u) (At.fld ha96u 4 rfl) ?_
      refine EWL.op rfl ?_
      obtain ⟨r146u, h147u, hF0⟩ := bnd hF0
      refine s_cf I k57 rfl (ref01uNum_ok (zle hZ rfl rfl) (.inl z0) I.l 6205 (zpv rfl) (Row.sl m98u) (Or.inr (Nat.le_of_ble_eq_true rfl)) h147u) no_any fun g150u v148u s151u I p149u => ?_
      refine EWL.op rfl ?_
      refine s_as ?_
      refine EW.ret ?_
      obtain rfl := som hF0
      refine ends1 (.inl rfl)  ?_
      have m152u := Row.rc rfl (by decide) p149u rc0
      have s154u := Stp.rc1 g150u 6205 rc0
      replace I := I.to s154u (Lo.rc (d := rc0) I.l (.inl zrc0)) (at_in (zpv rfl))
      exact ret_ (g := (g150u.rc 6205 (6205 + 1) rc0)) I lo hZ z0 rfl (Row.up rfl (Stp.rc (g150u.rc 6205 (6205 + 1) rc0) 6200 6300 0) fz (iv_z hZ rfl zrc0) m152u)
theorem ref13uOp_ok {g0 : GW} {Z : Nat → Prop} (hZ : ∀ c, Z c → c = 0 ∨ 6400 ≤ c) (z0 : Z 0) (lo : Lo Z g0) (rc0 : Nat) (zrc0 : Z rc0) {a0 : (List Int)} {va0 : Value} {ka0 : Nat} {a1 : ref12uOp} {ca1 : List Value} (ma0 : Sl (kInt .u8) g0 ka0 a0 va0) (hka0 : ka0 = 0 ∨ 6400 ≤ ka0) (ma1 : k_ref12uOp.M g0 0 a1 ca1) {r : (List Int)} (hF0 : ref13uOp a0 a1 = some r) :
    Calls P 37 [va0, .agg ca1.toArray].toArray g0.w (Rets (RR (no) Z g0 ((fun h v => Row 5 (kInt .u8) h rc0 r v)))) := by
  refine calls_of Go.Proofs.Try.func37 rfl (Nat.le_of_ble_eq_true rfl) (by kernel_rfl) ?_
  have I : Inv (or_ (no) (iv 6300 6400)) (or_ Z (iv 6300 6400)) g0 g0 := Inv.start (lo.mono (fun _ h => .inl h))
  have fz : ¬ iv 6300 6400 0 := nz0 rfl
  unfold ref13uOp at hF0
  refine EW.seq ?_
  refine EW.region (by kernel_rfl) ?_
  refine EWL.op rfl ?_
  refine s_boxK (kd := k_ref12uOp) (r := a1) 6301 I (zpv rfl) ma1 rfl rfl fun g5u b1u s6u I hb2u hl4u ha3u => ?_
  refine EWL.op rfl ?_
  refine s_as ?_
  refine EW.seq ?_
  obtain ⟨l11u, h12u, hF0⟩ := bnd hF0
  obtain ⟨l21u, h22u, hF0⟩ := bnd hF0
  refine EW.drawn [] [⟨SF.sl 0 (kInt .u8) rfl ka0 a0, none, some 8⟩, ⟨SF.val 3 (.pointer (some ⟨b1u, 0, none⟩)), none, none⟩, ⟨SF.bx b1u 6301 28 k_ref12uOp rfl a1, none, none⟩, ⟨SF.row 5 5 (kInt .u8) rfl 6302 ([] : List Int), some 0, some 2⟩, ⟨SF.sl 6 (kInt .u8) rfl ka0 a0, some 1, none⟩, ⟨SF.row 7 5 (kInt .u8) rfl 6302 l11u, some 2, some 7⟩, ⟨SF.val 8 (.pointer (some ⟨b1u, 0 + 0, none⟩)), some 3, none⟩, ⟨SF.val 9 (.int .i64 a1.kind), some 4, none⟩, ⟨SF.val 10 (.int .u8 (IntKind.u8.wrap a1.kind)), some 5, none⟩, ⟨SF.row 11 5 (kInt .u8) rfl 6303 ([(IntKind.u8.wrap a1.kind)] : List Int), some 6, none⟩, ⟨SF.row 12 5 (kInt .u8) rfl 6302 l21u, some 7, none⟩, ⟨SF.row 0 5 (kInt .u8) rfl 6302 l21u, some 8, none⟩] [(2, at_ 6302), (7, at_ 6302)] (by kernel_rfl) (by kernel_rfl) (by kernel_rfl) ?_ I ?_ (dcons ?_ (dcons ?_ (dcons ?_ (dcons ?_ (dcons ?_ (dcons ?_ (dcons ?_ (dcons ?_ (dcons ?_ dnil))))))))) ?_
  · exact (And.intro (And.intro (Nat.ne_of_beq_eq_false rfl) (And.intro (And.intro (ne_ld hka0 rfl rfl) trivial) (And.intro trivial (And.intro (And.intro (Nat.ne_of_beq_eq_false rfl) trivial) (And.intro trivial (And.intro (And.intro (ne_ld hka0 rfl rfl) trivial) (And.intro trivial (And.intro trivial (And.intro trivial (And.intro trivial (And.intro (And.intro (Nat.ne_of_beq_eq_false rfl) trivial) (And.intro trivial (And.intro trivial trivial))))))))))))) (And.intro (And.intro (Nat.ne_of_beq_eq_false rfl) (And.intro (And.intro (ne_ld hka0 rfl rfl) trivial) (And.intro trivial (And.intro (And.intro (Nat.ne_of_beq_eq_false rfl) trivial) (And.intro trivial (And.intro (And.intro (ne_ld hka0 rfl rfl) trivial) (And.intro trivial (And.intro trivial (And.intro trivial (And.intro trivial (And.intro (And.intro (Nat.ne_of_beq_eq_false rfl) trivial) (And.intro trivial (And.intro trivial trivial))))))))))))) trivial))
  · exact (nwc (pf_sl rfl rfl (Sl.up rfl s6u no_ no_ ma0)) (nwc (pf_val rfl) (nwc (pf_bx rfl hb2u hl4u ha3u) nwn)))
  · intro ρ g I av
    refine ddo rfl rfl ?_
    refine s_bslK (kd := (kInt .u8)) (xs := ([] : List Int)) 6302 I s32 t5 z5 rfl rfl (by decide) rfl (by decide) (trivial) (Seg.flat (d := (kInt .u8)) (g := g) alle) rfl (zpv rfl) fun g38u v36u s39u I m37u => ?_
    exact ⟨_, rfl, s39u, I, (nwc (pf_row rfl rfl m37u) nwn)⟩
  · intro ρ g I av
    obtain ⟨v42u, hr40u, m41u⟩ := av 0 _ rfl (by kernel_rfl)
    refine ddo (up1 rfl hr40u) rfl ?_
    refine s_mv ?_
    exact ⟨_, rfl, (Stp.refl _ _), I, (nwc (pf_sl rfl rfl m41u) nwn)⟩
  · intro ρ g I av
    obtain ⟨v45u, hr43u, m44u⟩ := av 3 _ rfl (by kernel_rfl)
    obtain ⟨v48u, hr46u, m47u⟩ := av 4 _ rfl (by kernel_rfl)
    refine ddo (up1 (up1 rfl hr43u) hr46u) rfl ?_
    refine s_app (kd := (kInt .u8)) I s32 rfl s32 t5 z5 rfl m44u (Sl.rs m47u) h12u (by decide) (zpv rfl) (zpv rfl) fun g51u v49u s52u I m50u => ?_
    exact ⟨_, rfl, s52u, I, (nwc (pf_row rfl rfl m50u) nwn)⟩
  · intro ρ g I av
    have hr53u := av 1 _ rfl (by kernel_rfl)
    refine ddo (up1 rfl hr53u) rfl ?_
    refine s_fa f28u0 rfl ?_
    exact ⟨_, rfl, (Stp.refl _ _), I, (nwc (pf_val rfl) nwn)⟩
  · intro ρ g I av
    obtain ⟨L55u, hb56u, hl57u, ha58u⟩ := av 2 _ rfl (by kernel_rfl)
    have hr59u := av 6 _ rfl (by kernel_rfl)
    refine ddo (up1 rfl hr59u) rfl ?_
    refine s_ldS t3 rfl (Blk.cells hb56u) (At.fld ha58u 0 rfl) ?_
    exact ⟨_, rfl, (Stp.refl _ _), I, (nwc (pf_val rfl) nwn)⟩
  · intro ρ g I av
    have hr61u := av 7 _ rfl (by kernel_rfl)
    refine ddo (up1 rfl hr61u) rfl ?_
    refine s_cvt u3 n5 rfl ?_
    exact ⟨_, rfl, (Stp.refl _ _), I, (nwc (pf_val rfl) nwn)⟩
  · intro ρ g I av
    have hr63u := av 8 _ rfl (by kernel_rfl)
    refine ddo (up1 rfl hr63u) rfl ?_
    refine s_bslK (kd := (kInt .u8)) (xs := ([(IntKind.u8.wrap a1.kind)] : List Int)) 6303 I s32 t5 z5 rfl rfl (by decide) rfl (by decide) (And.intro rfl (trivial)) (Seg.flat (d := (kInt .u8)) (g := g) (alls rfl alle)) rfl (zpv rfl) fun g67u v65u s68u I m66u => ?_
    exact ⟨_, rfl, s68u, I, (nwc (pf_row rfl rfl m66u) nwn)⟩
  · intro ρ g I av
    obtain ⟨v71u, hr69u, m70u⟩ := av 5 _ rfl (by kernel_rfl)
    obtain ⟨v74u, hr72u, m73u⟩ := av 9 _ rfl (by kernel_rfl)
    refine ddo (up1 (up1 rfl hr69u) hr72u) rfl ?_
    refine s_app (kd := (kInt .u8)) I s32 rfl s32 t5 z5 rfl m70u (Sl.rs (Row.sl m73u)) h22u (by decide) (zpv rfl) (zpv rfl) fun g77u v75u s78u I m76u => ?_
    exact ⟨_, rfl, s78u, I, (nwc (pf_row rfl rfl m76u) nwn)⟩
  · intro ρ g I av
    obtain ⟨v81u, hr79u, m80u⟩ := av 10 _ rfl (by kernel_rfl)
    refine ddo (up1 rfl hr79u) rfl ?_
    refine s_as ?_
    exact ⟨_, rfl, (Stp.refl _ _), I, (nwc (pf_row rfl rfl m80u) nwn)⟩
  · intro ρ g I av
    obtain ⟨L27u, hb28u, hl29u, ha30u⟩ := av 2 _ rfl rfl
    obtain ⟨v33u, hr31u, m32u⟩ := av 11 _ rfl rfl
    have hr34u := av 1 _ rfl rfl
    refine ⟨_, (up1 (up1 rfl hr31u) hr34u), ?_⟩
    refine EW.seq ?_
    obtain ⟨r82u, h83u, hF0⟩ := bnd hF0
    obtain ⟨r88u, h89u, hF0⟩ := bnd hF0
    obtain ⟨r96u, h97u, hF0⟩ := bnd hF0
    refine EW.drawn [] [⟨SF.row 0 5 (kInt .u8) rfl 6302 l21u, none, none⟩, ⟨SF.val 3 (.pointer (some ⟨b1u, 0, none⟩)), none, none⟩, ⟨SF.bx b1u 6301 28 k_ref12uOp rfl a1, none, none⟩, ⟨SF.row 13 5 (kInt .u8) rfl 6302 l21u, some 0, none⟩, ⟨SF.val 14 (.pointer (some ⟨b1u, 0 + 1, none⟩)), some 1, none⟩, ⟨SF.val 15 (.int .u64 a1.amount), some 2, none⟩, ⟨SF.row 16 5 (kInt .u8) rfl 6304 r82u, some 3, none⟩, ⟨SF.val 17 (.pointer (some ⟨b1u, 0 + 38, none⟩)), some 4, none⟩, ⟨SF.val 18 (.int .u64 a1.id), some 5, none⟩, ⟨SF.row 19 5 (kInt .u8) rfl 6305 r88u, some 6, none⟩, ⟨SF.val 20 (.pointer (some ⟨b1u, 0 + 2, none⟩)), some 7, none⟩, ⟨SF.agg 21 k_ref10uCond rfl a1.cond, some 8, none⟩, ⟨SF.row 22 5 (kInt .u8) rfl 6306 r96u, some 9, none⟩, ⟨SF.row 4 5 (kInt .u8) rfl 6306 r96u, some 10, none⟩] [] (by kernel_rfl) (by kernel_rfl) (by kernel_rfl) ?_ I ?_ (dcons ?_ (dcons ?_ (dcons ?_ (dcons ?_ (dcons ?_ (dcons ?_ (dcons ?_ (dcons ?_ (dcons ?_ (dcons ?_ (dcons ?_ dnil))))))))))) ?_
    · exact trivial
    · exact (nwc (pf_row rfl rfl m32u) (nwc (pf_val rfl) (nwc (pf_bx rfl hb28u hl29u ha30u) nwn)))
    · intro ρ g I av
      obtain ⟨v107u, hr105u, m106u⟩ := av 0 _ rfl (by kernel_rfl)
      refine ddo (up1 rfl hr105u) rfl ?_
      refine s_mv ?_
      exact ⟨_, rfl, (Stp.refl _ _), I, (nwc (pf_row rfl rfl m106u) nwn)⟩
    · intro ρ g I av
      have hr108u := av 1 _ rfl (by kernel_rfl)
      refine ddo (up1 rfl hr108u) rfl ?_
      refine s_fa f28u1 rfl ?_
      exact ⟨_, rfl, (Stp.refl _ _), I, (nwc (pf_val rfl) nwn)⟩
    · intro ρ g I av
      obtain ⟨L110u, hb111u, hl112u, ha113u⟩ := av 2 _ rfl (by kernel_rfl)
      have hr114u := av 4 _ rfl (by kernel_rfl)
      refine ddo (up1 rfl hr114u) rfl ?_
      refine s_ldS t23 rfl (Blk.cells hb111u) (At.fld ha113u 1 rfl) ?_
      exact ⟨_, rfl, (Stp.refl _ _), I, (nwc (pf_val rfl) nwn)⟩
    · intro ρ g I av
      obtain ⟨v118u, hr116u, m117u⟩ := av 3 _ rfl (by kernel_rfl)
      have hr119u := av 5 _ rfl (by kernel_rfl)
      refine ddo (up1 (up1 rfl hr116u) hr119u) rfl ?_
      refine s_cf I k57 rfl (ref01uNum_ok (zle hZ rfl rfl) (.inl z0) I.l 6304 (zpv rfl) (Row.sl m117u) (Or.inr (Nat.le_of_ble_eq_true rfl)) h83u) no_any fun g123u v121u s124u I p122u => ?_
      exact ⟨_, rfl, s124u, I, (nwc (pf_row rfl rfl p122u) nwn)⟩
    · intro ρ g I av
      have hr125u := av 1 _ rfl (by kernel_rfl)
      refine ddo (up1 rfl hr125u) rfl ?_
      refine s_fa f28u3 rfl ?_
      exact ⟨_, rfl, (Stp.refl _ _), I, (nwc (pf_val rfl) nwn)⟩
    · intro ρ g I av
      obtain ⟨L127u, hb128u, hl129u, ha130u⟩ := av 2 _ rfl (by kernel_rfl)
      have hr131u := av 7 _ rfl (by kernel_rfl)
      refine ddo (up1 rfl hr131u) rfl ?_
      refine s_ldS t23 rfl (Blk.cells hb128u) (At.fld ha130u 3 rfl) ?_
      exact ⟨_, rfl, (Stp.refl _ _), I, (nwc (pf_val rfl) nwn)⟩
    · intro ρ g I av
      obtain ⟨v135u, hr133u, m134u⟩ := av 6 _ rfl (by kernel_rfl)
      have hr136u := av 8 _ rfl (by kernel_rfl)
      refine ddo (up1 (up1 rfl hr133u) hr136u) rfl ?_
      refine s_cf I k57 rfl (ref01uNum_ok (zle hZ rfl rfl) (.inl z0) I.l 6305 (zpv rfl) (Row.sl m134u) (Or.inr (Nat.le_of_ble_eq_true rfl)) h89u) no_any fun g140u v138u s141u I p139u => ?_
      exact ⟨_, rfl, s141u, I, (nwc (pf_row rfl rfl p139u) nwn)⟩
    · intro ρ g I av
      have hr142u := av 1 _ rfl (by kernel_rfl)
      refine ddo (up1 rfl hr142u) rfl ?_
      refine s_fa f28u2 rfl ?_
      exact ⟨_, rfl, (Stp.refl _ _), I, (nwc (pf_val rfl) nwn)⟩
    · intro ρ g I av
      obtain ⟨L144u, hb145u, hl146u, ha147u⟩ := av 2 _ rfl (by kernel_rfl)
      have hr148u := av 10 _ rfl (by kernel_rfl)
      refine ddo (up1 rfl hr148u) rfl ?_
      refine s_ldK t26 rfl (Blk.cells hb145u) (At.fld ha147u 2 rfl) rfl rfl fun cs150u m151u => ?_
      exact ⟨_, rfl, (Stp.refl _ _), I, (nwc (pf_agg rfl rfl m151u) nwn)⟩
    · intro ρ g I av
      obtain ⟨v154u, hr152u, m153u⟩ := av 9 _ rfl (by kernel_rfl)
      obtain ⟨_, hr155u, m156u⟩ := av 11 _ rfl (by kernel_rfl)
      refine ddo (up1 (up1 rfl hr152u) hr155u) rfl ?_
      refine s_cf I k58 rfl (ref13uCond_ok (zle hZ rfl rfl) (.inl z0) I.l 6306 (zpv rfl) (Row.sl m153u) (Or.inr (Nat.le_of_ble_eq_true rfl)) m156u h97u) no_any fun g159u v157u s160u I p158u => ?_
      exact ⟨_, rfl, s160u, I, (nwc (pf_row rfl rfl p158u) nwn)⟩
    · intro ρ g I av
      obtain ⟨v163u, hr161u, m162u⟩ := av 12 _ rfl (by kernel_rfl)
      refine ddo (up1 rfl hr161u) rfl ?_
      refine s_as ?_
      exact ⟨_, rfl, (Stp.refl _ _), I, (nwc (pf_row rfl rfl m162u) nwn)⟩
    · intro ρ g I av
      obtain ⟨v104u, hr102u, m103u⟩ := av 13 _ rfl rfl
      refine ⟨_, (up1 rfl hr102u), ?_⟩
      refine EW.ret ?_
      obtain rfl := som hF0
      refine ends1 (.inl rfl)  ?_
      have m164u := Row.rc rfl (by decide) m103u rc0
      have s166u := Stp.rc1 g 6306 rc0
      replace I := I.to s166u (Lo.rc (d := rc0) I.l (.inl zrc0)) (at_in (zpv rfl))
      exact ret_ (g := (g.rc 6306 (6306 + 1) rc0)) I lo hZ z0 rfl (Row.up rfl (Stp.rc (g.rc 6306 (6306 + 1) rc0) 6300 6400 0) fz (iv_z hZ rfl zrc0) m164u)
theorem ref20uSave_ok {g0 : GW} {Z : Nat → Prop} (hZ : ∀ c, Z c → c = 0 ∨ 6500 ≤ c) (z0 : Z 0) (lo : Lo Z g0) (rc0 : Nat) (zrc0 : Z rc0) {a0 : (List ref20uWish)} {va0 : Value} {ka0 : Nat} (ma0 : Sl k_ref20uWish g0 ka0 a0 va0) (hka0 : ka0 = 0 ∨ 6500 ≤ ka0) {r : (List Int)} (hF0 : ref20uSave a0 = some r) :
    Calls P 13 [va0].toArray g0.w (Rets (RR (no) Z g0 ((fun h v => Row 5 (kInt .u8) h rc0 r v)))) := by
  refine calls_of Go.Proofs.Try.func13 rfl (Nat.le_of_ble_eq_true rfl) (by kernel_rfl) ?_
  have I : Inv (or_ (no) (iv 6400 6500)) (or_ Z (iv 6400 6500)) g0 g0 := Inv.start (lo.mono (fun _ h => .inl h))
  have fz : ¬ iv 6400 6500 0 := nz0 rfl
  unfold ref20uSave at hF0
  refine EW.seq ?_
  refine EW.region (by kernel_rfl) ?_
  refine EWL.op rfl ?_
  refine s_as ?_
  refine EW.seqJ (fun ρ w => ∃ (g1u : GW) (x3u : (List ref20uWish)) (v4u : Value), w = g1u.w ∧ Inv (or_ (no) (iv 6400 6500)) (or_ Z (iv 6400 6500)) g0 g1u ∧ ref20uSave_j1 x3u = some r ∧ ρ 0 = v4u ∧ Sl k_ref20uWish g1u ka0 x3u v4u) ?_ ?_
  · rintro ρ w ⟨g1u, x3u, v4u, rfl, I, hF0, hr2u, m5u⟩
    refine EW.re (up1 rfl hr2u) ?_
    unfold ref20uSave_j1 at hF0
    refine EW.seq ?_
    refine EW.region (by kernel_rfl) ?_
    refine EWL.op rfl ?_
    refine s_mv ?_
    refine EWL.op rfl ?_
    refine s_lenR (kd := k_ref20uWish) (xs := x3u) s22 rfl (Sl.rs m5u) ?_
    refine EWL.op rfl ?_
    refine s_cvt u3 n5 rfl ?_
    refine EWL.op rfl ?_
    refine s_bslK (kd := (kInt .u8)) (xs := ([(IntKind.u8.wrap (x3u.length : Int))] : List Int)) 6401 I s32 t5 z5 rfl rfl (by decide) rfl (by decide) (And.intro rfl (trivial)) (Seg.flat (d := (kInt .u8)) (g := g1u) (alls rfl alle)) rfl (zpv rfl) fun g8u v6u s9u I m7u => ?_
    refine EWL.op rfl ?_
    refine s_as ?_
    refine EW.seq ?_
    refine EW.seq ?_
    refine EW.region (by kernel_rfl) ?_
    refine EWL.op rfl ?_
    refine s_as ?_
    refine EW.block ?_
    refine EW.loop (b := (ref20uSave_b1 x3u)) (fun (s : ((List Int) × Int)) ρ w => ∃ (g14u : GW) (v16u : Value) (x19u : (List Int)) (v20u : Value) (x23u : Int), w = g14u.w ∧ Inv (or_ (no) (iv 6400 6500)) (or_ Z (iv 6400 6500)) g0 g14u ∧ (x19u, x23u) = s ∧ ρ 0 = v16u ∧ Sl k_ref20uWish g14u ka0 x3u v16u ∧ ρ 3 = v20u ∧ Row 5 (kInt .u8) g14u 6401 x19u v20u ∧ ρ 4 = .int .i64 x23u) hF0 ⟨g8u, _, ([(IntKind.u8.wrap (x3u.length : Int))] : List Int), _, 0, rfl, I, rfl, rfl, (Sl.up rfl s9u no_ no_ m5u), rfl, m7u, rfl⟩ ?_
    · rintro s_ o24u ρ w ⟨g14u, v16u, x19u, v20u, x23u, rfl, I, eo, hr15u, m17u, hr18u, m21u, hr22u⟩ hF1 hr1
      subst eo
      unfold ref20uSave_b1 at hF1
      refine EW.re (up1 (up1 (up1 rfl hr15u) hr18u) hr22u) ?_
      refine EW.seq ?_
      refine EW.seq ?_
      refine EW.region (by kernel_rfl) ?_
      refine EWL.op rfl ?_
      refine s_mv ?_
      refine EWL.op rfl ?_
      refine s_mv ?_
      refine EWL.op rfl ?_
      refine s_lenR (kd := k_ref20uWish) (xs := x3u) s22 rfl (Sl.rs m17u) ?_
      refine EWL.op rfl ?_
      refine s_lss rfl rfl ?_
      refine EW.condS rfl rfl (fun hb25u => ?_) (fun hb25u => ?_)
      · replace hF1 := bif_t hb25u hF1
        refine EW.skip ?_
        refine EW.seq ?_
        refine EW.block ?_
        obtain ⟨x26u, h27u, hF1⟩ := bnd hF1
        obtain ⟨r35u, h36u, hF1⟩ := bnd hF1
        obtain ⟨x41u, h42u, hF1⟩ := bnd hF1
        obtain ⟨r50u, h51u, hF1⟩ := bnd hF1
        refine EW.drawn [] [⟨SF.row 3 5 (kInt .u8) rfl 6401 x19u, none, some 13⟩, ⟨SF.sl 0 k_ref20uWish rfl ka0 x3u, none, none⟩, ⟨SF.val 4 (.int .i64 x23u), none, none⟩, ⟨SF.row 20 5 (kInt .u8) rfl 6401 x19u, some 0, none⟩, ⟨SF.sl 21 k_ref20uWish rfl ka0 x3u, some 1, none⟩, ⟨SF.val 22 (.int .i64 x23u), some 2, none⟩, ⟨SF.ep 23 k_ref20uWish rfl ka0 x26u (fun o => o), some 3, none⟩, ⟨SF.ep 24 k_ref20uWish rfl ka0 x26u (fun o => o + 0), some 4, none⟩, ⟨SF.agg 25 k_ref12uOp rfl x26u.op, some 5, none⟩, ⟨SF.row 26 5 (kInt .u8) rfl 6402 r35u, some 6, none⟩, ⟨SF.sl 27 k_ref20uWish rfl ka0 x3u, some 7, none⟩, ⟨SF.val 28 (.int .i64 x23u), some 8, none⟩, ⟨SF.ep 29 k_ref20uWish rfl ka0 x41u (fun o => o), some 9, none⟩, ⟨SF.ep 30 k_ref20uWish rfl ka0 x41u (fun o => o + 39), some 10, none⟩, ⟨SF.sl 31 k_ref18uHop rfl 0 x41u.trail, some 11, none⟩, ⟨SF.row 32 5 (kInt .u8) rfl 6403 r50u, some 12, none⟩, ⟨SF.row 3 5 (kInt .u8) rfl 6403 r50u, some 13, none⟩] [] (by kernel_rfl) (by kernel_rfl) (by kernel_rfl) ?_ I ?_ (dcons ?_ (dcons ?_ (dcons ?_ (dcons ?_ (dcons ?_ (dcons ?_ (dcons ?_ (dcons ?_ (dcons ?_ (dcons ?_ (dcons ?_ (dcons ?_ (dcons ?_ (dcons ?_ dnil)))))))))))))) ?_
        · exact trivial
        · exact (nwc (pf_row rfl rfl m21u) (nwc (pf_sl rfl rfl m17u) (nwc (pf_val rfl) nwn)))
        · intro ρ g I av
          obtain ⟨v66u, hr64u, m65u⟩ := av 0 _ rfl (by kernel_rfl)
          refine ddo (up1 rfl hr64u) rfl ?_
          refine s_mv ?_
          exact ⟨_, rfl, (Stp.refl _ _), I, (nwc (pf_row rfl rfl m65u) nwn)⟩
        · intro ρ g I av
          obtain ⟨v69u, hr67u, m68u⟩ := av 1 _ rfl (by kernel_rfl)
          refine ddo (up1 rfl hr67u) rfl ?_
          refine s_mv ?_
          exact ⟨_, rfl, (Stp.refl _ _), I, (nwc (pf_sl rfl rfl m68u) nwn)⟩
        · intro ρ g I av
          have hr70u := av 2 _ rfl (by kernel_rfl)
          refine ddo (up1 rfl hr70u) rfl ?_
          refine s_mv ?_
          exact ⟨_, rfl, (Stp.refl _ _), I, (nwc (pf_val rfl) nwn)⟩
        · intro ρ g I av
          obtain ⟨v74u, hr72u, m73u⟩ := av 4 _ rfl (by kernel_rfl)
          have hr75u := av 5 _ rfl (by kernel_rfl)
          refine ddo (up1 (up1 rfl hr72u) hr75u) rfl ?_
          refine s_idxS s22 t31 rfl m73u rfl h27u fun b77u o78u L79u hc80u ha81u => ?_
          exact ⟨_, rfl, (Stp.refl _ _), I, (nwc (pf_ep rfl rfl hc80u ha81u) nwn)⟩
        · intro ρ g I av
          obtain ⟨b84u, o85u, L86u, hr82u, hc87u, ha88u⟩ := av 6 _ rfl (by kernel_rfl)
          refine ddo (up1 rfl hr82u) rfl ?_
          refine s_fa f31u0 rfl ?_
          exact ⟨_, rfl, (Stp.refl _ _), I, (nwc (pf_ep rfl rfl hc87u ha88u) nwn)⟩
        · intro ρ g I av
          obtain ⟨b91u, o92u, L93u, hr89u, hc94u, ha95u⟩ := av 7 _ rfl (by kernel_rfl)
          refine ddo (up1 rfl hr89u) rfl ?_
          refine s_ldK t28 rfl (Imm.cells hc94u) (At.fld ha95u 0 rfl) rfl rfl fun cs96u m97u => ?_
          exact ⟨_, rfl, (Stp.refl _ _), I, (nwc (pf_agg rfl rfl m97u) nwn)⟩
        · intro ρ g I av
          obtain ⟨v100u, hr98u, m99u⟩ := av 3 _ rfl (by kernel_rfl)
          obtain ⟨_, hr101u, m102u⟩ := av 8 _ rfl (by kernel_rfl)
          refine ddo (up1 (up1 rfl hr98u) hr101u) rfl ?_
          refine s_cf I k37 rfl (ref13uOp_ok (zle hZ rfl rfl) (.inl z0) I.l 6402 (zpv rfl) (Row.sl m99u) (Or.inr (Nat.le_of_ble_eq_true rfl)) m102u h36u) no_any fun g105u v103u s106u I p104u => ?_
          exact ⟨_, rfl, s106u, I, (nwc (pf_row rfl rfl p104u) nwn)⟩
        · intro ρ g I av
          obtain ⟨v109u, hr107u, m108u⟩ := av 1 _ rfl (by kernel_rfl)
          refine ddo (up1 rfl hr107u) rfl ?_
          refine s_mv ?_
          exact ⟨_, rfl, (Stp.refl _ _), I, (nwc (pf_sl rfl rfl m108u) nwn)⟩
        · intro ρ g I av
          have hr110u := av 2 _ rfl (by kernel_rfl)
          refine ddo (up1 rfl hr110u) rfl ?_
          refine s_mv ?_
          exact ⟨_, rfl, (Stp.refl _ _), I, (nwc (pf_val rfl) nwn)⟩
        · intro ρ g I av
          obtain ⟨v114u, hr112u, m113u⟩ := av 10 _ rfl (by kernel_rfl)
          have hr115u := av 11 _ rfl (by kernel_rfl)
          refine ddo (up1 (up1 rfl hr112u) hr115u) rfl ?_
          refine s_idxS s22 t31 rfl m113u rfl h42u fun b117u o118u L119u hc120u ha121u => ?_
          exact ⟨_, rfl, (Stp.refl _ _), I, (nwc (pf_ep rfl rfl hc120u ha121u) nwn)⟩
        · intro ρ g I av
          obtain ⟨b124u, o125u, L126u, hr122u, hc127u, ha128u⟩ := av 12 _ rfl (by kernel_rfl)
          refine ddo (up1 rfl hr122u) rfl ?_
          refine s_fa f31u1 rfl ?_
          exact ⟨_, rfl, (Stp.refl _ _), I, (nwc (pf_ep rfl rfl hc127u ha128u) nwn)⟩
        · intro ρ g I av
          obtain ⟨b131u, o132u, L133u, hr129u, hc134u, ha135u⟩ := av 13 _ rfl (by kernel_rfl)
          refine ddo (up1 rfl hr129u) rfl ?_
          refine s_ldSl t29 rfl (Imm.cells hc134u) (At.fld ha135u 1 rfl) fun v136u m137u => ?_
          exact ⟨_, rfl, (Stp.refl _ _), I, (nwc (pf_sl rfl rfl m137u) nwn)⟩
        · intro ρ g I av
          obtain ⟨v140u, hr138u, m139u⟩ := av 9 _ rfl (by kernel_rfl)
          obtain ⟨v143u, hr141u, m142u⟩ := av 14 _ rfl (by kernel_rfl)
          refine ddo (up1 (up1 rfl hr138u) hr141u) rfl ?_
          refine s_cf I k36 rfl (ref18uTrail_ok (zle hZ rfl rfl) (.inl z0) I.l 6403 (zpv rfl) (Row.sl m139u) (Or.inr (Nat.le_of_ble_eq_true rfl)) m142u (Or.inl rfl) h51u) no_any fun g146u v144u s147u I p145u => ?_
          exact ⟨_, rfl, s147u, I, (nwc (pf_row rfl rfl p145u) nwn)⟩
        · intro ρ g I av
          obtain ⟨v150u, hr148u, m149u⟩ := av 15 _ rfl (by kernel_rfl)
          refine ddo (up1 rfl hr148u) rfl ?_
          refine s_as ?_
          exact ⟨_, rfl, (Stp.refl _ _), I, (nwc (pf_row rfl rfl m149u) nwn)⟩
        · intro ρ g I av
          obtain ⟨v58u, hr56u, m57u⟩ := av 1 _ rfl rfl
          obtain ⟨v61u, hr59u, m60u⟩ := av 16 _ rfl rfl
          have hr62u := av 2 _ rfl rfl
          refine ⟨_, (up1 (up1 (up1 rfl hr56u) hr59u) hr62u), ?_⟩
          refine EW.region (by kernel_rfl) ?_
          refine EWL.op rfl ?_
          refine s_mv ?_
          refine EWL.op rfl ?_
          refine s_add rfl rfl ?_
          refine EWL.op rfl ?_
          refine s_as ?_
          have m151u := Row.rc rfl (by decide) m60u 6401
          have s153u := Stp.rc1 g 6403 6401
          replace I := I.to s153u (Lo.rc (d := 6401) I.l (zpv rfl)) (at_in (zpv rfl))
          exact ⟨_, (som hF1).symm, (g.rc 6403 (6403 + 1) 6401), _, r50u, _, (IntKind.i64.wrap (x23u + 1)), rfl, I, rfl, rfl, (Sl.up rfl s153u (Nat.ne_of_beq_eq_false rfl) (ne_ld hka0 rfl rfl) m57u), rfl, m151u, rfl⟩
      · replace hF1 := bif_f hb25u hF1
        refine EW.exit ?_
        have hF0 := out_ hF1 hr1
        refine EW.seq ?_
        refine EW.region (by kernel_rfl) ?_
        refine EWL.op rfl ?_
        refine s_mv ?_
        refine EWL.op rfl ?_
        refine s_as ?_
        refine EW.ret ?_
        obtain rfl := som hF0
        refine ends1 (.inl rfl)  ?_
        have m154u := Row.rc rfl (by decide) m21u rc0
        have s156u := Stp.rc1 g14u 6401 rc0
        replace I := I.to s156u (Lo.rc (d := rc0) I.l (.inl zrc0)) (at_in (zpv rfl))
        exact ret_ (g := (g14u.rc 6401 (6401 + 1) rc0)) I lo hZ z0 rfl (Row.up rfl (Stp.rc (g14u.rc 6401 (6401 + 1) rc0) 6400 6500 0) fz (iv_z hZ rfl zrc0) m154u)
  · refine EW.seq ?_
    refine EW.region (by kernel_rfl) ?_
    refine EWL.op rfl ?_
    refine s_mv ?_
    refine EWL.op rfl ?_
    refine s_lenR (kd := k_ref20uWish) (xs := a0) s22 rfl (Sl.rs ma0) ?_
    refine EWL.op rfl ?_
    refine s_gtr rfl rfl ?_
    refine EW.condS rfl rfl (fun hb157u => ?_) (fun hb157u => ?_)
    · replace hF0 := bif_t hb157u hF0
      refine EW.region (by kernel_rfl) ?_
      refine EWL.op rfl ?_
      refine s_mv ?_
      refine EWL.op rfl ?_
      obtain ⟨l158u, h159u, hF0⟩ := bnd hF0
      refine s_slcH s22 t31 rfl ma0 rfl h159u fun v160u m161u => ?_
      refine EWL.op rfl ?_
      refine s_as ?_
      exact ⟨g0, l158u, _, rfl, I, hF0, rfl, m161u⟩
    · replace hF0 := bif_f hb157u hF0
      refine EW.skip ?_
      exact ⟨g0, a0, _, rfl, I, hF0, rfl, ma0⟩
end Go.Tl
