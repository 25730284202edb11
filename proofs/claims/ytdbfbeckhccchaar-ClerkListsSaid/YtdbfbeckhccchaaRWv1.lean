/- Each Go function does what its pure function says. Written by a program of mine. -/
import Derived.Test.YtdbfbeckhccchaaRTy
import Derived.Test.YtdbfbeckhccchaaRFn
namespace Go.Tl
open Go
set_option linter.unusedVariables false
set_option linter.unusedSimpArgs false
set_option maxRecDepth 100000
set_option maxHeartbeats 0
theorem clerk_Wish_Same_ok {g0 : GW} {Z : Nat → Prop} (hZ : ∀ c, Z c → c = 0 ∨ 200 ≤ c) (z0 : Z 0) (lo : Lo Z g0)  {a0 : clerk_Wish} {ca0 : List Value} {a1 : pact_Op} {ca1 : List Value} (ma0 : k_clerk_Wish.M g0 0 a0 ca0) (ma1 : k_pact_Op.M g0 0 a1 ca1) {r : Bool} (hF0 : clerk_Wish_Same a0 a1 = some r) :
    Calls P 15 [.agg ca0.toArray, .agg ca1.toArray].toArray g0.w (Rets (RR (no) Z g0 (PEq (.bool r)))) := by
  refine calls_of Go.Proofs.Try.func15 rfl (Nat.le_of_ble_eq_true rfl) (by kernel_rfl) ?_
  have I : Inv (or_ (no) (iv 100 200)) (or_ Z (iv 100 200)) g0 g0 := Inv.start (lo.mono (fun _ h => .inl h))
  have fz : ¬ iv 100 200 0 := nz0 rfl
  unfold clerk_Wish_Same at hF0
  refine EW.seq ?_
  refine EW.region (by kernel_rfl) ?_
  refine EWL.op rfl ?_
  refine s_boxK (kd := k_clerk_Wish) (r := a0) 101 I (zpv rfl) ma0 rfl rfl fun g5u b1u s6u I hb2u hl4u ha3u => ?_
  refine EWL.op rfl ?_
  refine s_boxK (kd := k_pact_Op) (r := a1) 102 I (zpv rfl) (Kd.upK rfl s6u no_ ma1) rfl rfl fun g11u b7u s12u I hb8u hl10u ha9u => ?_
  refine EWL.op rfl ?_
  refine s_as ?_
  refine EW.seq ?_
  refine EW.seq ?_
  refine EW.region (by kernel_rfl) ?_
  refine EWL.op rfl ?_
  refine s_fa f42u0 rfl ?_
  refine EWL.op rfl ?_
  refine s_fa f39u0 rfl ?_
  refine EWL.op rfl ?_
  refine s_ldS t3 rfl (Blk.cells (Blk.up s12u no_ hb2u)) (At.fld (At.fld (At.up ha3u s12u no_ nc0) 0 rfl) 0 rfl) ?_
  refine EWL.op rfl ?_
  refine s_eql rfl rfl ?_
  refine EWL.op rfl ?_
  refine s_mv ?_
  rcases Bool.eq_false_or_eq_true (decide (a0.op.kind = 3)) with hb13u | hb13u
  · replace hF0 := bif_t hb13u hF0
    refine EWL.pass (want_of rfl rfl (beq_ hb13u)) ?_
    refine EWL.pass (want_of rfl rfl (beq_ hb13u)) ?_
    refine EWL.pass (want_of rfl rfl (beq_ hb13u)) ?_
    refine EWL.pass (want_of rfl rfl (beq_ hb13u)) ?_
    refine EWL.op rfl ?_
    refine s_pT rfl hb13u ?_
    refine EW.condS rfl rfl (fun hb => ?_) (fun hb => (tf_ rfl hb).elim)
    refine EW.seq ?_
    refine EW.region (by kernel_rfl) ?_
    refine EWL.op rfl ?_
    refine s_fa f39u0 rfl ?_
    refine EWL.op rfl ?_
    refine s_ldS t3 rfl (Blk.cells hb8u) (At.fld ha9u 0 rfl) ?_
    refine EWL.op rfl ?_
    refine s_eql rfl rfl ?_
    refine EWL.op rfl ?_
    refine s_mv ?_
    rcases Bool.eq_false_or_eq_true (decide (a1.kind = 3)) with hb14u | hb14u
    · replace hF0 := bif_t hb14u hF0
      refine EWL.pass (want_of rfl rfl (beq_ hb14u)) ?_
      refine EWL.pass (want_of rfl rfl (beq_ hb14u)) ?_
      refine EWL.pass (want_of rfl rfl (beq_ hb14u)) ?_
      refine EWL.op rfl ?_
      refine s_pT rfl hb14u ?_
      refine EWL.op rfl ?_
      refine s_mv ?_
      refine EWL.op (want_of rfl rfl rfl) ?_
      refine s_fa f39u3 rfl ?_
      refine EWL.op (want_of rfl rfl rfl) ?_
      refine s_ldS t23 rfl (Blk.cells hb8u) (At.fld ha9u 3 rfl) ?_
      refine EWL.op (want_of rfl rfl rfl) ?_
      refine s_fa f42u0 rfl ?_
      refine EWL.op (want_of rfl rfl rfl) ?_
      refine s_fa f39u3 rfl ?_
      refine EWL.op (want_of rfl rfl rfl) ?_
      refine s_ldS t23 rfl (Blk.cells (Blk.up s12u no_ hb2u)) (At.fld (At.fld (At.up ha3u s12u no_ nc0) 0 rfl) 3 rfl) ?_
      refine EWL.op (want_of rfl rfl rfl) ?_
      refine s_eql rfl rfl ?_
      refine EWL.op rfl ?_
      refine s_pT rfl rfl ?_
      refine EWL.op rfl ?_
      refine s_as ?_
      refine EW.ret ?_
      obtain rfl := som hF0
      refine ends1 (.inl rfl)  ?_
      exact ret_ (g := g11u) I lo hZ z0 rfl rfl
    · replace hF0 := bif_f hb14u hF0
      refine EWL.op (want_of rfl rfl (beq_ hb14u)) ?_
      refine s_fa f39u0 rfl ?_
      refine EWL.op (want_of rfl rfl (beq_ hb14u)) ?_
      refine s_ldS t3 rfl (Blk.cells hb8u) (At.fld ha9u 0 rfl) ?_
      refine EWL.op (want_of rfl rfl (beq_ hb14u)) ?_
      refine s_eql rfl rfl ?_
      refine EWL.op rfl ?_
      refine s_pF rfl hb14u ?_
      refine EWL.op rfl ?_
      refine s_mv ?_
      rcases Bool.eq_false_or_eq_true (decide (a1.kind = 4)) with hb15u | hb15u
      · replace hF0 := bif_t hb15u hF0
        refine EWL.op (want_of rfl rfl (beq_ hb15u)) ?_
        refine s_fa f39u3 rfl ?_
        refine EWL.op (want_of rfl rfl (beq_ hb15u)) ?_
        refine s_ldS t23 rfl (Blk.cells hb8u) (At.fld ha9u 3 rfl) ?_
        refine EWL.op (want_of rfl rfl (beq_ hb15u)) ?_
        refine s_fa f42u0 rfl ?_
        refine EWL.op (want_of rfl rfl (beq_ hb15u)) ?_
        refine s_fa f39u3 rfl ?_
        refine EWL.op (want_of rfl rfl (beq_ hb15u)) ?_
        refine s_ldS t23 rfl (Blk.cells (Blk.up s12u no_ hb2u)) (At.fld (At.fld (At.up ha3u s12u no_ nc0) 0 rfl) 3 rfl) ?_
        refine EWL.op (want_of rfl rfl (beq_ hb15u)) ?_
        refine s_eql rfl rfl ?_
        refine EWL.op rfl ?_
        refine s_pT rfl hb15u ?_
        refine EWL.op rfl ?_
        refine s_as ?_
        refine EW.ret ?_
        obtain rfl := som hF0
        refine ends1 (.inl rfl)  ?_
        exact ret_ (g := g11u) I lo hZ z0 rfl rfl
      · replace hF0 := bif_f hb15u hF0
        refine EWL.pass (want_of rfl rfl (beq_ hb15u)) ?_
        refine EWL.pass (want_of rfl rfl (beq_ hb15u)) ?_
        refine EWL.pass (want_of rfl rfl (beq_ hb15u)) ?_
        refine EWL.pass (want_of rfl rfl (beq_ hb15u)) ?_
        refine EWL.pass (want_of rfl rfl (beq_ hb15u)) ?_
        refine EWL.pass (want_of rfl rfl (beq_ hb15u)) ?_
        refine EWL.op rfl ?_
        refine s_pF rfl hb15u ?_
        refine EWL.op rfl ?_
        refine s_as ?_
        refine EW.ret ?_
        obtain rfl := som hF0
        refine ends1 (.inl rfl)  ?_
        exact ret_ (g := g11u) I lo hZ z0 rfl rfl
  · replace hF0 := bif_f hb13u hF0
    refine EWL.op (want_of rfl rfl (beq_ hb13u)) ?_
    refine s_fa f42u0 rfl ?_
    refine EWL.op (want_of rfl rfl (beq_ hb13u)) ?_
    refine s_fa f39u0 rfl ?_
    refine EWL.op (want_of rfl rfl (beq_ hb13u)) ?_
    refine s_ldS t3 rfl (Blk.cells (Blk.up s12u no_ hb2u)) (At.fld (At.fld (At.up ha3u s12u no_ nc0) 0 rfl) 0 rfl) ?_
    refine EWL.op (want_of rfl rfl (beq_ hb13u)) ?_
    refine s_eql rfl rfl ?_
    refine EWL.op rfl ?_
    refine s_pF rfl hb13u ?_
    refine EW.condS rfl rfl (fun hb16u => ?_) (fun hb16u => ?_)
    · replace hF0 := bif_t hb16u hF0
      refine EW.seq ?_
      refine EW.region (by kernel_rfl) ?_
      refine EWL.op rfl ?_
      refine s_fa f39u0 rfl ?_
      refine EWL.op rfl ?_
      refine s_ldS t3 rfl (Blk.cells hb8u) (At.fld ha9u 0 rfl) ?_
      refine EWL.op rfl ?_
      refine s_eql rfl rfl ?_
      refine EWL.op rfl ?_
      refine s_mv ?_
      rcases Bool.eq_false_or_eq_true (decide (a1.kind = 3)) with hb17u | hb17u
      · replace hF0 := bif_t hb17u hF0
        refine EWL.pass (want_of rfl rfl (beq_ hb17u)) ?_
        refine EWL.pass (want_of rfl rfl (beq_ hb17u)) ?_
        refine EWL.pass (want_of rfl rfl (beq_ hb17u)) ?_
        refine EWL.op rfl ?_
        refine s_pT rfl hb17u ?_
        refine EWL.op rfl ?_
        refine s_mv ?_
        refine EWL.op (want_of rfl rfl rfl) ?_
        refine s_fa f39u3 rfl ?_
        refine EWL.op (want_of rfl rfl rfl) ?_
        refine s_ldS t23 rfl (Blk.cells hb8u) (At.fld ha9u 3 rfl) ?_
        refine EWL.op (want_of rfl rfl rfl) ?_
        refine s_fa f42u0 rfl ?_
        refine EWL.op (want_of rfl rfl rfl) ?_
        refine s_fa f39u3 rfl ?_
        refine EWL.op (want_of rfl rfl rfl) ?_
        refine s_ldS t23 rfl (Blk.cells (Blk.up s12u no_ hb2u)) (At.fld (At.fld (At.up ha3u s12u no_ nc0) 0 rfl) 3 rfl) ?_
        refine EWL.op (want_of rfl rfl rfl) ?_
        refine s_eql rfl rfl ?_
        refine EWL.op rfl ?_
        refine s_pT rfl rfl ?_
        refine EWL.op rfl ?_
        refine s_as ?_
        refine EW.ret ?_
        obtain rfl := som hF0
        refine ends1 (.inl rfl)  ?_
        exact ret_ (g := g11u) I lo hZ z0 rfl rfl
      · replace hF0 := bif_f hb17u hF0
        refine EWL.op (want_of rfl rfl (beq_ hb17u)) ?_
        refine s_fa f39u0 rfl ?_
        refine EWL.op (want_of rfl rfl (beq_ hb17u)) ?_
        refine s_ldS t3 rfl (Blk.cells hb8u) (At.fld ha9u 0 rfl) ?_
        refine EWL.op (want_of rfl rfl (beq_ hb17u)) ?_
        refine s_eql rfl rfl ?_
        refine EWL.op rfl ?_
        refine s_pF rfl hb17u ?_
        refine EWL.op rfl ?_
        refine s_mv ?_
        rcases Bool.eq_false_or_eq_true (decide (a1.kind = 4)) with hb18u | hb18u
        · replace hF0 := bif_t hb18u hF0
          refine EWL.op (want_of rfl rfl (beq_ hb18u)) ?_
          refine s_fa f39u3 rfl ?_
          refine EWL.op (want_of rfl rfl (beq_ hb18u)) ?_
          refine s_ldS t23 rfl (Blk.cells hb8u) (At.fld ha9u 3 rfl) ?_
          refine EWL.op (want_of rfl rfl (beq_ hb18u)) ?_
          refine s_fa f42u0 rfl ?_
          refine EWL.op (want_of rfl rfl (beq_ hb18u)) ?_
          refine s_fa f39u3 rfl ?_
          refine EWL.op (want_of rfl rfl (beq_ hb18u)) ?_
          refine s_ldS t23 rfl (Blk.cells (Blk.up s12u no_ hb2u)) (At.fld (At.fld (At.up ha3u s12u no_ nc0) 0 rfl) 3 rfl) ?_
          refine EWL.op (want_of rfl rfl (beq_ hb18u)) ?_
          refine s_eql rfl rfl ?_
          refine EWL.op rfl ?_
          refine s_pT rfl hb18u ?_
          refine EWL.op rfl ?_
          refine s_as ?_
          refine EW.ret ?_
          obtain rfl := som hF0
          refine ends1 (.inl rfl)  ?_
          exact ret_ (g := g11u) I lo hZ z0 rfl rfl
        · replace hF0 := bif_f hb18u hF0
          refine EWL.pass (want_of rfl rfl (beq_ hb18u)) ?_
          refine EWL.pass (want_of rfl rfl (beq_ hb18u)) ?_
          refine EWL.pass (want_of rfl rfl (beq_ hb18u)) ?_
          refine EWL.pass (want_of rfl rfl (beq_ hb18u)) ?_
          refine EWL.pass (want_of rfl rfl (beq_ hb18u)) ?_
          refine EWL.pass (want_of rfl rfl (beq_ hb18u)) ?_
          refine EWL.op rfl ?_
          refine s_pF rfl hb18u ?_
          refine EWL.op rfl ?_
          refine s_as ?_
          refine EW.ret ?_
          obtain rfl := som hF0
          refine ends1 (.inl rfl)  ?_
          exact ret_ (g := g11u) I lo hZ z0 rfl rfl
    · replace hF0 := bif_f hb16u hF0
      refine EW.skip ?_
      refine EW.seq ?_
      refine EW.region (by kernel_rfl) ?_
      refine EWL.op rfl ?_
      refine s_fa f42u0 rfl ?_
      refine EWL.op rfl ?_
      refine s_ldK t39 rfl (Blk.cells (Blk.up s12u no_ hb2u)) (At.fld (At.up ha3u s12u no_ nc0) 0 rfl) rfl rfl fun cs19u m20u => ?_
      refine EWL.op rfl ?_
      refine s_ldK t39 rfl (Blk.cells hb8u) ha9u rfl rfl fun cs21u m22u => ?_
      refine EWL.op rfl ?_
      refine s_eqA E39 rfl (by kernel_rfl) rfl rfl m20u m22u ?_
      refine EWL.op rfl ?_
      refine s_as ?_
      refine EW.ret ?_
      obtain rfl := som hF0
      refine ends1 (.inl rfl)  ?_
      exact ret_ (g := g11u) I lo hZ z0 rfl rfl
theorem slices_Clone_memo_Hop_memo_Hop_ok {g0 : GW} {Z : Nat → Prop} (hZ : ∀ c, Z c → c = 0 ∨ 400 ≤ c) (z0 : Z 0) (lo : Lo Z g0) (rc0 : Nat) (zrc0 : Z rc0) {a0 : (List memo_Hop)} {va0 : Value} {ka0 : Nat} (ma0 : Sl k_memo_Hop g0 ka0 a0 va0) (hka0 : ka0 = 0 ∨ 400 ≤ ka0) {r : (List memo_Hop)} (hF0 : slices_Clone_memo_Hop_memo_Hop a0 = some r) :
    Calls P 38 [va0].toArray g0.w (Rets (RR (no) Z g0 ((fun h v => Row 111 k_memo_Hop h rc0 r v)))) := by
  refine calls_of Go.Proofs.Try.func38 rfl (Nat.le_of_ble_eq_true rfl) (by kernel_rfl) ?_
  have I : Inv (or_ (no) (iv 300 400)) (or_ Z (iv 300 400)) g0 g0 := Inv.start (lo.mono (fun _ h => .inl h))
  have fz : ¬ iv 300 400 0 := nz0 rfl
  unfold slices_Clone_memo_Hop_memo_Hop at hF0
  refine EW.seq ?_
  refine EW.region (by kernel_rfl) ?_
  refine EWL.op rfl ?_
  refine s_as ?_
  refine EW.seq ?_
  refine EW.seq ?_
  refine EW.region (by kernel_rfl) ?_
  refine EWL.op rfl ?_
  refine s_mv ?_
  refine EWL.op rfl ?_
  refine s_slNil s40 ma0 rfl fun nb1u hn2u => ?_
  refine EW.condS rfl rfl (fun hb3u => ?_) (fun hb3u => ?_)
  · obtain rfl := hn2u hb3u
    replace hF0 : ((some ([]))) = some r := hF0
    refine EW.seq ?_
    refine EW.region (by kernel_rfl) ?_
    refine EWL.op rfl ?_
    refine s_as ?_
    refine EW.ret ?_
    obtain rfl := som hF0
    refine ends1 (.inl rfl)  ?_
    exact ret_ (g := g0) I lo hZ z0 rfl Row.none
  · refine EW.skip ?_
    refine EW.seq ?_
    refine EW.region (by kernel_rfl) ?_
    refine EWL.op rfl ?_
    refine s_bslK (kd := k_memo_Hop) (xs := ([] : List memo_Hop)) 301 I s40 t111 z111 rfl rfl (by decide) rfl (by decide) (trivial) (Seg.flat (d := k_memo_Hop) (g := g0) alle) rfl (zpv rfl) fun g6u v4u s7u I m5u => ?_
    refine EWL.op rfl ?_
    refine s_mv ?_
    refine EWL.op rfl ?_
    obtain ⟨l8u, h9u, hF0⟩ := bnd hF0
    refine s_app (kd := k_memo_Hop) I s40 rfl s40 t111 z111 rfl m5u (Sl.rs (Sl.up rfl s7u no_ no_ ma0)) h9u (by decide) (zpv rfl) (zpv rfl) fun g12u v10u s13u I m11u => ?_
    refine EWL.op rfl ?_
    refine s_as ?_
    refine EW.ret ?_
    obtain rfl := som hF0
    refine ends1 (.inl rfl)  ?_
    have m14u := Row.rc rfl (by decide) m11u rc0
    have s16u := Stp.rc1 g12u 301 rc0
    replace I := I.to s16u (Lo.rc (d := rc0) I.l (.inl zrc0)) (at_in (zpv rfl))
    exact ret_ (g := (g12u.rc 301 (301 + 1) rc0)) I lo hZ z0 rfl (Row.up rfl (Stp.rc (g12u.rc 301 (301 + 1) rc0) 300 400 0) fz (iv_z hZ rfl zrc0) m14u)
theorem clerk_Wish_Twin_ok {g0 : GW} {Z : Nat → Prop} (hZ : ∀ c, Z c → c = 0 ∨ 500 ≤ c) (z0 : Z 0) (lo : Lo Z g0)  {a0 : clerk_Wish} {ca0 : List Value} (ma0 : k_clerk_Wish.M g0 0 a0 ca0) {r : clerk_Wish} (hF0 : clerk_Wish_Twin a0 = some r) :
    Calls P 14 [.agg ca0.toArray].toArray g0.w (Rets (RR (no) Z g0 (PAg k_clerk_Wish r))) := by
  refine calls_of Go.Proofs.Try.func14 rfl (Nat.le_of_ble_eq_true rfl) (by kernel_rfl) ?_
  have I : Inv (or_ (no) (iv 400 500)) (or_ Z (iv 400 500)) g0 g0 := Inv.start (lo.mono (fun _ h => .inl h))
  have fz : ¬ iv 400 500 0 := nz0 rfl
  unfold clerk_Wish_Twin at hF0
  refine EW.seq ?_
  refine EW.region (by kernel_rfl) ?_
  refine EWL.op rfl ?_
  refine s_boxK (kd := k_clerk_Wish) (r := a0) 401 I (zpv rfl) ma0 rfl rfl fun g5u b1u s6u I hb2u hl4u ha3u => ?_
  refine EWL.op rfl ?_
  refine s_newK k_clerk_Wish 402 I (zpv rfl) z42 rfl fun g12u b7u L11u s13u I hb8u hl10u ha9u => ?_
  refine EW.seq ?_
  refine EW.region (by kernel_rfl) ?_
  refine EWL.op rfl ?_
  refine s_fa f42u1 rfl ?_
  refine EWL.op rfl ?_
  refine s_ldSl t40 rfl (Blk.cells (Blk.up s13u no_ hb2u)) (At.fld (At.up ha3u s13u no_ nc0) 1 rfl) fun v14u m15u => ?_
  refine EWL.op rfl ?_
  obtain ⟨r16u, h17u, hF0⟩ := bnd hF0
  refine s_cf I k38 rfl (slices_Clone_memo_Hop_memo_Hop_ok (zle hZ rfl rfl) (.inl z0) I.l 403 (zpv rfl) m15u (Or.inl rfl) h17u) no_any fun g20u v18u s21u I p19u => ?_
  refine EWL.op rfl ?_
  refine s_fa f42u1 rfl ?_
  refine EWL.opn rfl ?_
  have m22u := Row.rc rfl (by decide) p19u 0
  have s24u := Stp.rc1 g20u 403 0
  replace I := I.to s24u (Lo.rc (d := 0) I.l (.inl z0)) (at_in (zpv rfl))
  obtain ⟨g23u, rc_⟩ : ∃ q, q = g20u.rc 403 (403 + 1) 0 := ⟨_, rfl⟩
  rw [← rc_] at m22u s24u I
  refine stp.wld (w := g23u.w) (by rw [rc_]; rfl) ?_
  clear rc_
  have m25u : (kSl k_memo_Hop rfl).M g23u 0 r16u _ := (Sl.kdv rfl (Row.sl m22u))
  refine s_stK (kd := (kSl k_memo_Hop rfl)) I t40 rfl rfl m25u rfl (Blk.up s24u (Nat.ne_of_beq_eq_false rfl) (Blk.up s21u no_ (Blk.up s13u no_ hb2u))) (ble_ hl4u rfl) (by decide) nc0 (zpv rfl) fun g26u L28u s27u I hb29u hu30u hn31u => ?_
  have ha32u := (At.setF (At.up (At.up (At.up (At.up ha3u s13u no_ nc0) s21u no_ nc0) s24u (Nat.ne_of_beq_eq_false rfl) nc0) s27u (Nat.ne_of_beq_eq_false rfl) nc0) 1 rfl (S42u1 _ _) hu30u (by decide) (by decide) hn31u)
  have hl33u := hu30u.1.trans hl4u
  refine EW.seq ?_
  refine EW.region (by kernel_rfl) ?_
  refine EWL.op rfl ?_
  refine s_ldK t42 rfl (Blk.cells hb29u) ha32u rfl rfl fun cs34u m35u => ?_
  refine EWL.opn rfl ?_
  have m36u : k_clerk_Wish.M g26u 0 { a0 with trail := r16u } _ := m35u
  refine s_stK (kd := k_clerk_Wish) I t42 rfl rfl m36u rfl (Blk.up s27u (Nat.ne_of_beq_eq_false rfl) (Blk.up s24u (Nat.ne_of_beq_eq_false rfl) (Blk.up s21u no_ hb8u))) (ble_ hl10u rfl) (by decide) nc0 (zpv rfl) fun g37u L39u s38u I hb40u hu41u hn42u => ?_
  have ha43u := hn42u
  have hl44u := hu41u.1.trans hl10u
  refine EW.ret ?_
  obtain rfl := som hF0
  refine endsC (.inl rfl) rfl (run_lvA t42 (Blk.cells hb40u) (At.fits ha43u (by decide))) ?_
  exact ret_ (g := g37u) I lo hZ z0 rfl ⟨_, rfl, Kd.upK rfl (Stp.rc g37u 400 500 0) fz ha43u⟩
theorem slices_Clone_clerk_Wish_clerk_Wish_ok {g0 : GW} {Z : Nat → Prop} (hZ : ∀ c, Z c → c = 0 ∨ 800 ≤ c) (z0 : Z 0) (lo : Lo Z g0) (rc0 : Nat) (zrc0 : Z rc0) {a0 : (List clerk_Wish)} {va0 : Value} {ka0 : Nat} (ma0 : Sl k_clerk_Wish g0 ka0 a0 va0) (hka0 : ka0 = 0 ∨ 800 ≤ ka0) {r : (List clerk_Wish)} (hF0 : slices_Clone_clerk_Wish_clerk_Wish a0 = some r) :
    Calls P 32 [va0].toArray g0.w (Rets (RR (no) Z g0 ((fun h v => Row 42 k_clerk_Wish h rc0 r v)))) := by
  refine calls_of Go.Proofs.Try.func32 rfl (Nat.le_of_ble_eq_true rfl) (by kernel_rfl) ?_
  have I : Inv (or_ (no) (iv 700 800)) (or_ Z (iv 700 800)) g0 g0 := Inv.start (lo.mono (fun _ h => .inl h))
  have fz : ¬ iv 700 800 0 := nz0 rfl
  unfold slices_Clone_clerk_Wish_clerk_Wish at hF0
  refine EW.seq ?_
  refine EW.region (by kernel_rfl) ?_
  refine EWL.op rfl ?_
  refine s_as ?_
  refine EW.seq ?_
  refine EW.seq ?_
  refine EW.region (by kernel_rfl) ?_
  refine EWL.op rfl ?_
  refine s_mv ?_
  refine EWL.op rfl ?_
  refine s_slNil s43 ma0 rfl fun nb1u hn2u => ?_
  refine EW.condS rfl rfl (fun hb3u => ?_) (fun hb3u => ?_)
  · obtain rfl := hn2u hb3u
    replace hF0 : ((some ([]))) = some r := hF0
    refine EW.seq ?_
    refine EW.region (by kernel_rfl) ?_
    refine EWL.op rfl ?_
    refine s_as ?_
    refine EW.ret ?_
    obtain rfl := som hF0
    refine ends1 (.inl rfl)  ?_
    exact ret_ (g := g0) I lo hZ z0 rfl Row.none
  · refine EW.skip ?_
    refine EW.seq ?_
    refine EW.region (by kernel_rfl) ?_
    refine EWL.op rfl ?_
    refine s_bslK (kd := k_clerk_Wish) (xs := ([] : List clerk_Wish)) 701 I s43 t42 z42 rfl rfl (by decide) rfl (by decide) (trivial) (Seg.flat (d := k_clerk_Wish) (g := g0) alle) rfl (zpv rfl) fun g6u v4u s7u I m5u => ?_
    refine EWL.op rfl ?_
    refine s_mv ?_
    refine EWL.op rfl ?_
    obtain ⟨l8u, h9u, hF0⟩ := bnd hF0
    refine s_app (kd := k_clerk_Wish) I s43 rfl s43 t42 z42 rfl m5u (Sl.rs (Sl.up rfl s7u no_ no_ ma0)) h9u (by decide) (zpv rfl) (zpv rfl) fun g12u v10u s13u I m11u => ?_
    refine EWL.op rfl ?_
    refine s_as ?_
    refine EW.ret ?_
    obtain rfl := som hF0
    refine ends1 (.inl rfl)  ?_
    have m14u := Row.rc rfl (by decide) m11u rc0
    have s16u := Stp.rc1 g12u 701 rc0
    replace I := I.to s16u (Lo.rc (d := rc0) I.l (.inl zrc0)) (at_in (zpv rfl))
    exact ret_ (g := (g12u.rc 701 (701 + 1) rc0)) I lo hZ z0 rfl (Row.up rfl (Stp.rc (g12u.rc 701 (701 + 1) rc0) 700 800 0) fz (iv_z hZ rfl zrc0) m14u)
theorem clerk_Add_1uok {g0 : GW} {Z : Nat → Prop} (hZ : ∀ c, Z c → c = 0 ∨ 300 ≤ c) (z0 : Z 0) (lo : Lo Z g0)  {a0 : clerk_Wish} {ca0 : List Value} {a1 : clerk_Wish} {La1 : List Value} {ba1 i1 : Nat} (ma0 : k_clerk_Wish.M g0 0 a0 ca0) (hba1 : Blk g0 ba1 i1 42 La1) (hla1 : La1.length = k_clerk_Wish.sz) (ma1 : At k_clerk_Wish g0 0 a1 La1 0) (hi1 : 300 ≤ i1) (zi1 : Z i1) {r : Bool} (hF0 : clerk_Add_1 a0 a1 = some r) :
    Calls P 31 [.agg ca0.toArray, .pointer (some ⟨ba1, 0, none⟩)].toArray g0.w (Rets (RR (no) Z g0 (PEq (.bool r)))) := by
  refine calls_of Go.Proofs.Try.func31 rfl (Nat.le_of_ble_eq_true rfl) (by kernel_rfl) ?_
  have I : Inv (or_ (no) (iv 200 300)) (or_ Z (iv 200 300)) g0 g0 := Inv.start (lo.mono (fun _ h => .inl h))
  have fz : ¬ iv 200 300 0 := nz0 rfl
  unfold clerk_Add_1 at hF0
  refine EW.seq ?_
  refine EW.region (by kernel_rfl) ?_
  refine EWL.op rfl ?_
  refine s_boxK (kd := k_clerk_Wish) (r := a0) 201 I (zpv rfl) ma0 rfl rfl fun g5u b1u s6u I hb2u hl4u ha3u => ?_
  refine EWL.op rfl ?_
  refine s_as ?_
  refine EW.seq ?_
  refine EW.region (by kernel_rfl) ?_
  refine EWL.op rfl ?_
  refine s_ldK t42 rfl (Blk.cells hb2u) ha3u rfl rfl fun cs7u m8u => ?_
  refine EWL.op rfl ?_
  refine s_fa f42u0 rfl ?_
  refine EWL.op rfl ?_
  refine s_ldK t39 rfl (Blk.cells (Blk.up s6u no_ hba1)) (At.fld (At.up ma1 s6u no_ nc0) 0 rfl) rfl rfl fun cs9u m10u => ?_
  refine EWL.op rfl ?_
  obtain ⟨r11u, h12u, hF0⟩ := bnd hF0
  refine s_cf I k15 rfl (clerk_Wish_Same_ok (zle hZ rfl rfl) (.inl z0) I.l m8u m10u h12u) no_any fun g15u v13u s16u I p14u => ?_
  obtain rfl := p14u
  refine EWL.op rfl ?_
  refine s_as ?_
  refine EW.ret ?_
  obtain rfl := som hF0
  refine ends1 (.inl rfl)  ?_
  exact ret_ (g := g15u) I lo hZ z0 rfl rfl
theorem slices_IndexFunc_clerk_Wish_clerk_Wish_c31uok {g0 : GW} {Z : Nat → Prop} (hZ : ∀ c, Z c → c = 0 ∨ 600 ≤ c) (z0 : Z 0) (lo : Lo Z g0)  {a0 : (List clerk_Wish)} {va0 : Value} {ka0 : Nat} {a1q0 : clerk_Wish} {La1q0 : List Value} {ba1q0 i1q0 : Nat} (ma0 : Sl k_clerk_Wish g0 ka0 a0 va0) (hka0 : ka0 = 0 ∨ 600 ≤ ka0) (hba1q0 : Blk g0 ba1q0 i1q0 42 La1q0) (hla1q0 : La1q0.length = k_clerk_Wish.sz) (ma1q0 : At k_clerk_Wish g0 0 a1q0 La1q0 0) (hi1q0 : 600 ≤ i1q0) (zi1q0 : Z i1q0) {r : Int} (hF0 : slices_IndexFunc_clerk_Wish_clerk_Wish_c31 a0 a1q0 = some r) :
    Calls P 53 [va0, (.func (.func 31) #[] #[.pointer (some ⟨ba1q0, 0, none⟩)])].toArray g0.w (Rets (RR (no) Z g0 (PEq (.int .i64 r)))) := by
  refine calls_of Go.Proofs.Try.func53 rfl (Nat.le_of_ble_eq_true rfl) (by kernel_rfl) ?_
  have I : Inv (or_ (no) (iv 500 600)) (or_ Z (iv 500 600)) g0 g0 := Inv.start (lo.mono (fun _ h => .inl h))
  have fz : ¬ iv 500 600 0 := nz0 rfl
  unfold slices_IndexFunc_clerk_Wish_clerk_Wish_c31 at hF0
  refine EW.seq ?_
  refine EW.region (by kernel_rfl) ?_
  refine EWL.op rfl ?_
  refine s_as ?_
  refine EW.seq ?_
  refine EW.seq ?_
  refine EW.region (by kernel_rfl) ?_
  refine EWL.op rfl ?_
  refine s_mv ?_
  refine EWL.op rfl ?_
  refine s_lenR (kd := k_clerk_Wish) (xs := a0) s43 rfl (Sl.rs ma0) ?_
  refine EWL.op rfl ?_
  refine s_mv ?_
  refine EW.block ?_
  refine EW.loop (b := (slices_IndexFunc_clerk_Wish_clerk_Wish_c31ub1 a0 a1q0)) (fun (s : Int) ρ w => ∃ (g3u : GW) (v5u : Value) (x10u : Int) (L12u : List Value), w = g3u.w ∧ Inv (or_ (no) (iv 500 600)) (or_ Z (iv 500 600)) g0 g3u ∧ x10u = s ∧ ρ 0 = v5u ∧ Sl k_clerk_Wish g3u ka0 a0 v5u ∧ ρ 1 = .func (.func 31) #[] #[.pointer (some ⟨ba1q0, 0, none⟩)] ∧ ρ 7 = .int .i64 (a0.length : Int) ∧ ρ 8 = .int .i64 x10u ∧ Blk g3u ba1q0 i1q0 42 L12u ∧ L12u.length = 40 ∧ At k_clerk_Wish g3u 0 a1q0 L12u 0) hF0 ⟨g0, _, 0, _, rfl, I, rfl, rfl, ma0, rfl, rfl, rfl, hba1q0, hla1q0, ma1q0⟩ ?_
  · rintro s_ o16u ρ w ⟨g3u, v5u, x10u, L12u, rfl, I, eo, hr4u, m6u, hr7u, hr8u, hr9u, hb13u, hl15u, ha14u⟩ hF1 hr1
    subst eo
    unfold slices_IndexFunc_clerk_Wish_clerk_Wish_c31ub1 at hF1
    refine EW.re (up1 (up1 (up1 (up1 rfl hr4u) hr7u) hr8u) hr9u) ?_
    refine EW.seq ?_
    refine EW.region (by kernel_rfl) ?_
    refine EWL.op rfl ?_
    refine s_lss rfl rfl ?_
    refine EW.seq ?_
    refine EW.condS rfl rfl (fun hb17u => ?_) (fun hb17u => ?_)
    · replace hF1 := bif_t hb17u hF1
      refine EW.skip ?_
      refine EW.seq ?_
      refine EW.block ?_
      refine EW.seq ?_
      refine EW.region (by kernel_rfl) ?_
      refine EWL.op rfl ?_
      refine s_mv ?_
      refine EWL.op rfl ?_
      refine s_as ?_
      refine EW.seq ?_
      refine EW.region (by kernel_rfl) ?_
      refine EWL.op rfl ?_
      refine s_mv ?_
      refine EWL.op rfl ?_
      refine s_mv ?_
      refine EWL.op rfl ?_
      refine s_mv ?_
      refine EWL.op rfl ?_
      obtain ⟨x18u, h19u, hF1⟩ := bnd hF1
      refine s_idxS s43 t42 rfl m6u rfl h19u fun b20u o21u L22u hc23u ha24u => ?_
      refine EWL.op rfl ?_
      refine s_ldK t42 rfl (Imm.cells hc23u) ha24u rfl rfl fun cs25u m26u => ?_
      refine EWL.op rfl ?_
      obtain ⟨r27u, h28u, hF1⟩ := bnd hF1
      refine s_cv I rfl k31 rfl (clerk_Add_1uok (zle hZ rfl rfl) (.inl z0) I.l m26u hb13u hl15u ha14u (le_b rfl hi1q0) (.inl zi1q0) h28u) no_any fun g31u v29u s32u I p30u => ?_
      obtain rfl := p30u
      refine EW.condS rfl rfl (fun hb33u => ?_) (fun hb33u => ?_)
      · replace hF1 := bif_t hb33u hF1
        refine EW.seq ?_
        refine EW.region (by kernel_rfl) ?_
        refine EWL.op rfl ?_
        refine s_mv ?_
        refine EWL.op rfl ?_
        refine s_as ?_
        refine EW.ret ?_
        have hF0 := out_ hF1 hr1
        obtain rfl := som hF0
        refine ends1 (.inl rfl)  ?_
        exact ret_ (g := g31u) I lo hZ z0 rfl rfl
      · replace hF1 := bif_f hb33u hF1
        refine EW.skip ?_
        refine EW.region (by kernel_rfl) ?_
        refine EWL.op rfl ?_
        refine s_add rfl rfl ?_
        refine EWL.op rfl ?_
        refine s_mv ?_
        exact ⟨_, (som hF1).symm, g31u, _, (IntKind.i64.wrap (x10u + 1)), _, rfl, I, rfl, rfl, (Sl.up rfl s32u no_ no_ m6u), rfl, rfl, rfl, (Blk.up s32u no_ hb13u), hl15u, (At.up ha14u s32u no_ nc0)⟩
    · replace hF1 := bif_f hb17u hF1
      refine EW.exit ?_
      have hF0 := out_ hF1 hr1
      refine EW.seq ?_
      refine EW.region (by kernel_rfl) ?_
      refine EWL.op rfl ?_
      refine s_as ?_
      refine EW.ret ?_
      obtain rfl := som hF0
      refine ends1 (.inl rfl)  ?_
      exact ret_ (g := g3u) I lo hZ z0 rfl rfl
theorem slices_ContainsFunc_clerk_Wish_clerk_Wish_c31uok {g0 : GW} {Z : Nat → Prop} (hZ : ∀ c, Z c → c = 0 ∨ 700 ≤ c) (z0 : Z 0) (lo : Lo Z g0)  {a0 : (List clerk_Wish)} {va0 : Value} {ka0 : Nat} {a1q0 : clerk_Wish} {La1q0 : List Value} {ba1q0 i1q0 : Nat} (ma0 : Sl k_clerk_Wish g0 ka0 a0 va0) (hka0 : ka0 = 0 ∨ 700 ≤ ka0) (hba1q0 : Blk g0 ba1q0 i1q0 42 La1q0) (hla1q0 : La1q0.length = k_clerk_Wish.sz) (ma1q0 : At k_clerk_Wish g0 0 a1q0 La1q0 0) (hi1q0 : 700 ≤ i1q0) (zi1q0 : Z i1q0) {r : Bool} (hF0 : slices_ContainsFunc_clerk_Wish_clerk_Wish_c31 a0 a1q0 = some r) :
    Calls P 30 [va0, (.func (.func 31) #[] #[.pointer (some ⟨ba1q0, 0, none⟩)])].toArray g0.w (Rets (RR (no) Z g0 (PEq (.bool r)))) := by
  refine calls_of Go.Proofs.Try.func30 rfl (Nat.le_of_ble_eq_true rfl) (by kernel_rfl) ?_
  have I : Inv (or_ (no) (iv 600 700)) (or_ Z (iv 600 700)) g0 g0 := Inv.start (lo.mono (fun _ h => .inl h))
  have fz : ¬ iv 600 700 0 := nz0 rfl
  unfold slices_ContainsFunc_clerk_Wish_clerk_Wish_c31 at hF0
  refine EW.seq ?_
  refine EW.region (by kernel_rfl) ?_
  refine EWL.op rfl ?_
  refine s_as ?_
  refine EW.seq ?_
  refine EW.region (by kernel_rfl) ?_
  refine EWL.op rfl ?_
  refine s_mv ?_
  refine EWL.op rfl ?_
  refine s_mv ?_
  refine EWL.op rfl ?_
  obtain ⟨r1u, h2u, hF0⟩ := bnd hF0
  refine s_cf I k53 rfl (slices_IndexFunc_clerk_Wish_clerk_Wish_c31uok (zle hZ rfl rfl) (.inl z0) I.l ma0 (lent_ hka0 rfl) hba1q0 hla1q0 ma1q0 (le_b rfl hi1q0) (.inl zi1q0) h2u) no_any fun g5u v3u s6u I p4u => ?_
  obtain rfl := p4u
  refine EWL.op rfl ?_
  refine s_geq rfl rfl ?_
  refine EWL.op rfl ?_
  refine s_as ?_
  refine EW.ret ?_
  obtain rfl := som hF0
  refine ends1 (.inl rfl)  ?_
  exact ret_ (g := g5u) I lo hZ z0 rfl rfl
theorem clerk_Add_ok {g0 : GW} {Z : Nat → Prop} (hZ : ∀ c, Z c → c = 0 ∨ 900 ≤ c) (z0 : Z 0) (lo : Lo Z g0)  {a0 : (List clerk_Wish)} {va0 : Value} {a1 : clerk_Wish} {ca1 : List Value} (ma0 : Sl k_clerk_Wish g0 0 a0 va0) (ma1 : k_clerk_Wish.M g0 0 a1 ca1) {r : (List clerk_Wish)} (hF0 : clerk_Add a0 a1 = some r) :
    Calls P 10 [va0, .agg ca1.toArray].toArray g0.w (Rets (RR (no) Z g0 ((fun h v => Sl k_clerk_Wish h 0 r v)))) := by
  refine calls_of Go.Proofs.Try.func10 rfl (Nat.le_of_ble_eq_true rfl) (by kernel_rfl) ?_
  have I : Inv (or_ (no) (iv 800 900)) (or_ Z (iv 800 900)) g0 g0 := Inv.start (lo.mono (fun _ h => .inl h))
  have fz : ¬ iv 800 900 0 := nz0 rfl
  unfold clerk_Add at hF0
  refine EW.seq ?_
  refine EW.region (by kernel_rfl) ?_
  refine EWL.op rfl ?_
  refine s_boxK (kd := k_clerk_Wish) (r := a1) 801 I (zpv rfl) ma1 rfl rfl fun g5u b1u s6u I hb2u hl4u ha3u => ?_
  refine EWL.op rfl ?_
  refine s_as ?_
  refine EW.seq ?_
  refine EW.seq ?_
  refine EW.region (by kernel_rfl) ?_
  refine EWL.op rfl ?_
  refine s_mv ?_
  refine EWL.op rfl ?_
  refine s_mkf rfl ?_
  refine EWL.op rfl ?_
  obtain ⟨r7u, h8u, hF0⟩ := bnd hF0
  refine s_cf I k30 rfl (slices_ContainsFunc_clerk_Wish_clerk_Wish_c31uok (zle hZ rfl rfl) (.inl z0) I.l (Sl.up rfl s6u no_ no_ ma0) (Or.inl rfl) hb2u hl4u ha3u (Nat.le_of_ble_eq_true rfl) (zpv rfl) h8u) no_any fun g11u v9u s12u I p10u => ?_
  obtain rfl := p10u
  refine EW.condS rfl rfl (fun hb13u => ?_) (fun hb13u => ?_)
  · replace hF0 := bif_t hb13u hF0
    refine EW.seq ?_
    refine EW.region (by kernel_rfl) ?_
    refine EWL.op rfl ?_
    refine s_mv ?_
    refine EWL.op rfl ?_
    refine s_as ?_
    refine EW.ret ?_
    obtain rfl := som hF0
    refine ends1 (.inl rfl)  ?_
    exact ret_ (g := g11u) I lo hZ z0 rfl (Sl.up rfl (Stp.rc g11u 800 900 0) fz fz (Sl.up rfl s12u no_ no_ (Sl.up rfl s6u no_ no_ ma0)))
  · replace hF0 := bif_f hb13u hF0
    refine EW.skip ?_
    refine EW.seq ?_
    obtain ⟨r14u, h15u, hF0⟩ := bnd hF0
    obtain ⟨r22u, h23u, hF0⟩ := bnd hF0
    obtain ⟨l34u, h35u, hF0⟩ := bnd hF0
    refine EW.drawn [] [⟨SF.sl 0 k_clerk_Wish rfl 0 a0, none, none⟩, ⟨SF.val 3 (.pointer (some ⟨b1u, 0, none⟩)), none, none⟩, ⟨SF.bx b1u 801 42 k_clerk_Wish rfl a1, none, none⟩, ⟨SF.sl 9 k_clerk_Wish rfl 0 a0, some 0, none⟩, ⟨SF.row 10 42 k_clerk_Wish rfl 802 r14u, some 1, some 5⟩, ⟨SF.agg 11 k_clerk_Wish rfl a1, some 2, none⟩, ⟨SF.agg 12 k_clerk_Wish rfl r22u, some 3, none⟩, ⟨SF.row 13 42 k_clerk_Wish rfl 803 ([r22u] : List clerk_Wish), some 4, none⟩, ⟨SF.row 14 42 k_clerk_Wish rfl 802 l34u, some 5, none⟩, ⟨SF.row 4 42 k_clerk_Wish rfl 802 l34u, some 6, none⟩] [(5, at_ 802)] (by kernel_rfl) (by kernel_rfl) (by kernel_rfl) ?_ I ?_ (dcons ?_ (dcons ?_ (dcons ?_ (dcons ?_ (dcons ?_ (dcons ?_ (dcons ?_ dnil))))))) ?_
    · exact (And.intro (And.intro (Nat.ne_of_beq_eq_false rfl) (And.intro (And.intro (Nat.ne_of_beq_eq_false rfl) trivial) (And.intro trivial (And.intro (And.intro (Nat.ne_of_beq_eq_false rfl) trivial) (And.intro (And.intro (Nat.ne_of_beq_eq_false rfl) trivial) (And.intro trivial (And.intro trivial (And.intro trivial (And.intro (And.intro (Nat.ne_of_beq_eq_false rfl) trivial) (And.intro trivial (And.intro trivial trivial))))))))))) trivial)
    · exact (nwc (pf_sl rfl rfl (Sl.up rfl s12u no_ no_ (Sl.up rfl s6u no_ no_ ma0))) (nwc (pf_val rfl) (nwc (pf_bx rfl (Blk.up s12u no_ hb2u) hl4u (At.up ha3u s12u no_ nc0)) nwn)))
    · intro ρ g I av
      obtain ⟨v45u, hr43u, m44u⟩ := av 0 _ rfl (by kernel_rfl)
      refine ddo (up1 rfl hr43u) rfl ?_
      refine s_mv ?_
      exact ⟨_, rfl, (Stp.refl _ _), I, (nwc (pf_sl rfl rfl m44u) nwn)⟩
    · intro ρ g I av
      obtain ⟨v48u, hr46u, m47u⟩ := av 3 _ rfl (by kernel_rfl)
      refine ddo (up1 rfl hr46u) rfl ?_
      refine s_cf I k32 rfl (slices_Clone_clerk_Wish_clerk_Wish_ok (zle hZ rfl rfl) (.inl z0) I.l 802 (zpv rfl) m47u (Or.inl rfl) h15u) no_any fun g51u v49u s52u I p50u => ?_
      exact ⟨_, rfl, s52u, I, (nwc (pf_row rfl rfl p50u) nwn)⟩
    · intro ρ g I av
      obtain ⟨L53u, hb54u, hl55u, ha56u⟩ := av 2 _ rfl (by kernel_rfl)
      have hr57u := av 1 _ rfl (by kernel_rfl)
      refine ddo (up1 rfl hr57u) rfl ?_
      refine s_ldK t42 rfl (Blk.cells hb54u) ha56u rfl rfl fun cs59u m60u => ?_
      exact ⟨_, rfl, (Stp.refl _ _), I, (nwc (pf_agg rfl rfl m60u) nwn)⟩
    · intro ρ g I av
      obtain ⟨_, hr61u, m62u⟩ := av 5 _ rfl (by kernel_rfl)
      refine ddo (up1 rfl hr61u) rfl ?_
      refine s_cf I k14 rfl (clerk_Wish_Twin_ok (zle hZ rfl rfl) (.inl z0) I.l m62u h23u) no_any fun g65u v63u s66u I p64u => ?_
      obtain ⟨cs67u, rfl, m68u⟩ := p64u
      exact ⟨_, rfl, s66u, I, (nwc (pf_agg rfl rfl m68u) nwn)⟩
    · intro ρ g I av
      obtain ⟨_, hr69u, m70u⟩ := av 6 _ rfl (by kernel_rfl)
      refine ddo (up1 rfl hr69u) rfl ?_
      refine s_bslK (kd := k_clerk_Wish) (xs := ([r22u] : List clerk_Wish)) 803 I s43 t42 z42 rfl rfl (by decide) rfl (by decide) (And.intro (congrArg some (kl (d := k_clerk_Wish) m70u).symm) (trivial)) (Seg.flat (d := k_clerk_Wish) (g := g) (alls m70u alle)) rfl (zpv rfl) fun g73u v71u s74u I m72u => ?_
      exact ⟨_, rfl, s74u, I, (nwc (pf_row rfl rfl m72u) nwn)⟩
    · intro ρ g I av
      obtain ⟨v77u, hr75u, m76u⟩ := av 4 _ rfl (by kernel_rfl)
      obtain ⟨v80u, hr78u, m79u⟩ := av 7 _ rfl (by kernel_rfl)
      refine ddo (up1 (up1 rfl hr75u) hr78u) rfl ?_
      refine s_app (kd := k_clerk_Wish) I s43 rfl s43 t42 z42 rfl m76u (Sl.rs (Row.sl m79u)) h35u (by decide) (zpv rfl) (zpv rfl) fun g83u v81u s84u I m82u => ?_
      exact ⟨_, rfl, s84u, I, (nwc (pf_row rfl rfl m82u) nwn)⟩
    · intro ρ g I av
      obtain ⟨v87u, hr85u, m86u⟩ := av 8 _ rfl (by kernel_rfl)
      refine ddo (up1 rfl hr85u) rfl ?_
      refine s_as ?_
      exact ⟨_, rfl, (Stp.refl _ _), I, (nwc (pf_row rfl rfl m86u) nwn)⟩
    · intro ρ g I av
      obtain ⟨v42u, hr40u, m41u⟩ := av 9 _ rfl rfl
      refine ⟨_, (up1 rfl hr40u), ?_⟩
      refine EW.ret ?_
      obtain rfl := som hF0
      refine ends1 (.inl rfl)  ?_
      have m88u := Row.rc rfl (by decide) m41u 0
      have s90u := Stp.rc1 g 802 0
      replace I := I.to s90u (Lo.rc (d := 0) I.l (.inl z0)) (at_in (zpv rfl))
      exact ret_ (g := (g.rc 802 (802 + 1) 0)) I lo hZ z0 rfl (Sl.up rfl (Stp.rc (g.rc 802 (802 + 1) 0) 800 900 0) fz fz (Row.sl m88u))
theorem clerk_Rules_Right_ok {g0 : GW} {Z : Nat → Prop} (hZ : ∀ c, Z c → c = 0 ∨ 1000 ≤ c) (z0 : Z 0) (lo : Lo Z g0)  {a0 : clerk_Rules} {ca0 : List Value} (ma0 : k_clerk_Rules.M g0 0 a0 ca0) {r : Bool} (hF0 : clerk_Rules_Right a0 = some r) :
    Calls P 18 [.agg ca0.toArray].toArray g0.w (Rets (RR (no) Z g0 (PEq (.bool r)))) := by
  refine calls_of Go.Proofs.Try.func18 rfl (Nat.le_of_ble_eq_true rfl) (by kernel_rfl) ?_
  have I : Inv (or_ (no) (iv 900 1000)) (or_ Z (iv 900 1000)) g0 g0 := Inv.start (lo.mono (fun _ h => .inl h))
  have fz : ¬ iv 900 1000 0 := nz0 rfl
  unfold clerk_Rules_Right at hF0
  refine EW.seq ?_
  refine EW.region (by kernel_rfl) ?_
  refine EWL.op rfl ?_
  refine s_boxK (kd := k_clerk_Rules) (r := a0) 901 I (zpv rfl) ma0 rfl rfl fun g5u b1u s6u I hb2u hl4u ha3u => ?_
  refine EWL.op rfl ?_
  refine s_as ?_
  refine EW.seq ?_
  refine EW.region (by kernel_rfl) ?_
  refine EWL.op rfl ?_
  refine s_fa f64u1 rfl ?_
  refine EWL.op rfl ?_
  refine s_ldS t23 rfl (Blk.cells hb2u) (At.fld ha3u 1 rfl) ?_
  refine EWL.op rfl ?_
  refine s_geq rfl rfl ?_
  refine EWL.op rfl ?_
  refine s_mv ?_
  rcases Bool.eq_false_or_eq_true (decide (1 ≤ a0.margin)) with hb7u | hb7u
  · replace hF0 := bif_t hb7u hF0
    refine EWL.op (want_of rfl rfl (beq_ hb7u)) ?_
    refine s_fa f64u1 rfl ?_
    refine EWL.op (want_of rfl rfl (beq_ hb7u)) ?_
    refine s_ldS t23 rfl (Blk.cells hb2u) (At.fld ha3u 1 rfl) ?_
    refine EWL.op (want_of rfl rfl (beq_ hb7u)) ?_
    refine s_leq rfl rfl ?_
    refine EWL.op rfl ?_
    refine s_pT rfl hb7u ?_
    refine EWL.op rfl ?_
    refine s_mv ?_
    rcases Bool.eq_false_or_eq_true (decide (a0.margin ≤ 100)) with hb8u | hb8u
    · replace hF0 := bif_t hb8u hF0
      refine EWL.op (want_of rfl rfl (beq_ hb8u)) ?_
      refine s_fa f64u2 rfl ?_
      refine EWL.op (want_of rfl rfl (beq_ hb8u)) ?_
      refine s_ldS t23 rfl (Blk.cells hb2u) (At.fld ha3u 2 rfl) ?_
      refine EWL.op (want_of rfl rfl (beq_ hb8u)) ?_
      refine s_leq rfl rfl ?_
      refine EWL.op rfl ?_
      refine s_pT rfl hb8u ?_
      refine EWL.op rfl ?_
      refine s_mv ?_
      rcases Bool.eq_false_or_eq_true (decide (a0.patience ≤ 100)) with hb9u | hb9u
      · replace hF0 := bif_t hb9u hF0
        refine EWL.op (want_of rfl rfl (beq_ hb9u)) ?_
        refine s_fa f64u3 rfl ?_
        refine EWL.op (want_of rfl rfl (beq_ hb9u)) ?_
        refine s_ldS t23 rfl (Blk.cells hb2u) (At.fld ha3u 3 rfl) ?_
        refine EWL.op (want_of rfl rfl (beq_ hb9u)) ?_
        refine s_geq rfl rfl ?_
        refine EWL.op rfl ?_
        refine s_pT rfl hb9u ?_
        refine EWL.op rfl ?_
        refine s_mv ?_
        rcases Bool.eq_false_or_eq_true (decide (1 ≤ a0.longest)) with hb10u | hb10u
        · replace hF0 := bif_t hb10u hF0
          refine EWL.op (want_of rfl rfl (beq_ hb10u)) ?_
          refine s_fa f64u3 rfl ?_
          refine EWL.op (want_of rfl rfl (beq_ hb10u)) ?_
          refine s_ldS t23 rfl (Blk.cells hb2u) (At.fld ha3u 3 rfl) ?_
          refine EWL.op (want_of rfl rfl (beq_ hb10u)) ?_
          refine s_leq rfl rfl ?_
          refine EWL.op rfl ?_
          refine s_pT rfl hb10u ?_
          refine EWL.op rfl ?_
          refine s_mv ?_
          rcases Bool.eq_false_or_eq_true (decide (a0.longest ≤ 10000)) with hb11u | hb11u
          · replace hF0 := bif_t hb11u hF0
            refine EWL.op (want_of rfl rfl (beq_ hb11u)) ?_
            refine s_fa f64u0 rfl ?_
            refine EWL.op (want_of rfl rfl (beq_ hb11u)) ?_
            refine s_fa f62u1 rfl ?_
            refine EWL.op (want_of rfl rfl (beq_ hb11u)) ?_
            refine s_ldS t23 rfl (Blk.cells hb2u) (At.fld (At.fld ha3u 0 rfl) 1 rfl) ?_
            refine EWL.op (want_of rfl rfl (beq_ hb11u)) ?_
            refine s_leq rfl rfl ?_
            refine EWL.op rfl ?_
            refine s_pT rfl hb11u ?_
            refine EWL.op rfl ?_
            refine s_as ?_
            refine EW.ret ?_
            obtain rfl := som hF0
            refine ends1 (.inl rfl)  ?_
            exact ret_ (g := g5u) I lo hZ z0 rfl rfl
          · replace hF0 := bif_f hb11u hF0
            refine EWL.pass (want_of rfl rfl (beq_ hb11u)) ?_
            refine EWL.pass (want_of rfl rfl (beq_ hb11u)) ?_
            refine EWL.pass (want_of rfl rfl (beq_ hb11u)) ?_
            refine EWL.pass (want_of rfl rfl (beq_ hb11u)) ?_
            refine EWL.op rfl ?_
            refine s_pF rfl hb11u ?_
            refine EWL.op rfl ?_
            refine s_as ?_
            refine EW.ret ?_
            obtain rfl := som hF0
            refine ends1 (.inl rfl)  ?_
            exact ret_ (g := g5u) I lo hZ z0 rfl rfl
        · replace hF0 := bif_f hb10u hF0
          refine EWL.pass (want_of rfl rfl (beq_ hb10u)) ?_
          refine EWL.pass (want_of rfl rfl (beq_ hb10u)) ?_
          refine EWL.pass (want_of rfl rfl (beq_ hb10u)) ?_
          refine EWL.op rfl ?_
          refine s_pF rfl hb10u ?_
          refine EWL.op rfl ?_
          refine s_mv ?_
          refine EWL.pass (want_of rfl rfl rfl) ?_
          refine EWL.pass (want_of rfl rfl rfl) ?_
          refine EWL.pass (want_of rfl rfl rfl) ?_
          refine EWL.pass (want_of rfl rfl rfl) ?_
          refine EWL.op rfl ?_
          refine s_pF rfl rfl ?_
          refine EWL.op rfl ?_
          refine s_as ?_
          refine EW.ret ?_
          obtain rfl := som hF0
          refine ends1 (.inl rfl)  ?_
          exact ret_ (g := g5u) I lo hZ z0 rfl rfl
      · replace hF0 := bif_f hb9u hF0
        refine EWL.pass (want_of rfl rfl (beq_ hb9u)) ?_
        refine EWL.pass (want_of rfl rfl (beq_ hb9u)) ?_
        refine EWL.pass (want_of rfl rfl (beq_ hb9u)) ?_
        refine EWL.op rfl ?_
        refine s_pF rfl hb9u ?_
        refine EWL.op rfl ?_
        refine s_mv ?_
        refine EWL.pass (want_of rfl rfl rfl) ?_
        refine EWL.pass (want_of rfl rfl rfl) ?_
        refine EWL.pass (want_of rfl rfl rfl) ?_
        refine EWL.op rfl ?_
        refine s_pF rfl rfl ?_
        refine EWL.op rfl ?_
        refine s_mv ?_
        refine EWL.pass (want_of rfl rfl rfl) ?_
        refine EWL.pass (want_of rfl rfl rfl) ?_
        refine EWL.pass (want_of rfl rfl rfl) ?_
        refine EWL.pass (want_of rfl rfl rfl) ?_
        refine EWL.op rfl ?_
        refine s_pF rfl rfl ?_
        refine EWL.op rfl ?_
        refine s_as ?_
        refine EW.ret ?_
        obtain rfl := som hF0
        refine ends1 (.inl rfl)  ?_
        exact ret_ (g := g5u) I lo hZ z0 rfl rfl
    · replace hF0 := bif_f hb8u hF0
      refine EWL.pass (want_of rfl rfl (beq_ hb8u)) ?_
      refine EWL.pass (want_of rfl rfl (beq_ hb8u)) ?_
      refine EWL.pass (want_of rfl rfl (beq_ hb8u)) ?_
      refine EWL.op rfl ?_
      refine s_pF rfl hb8u ?_
      refine EWL.op rfl ?_
      refine s_mv ?_
      refine EWL.pass (want_of rfl rfl rfl) ?_
      refine EWL.pass (want_of rfl rfl rfl) ?_
      refine EWL.pass (want_of rfl rfl rfl) ?_
      refine EWL.op rfl ?_
      refine s_pF rfl rfl ?_
      refine EWL.op rfl ?_
      refine s_mv ?_
      refine EWL.pass (want_of rfl rfl rfl) ?_
      refine EWL.pass (want_of rfl rfl rfl) ?_
      refine EWL.pass (want_of rfl rfl rfl) ?_
      refine EWL.op rfl ?_
      refine s_pF rfl rfl ?_
      refine EWL.op rfl ?_
      refine s_mv ?_
      refine EWL.pass (want_of rfl rfl rfl) ?_
      refine EWL.pass (want_of rfl rfl rfl) ?_
      refine EWL.pass (want_of rfl rfl rfl) ?_
      refine EWL.pass (want_of rfl rfl rfl) ?_
      refine EWL.op rfl ?_
      refine s_pF rfl rfl ?_
      refine EWL.op rfl ?_
      refine s_as ?_
      refine EW.ret ?_
      obtain rfl := som hF0
      refine ends1 (.inl rfl)  ?_
      exact ret_ (g := g5u) I lo hZ z0 rfl rfl
  · replace hF0 := bif_f hb7u hF0
    refine EWL.pass (want_of rfl rfl (beq_ hb7u)) ?_
    refine EWL.pass (want_of rfl rfl (beq_ hb7u)) ?_
    refine EWL.pass (want_of rfl rfl (beq_ hb7u)) ?_
    refine EWL.op rfl ?_
    refine s_pF rfl hb7u ?_
    refine EWL.op rfl ?_
    refine s_mv ?_
    refine EWL.pass (want_of rfl rfl rfl) ?_
    refine EWL.pass (want_of rfl rfl rfl) ?_
    refine EWL.pass (want_of rfl rfl rfl) ?_
    refine EWL.op rfl ?_
    refine s_pF rfl rfl ?_
    refine EWL.op rfl ?_
    refine s_mv ?_
    refine EWL.pass (want_of rfl rfl rfl) ?_
    refine EWL.pass (want_of rfl rfl rfl) ?_
    refine EWL.pass (want_of rfl rfl rfl) ?_
    refine EWL.op rfl ?_
    refine s_pF rfl rfl ?_
    refine EWL.op rfl ?_
    refine s_mv ?_
    refine EWL.pass (want_of rfl rfl rfl) ?_
    refine EWL.pass (want_of rfl rfl rfl) ?_
    refine EWL.pass (want_of rfl rfl rfl) ?_
    refine EWL.op rfl ?_
    refine s_pF rfl rfl ?_
    refine EWL.op rfl ?_
    refine s_mv ?_
    refine EWL.pass (want_of rfl rfl rfl) ?_
    refine EWL.pass (want_of rfl rfl rfl) ?_
    refine EWL.pass (want_of rfl rfl rfl) ?_
    refine EWL.pass (want_of rfl rfl rfl) ?_
    refine EWL.op rfl ?_
    refine s_pF rfl rfl ?_
    refine EWL.op rfl ?_
    refine s_as ?_
    refine EW.ret ?_
    obtain rfl := som hF0
    refine ends1 (.inl rfl)  ?_
    exact ret_ (g := g5u) I lo hZ z0 rfl rfl
theorem law20uawake_ok {g0 : GW} {Z : Nat → Prop} (hZ : ∀ c, Z c → c = 0 ∨ 1100 ≤ c) (z0 : Z 0) (lo : Lo Z g0)    {r : Bool} (hF0 : law20uawake = some r) :
    Calls P 4 [].toArray g0.w (Rets (RR (no) Z g0 (PEq (.bool r)))) := by
  refine calls_of Go.Proofs.Try.func4 rfl (Nat.le_of_ble_eq_true rfl) (by kernel_rfl) ?_
  have I : Inv (or_ (no) (iv 1000 1100)) (or_ Z (iv 1000 1100)) g0 g0 := Inv.start (lo.mono (fun _ h => .inl h))
  have fz : ¬ iv 1000 1100 0 := nz0 rfl
  unfold law20uawake at hF0
  refine EW.seq ?_
  refine EW.region (by kernel_rfl) ?_
  refine EWL.op rfl ?_
  refine s_as ?_
  refine EW.seq ?_
  refine EW.region (by kernel_rfl) ?_
  refine EWL.op rfl ?_
  refine s_bldK (kd := k_clerk_Rules) (r := ({ fee := money_Fee.zero, margin := 1, patience := 0, longest := 9 } : clerk_Rules)) (g := g0) zs64 Z64 l64 P64 (And.intro rfl (And.intro rfl (trivial))) (SM.flat (fs := fs_clerk_Rules) tl_clerk_Rules (allc (Kd.zk (i := 0) k_money_Fee rfl) (allc rfl (allc rfl (allc rfl alln))))) fun cs1u m2u => ?_
  refine EWL.op rfl ?_
  refine s_newK k_clerk_Rules 1001 I (zpv rfl) z64 rfl fun g8u b3u L7u s9u I hb4u hl6u ha5u => ?_
  refine EWL.opn rfl ?_
  have m10u : k_clerk_Rules.M g8u 0 ({ fee := money_Fee.zero, margin := 1, patience := 0, longest := 9 } : clerk_Rules) _ := (Kd.upK rfl s9u no_ m2u)
  refine s_stK (kd := k_clerk_Rules) I t64 rfl rfl m10u rfl hb4u (ble_ hl6u rfl) (by decide) nc0 (zpv rfl) fun g11u L13u s12u I hb14u hu15u hn16u => ?_
  have ha17u := hn16u
  have hl18u := hu15u.1.trans hl6u
  refine EW.seq ?_
  refine EW.region (by kernel_rfl) ?_
  refine EWL.op rfl ?_
  refine s_bldK (kd := k_clerk_Wish) (r := ({ op := pact_Op.zero, trail := [] } : clerk_Wish)) (g := g11u) zs42 Z42 l42 P42 (trivial) (SM.flat (fs := fs_clerk_Wish) tl_clerk_Wish (allc (Kd.zk (i := 0) k_pact_Op rfl) (allc (Kd.zk (i := 0) (kSl k_memo_Hop rfl) rfl) alln))) fun cs19u m20u => ?_
  refine EWL.op rfl ?_
  obtain ⟨r21u, h22u, hF0⟩ := bnd hF0
  refine s_cf I k10 rfl (clerk_Add_ok (zle hZ rfl rfl) (.inl z0) I.l Sl.none m20u h22u) no_any fun g25u v23u s26u I p24u => ?_
  refine EWL.op rfl ?_
  refine s_as ?_
  refine EW.seq ?_
  refine EW.region (by kernel_rfl) ?_
  refine EWL.op rfl ?_
  refine s_ldK t64 rfl (Blk.cells (Blk.up s26u no_ hb14u)) (At.up ha17u s26u no_ nc0) rfl rfl fun cs27u m28u => ?_
  refine EWL.op rfl ?_
  obtain ⟨r29u, h30u, hF0⟩ := bnd hF0
  refine s_cf I k18 rfl (clerk_Rules_Right_ok (zle hZ rfl rfl) (.inl z0) I.l m28u h30u) no_any fun g33u v31u s34u I p32u => ?_
  obtain rfl := p32u
  refine EWL.op rfl ?_
  refine s_mv ?_
  rcases Bool.eq_false_or_eq_true r29u with hb35u | hb35u
  · replace hF0 := bif_t hb35u hF0
    refine EWL.op (want_of rfl rfl (beq_ hb35u)) ?_
    refine s_bldK (kd := k_clerk_Rules) (r := ({ fee := money_Fee.zero, margin := 0, patience := 0, longest := 0 } : clerk_Rules)) (g := g33u) zs64 Z64 l64 P64 (trivial) (SM.flat (fs := fs_clerk_Rules) tl_clerk_Rules (allc (Kd.zk (i := 0) k_money_Fee rfl) (allc rfl (allc rfl (allc rfl alln))))) fun cs36u m37u => ?_
    refine EWL.op (want_of rfl rfl (beq_ hb35u)) ?_
    obtain ⟨r38u, h39u, hF0⟩ := bnd hF0
    refine s_cf I k18 rfl (clerk_Rules_Right_ok (zle hZ rfl rfl) (.inl z0) I.l m37u h39u) no_any fun g42u v40u s43u I p41u => ?_
    obtain rfl := p41u
    refine EWL.op (want_of rfl rfl (beq_ hb35u)) ?_
    refine s_not rfl ?_
    refine EWL.op rfl ?_
    refine s_pT rfl hb35u ?_
    refine EWL.op rfl ?_
    refine s_mv ?_
    rcases Bool.eq_false_or_eq_true (!r38u) with hb44u | hb44u
    · replace hF0 := bif_t hb44u hF0
      refine EWL.op (want_of rfl rfl (beq_ hb44u)) ?_
      refine s_mv ?_
      refine EWL.op (want_of rfl rfl (beq_ hb44u)) ?_
      refine s_lenR (kd := k_clerk_Wish) (xs := r21u) s43 rfl (Sl.rs (Sl.up rfl s43u no_ no_ (Sl.up rfl s34u no_ no_ p24u))) ?_
      refine EWL.op (want_of rfl rfl (beq_ hb44u)) ?_
      refine s_eql rfl rfl ?_
      refine EWL.op rfl ?_
      refine s_pT rfl hb44u ?_
      refine EWL.op rfl ?_
      refine s_mv ?_
      rcases Bool.eq_false_or_eq_true (decide ((r21u.length : Int) = 1)) with hb45u | hb45u
      · replace hF0 := bif_t hb45u hF0
        refine EWL.op (want_of rfl rfl (beq_ hb45u)) ?_
        refine s_mv ?_
        refine EWL.op (want_of rfl rfl (beq_ hb45u)) ?_
        refine s_bldK (kd := k_clerk_Wish) (r := ({ op := pact_Op.zero, trail := [] } : clerk_Wish)) (g := g42u) zs42 Z42 l42 P42 (trivial) (SM.flat (fs := fs_clerk_Wish) tl_clerk_Wish (allc (Kd.zk (i := 0) k_pact_Op rfl) (allc (Kd.zk (i := 0) (kSl k_memo_Hop rfl) rfl) alln))) fun cs46u m47u => ?_
        refine EWL.op (want_of rfl rfl (beq_ hb45u)) ?_
        obtain ⟨r48u, h49u, hF0⟩ := bnd hF0
        refine s_cf I k10 rfl (clerk_Add_ok (zle hZ rfl rfl) (.inl z0) I.l (Sl.up rfl s43u no_ no_ (Sl.up rfl s34u no_ no_ p24u)) m47u h49u) no_any fun g52u v50u s53u I p51u => ?_
        refine EWL.op (want_of rfl rfl (beq_ hb45u)) ?_
        refine s_lenR (kd := k_clerk_Wish) (xs := r48u) s43 rfl (Sl.rs p51u) ?_
        refine EWL.op (want_of rfl rfl (beq_ hb45u)) ?_
        refine s_eql rfl rfl ?_
        refine EWL.op rfl ?_
        refine s_pT rfl hb45u ?_
        refine EWL.op rfl ?_
        refine s_as ?_
        refine EW.ret ?_
        obtain rfl := som hF0
        refine ends1 (.inl rfl)  ?_
        exact ret_ (g := g52u) I lo hZ z0 rfl rfl
      · replace hF0 := bif_f hb45u hF0
        refine EWL.pass (want_of rfl rfl (beq_ hb45u)) ?_
        refine EWL.pass (want_of rfl rfl (beq_ hb45u)) ?_
        refine EWL.pass (want_of rfl rfl (beq_ hb45u)) ?_
        refine EWL.pass (want_of rfl rfl (beq_ hb45u)) ?_
        refine EWL.pass (want_of rfl rfl (beq_ hb45u)) ?_
        refine EWL.op rfl ?_
        refine s_pF rfl hb45u ?_
        refine EWL.op rfl ?_
        refine s_as ?_
        refine EW.ret ?_
        obtain rfl := som hF0
        refine ends1 (.inl rfl)  ?_
        exact ret_ (g := g42u) I lo hZ z0 rfl rfl
    · replace hF0 := bif_f hb44u hF0
      refine EWL.pass (want_of rfl rfl (beq_ hb44u)) ?_
      refine EWL.pass (want_of rfl rfl (beq_ hb44u)) ?_
      refine EWL.pass (want_of rfl rfl (beq_ hb44u)) ?_
      refine EWL.op rfl ?_
      refine s_pF rfl hb44u ?_
      refine EWL.op rfl ?_
      refine s_mv ?_
      refine EWL.pass (want_of rfl rfl rfl) ?_
      refine EWL.pass (want_of rfl rfl rfl) ?_
      refine EWL.pass (want_of rfl rfl rfl) ?_
      refine EWL.pass (want_of rfl rfl rfl) ?_
      refine EWL.pass (want_of rfl rfl rfl) ?_
      refine EWL.op rfl ?_
      refine s_pF rfl rfl ?_
      refine EWL.op rfl ?_
      refine s_as ?_
      refine EW.ret ?_
      obtain rfl := som hF0
      refine ends1 (.inl rfl)  ?_
      exact ret_ (g := g42u) I lo hZ z0 rfl rfl
  · replace hF0 := bif_f hb35u hF0
    refine EWL.pass (want_of rfl rfl (beq_ hb35u)) ?_
    refine EWL.pass (want_of rfl rfl (beq_ hb35u)) ?_
    refine EWL.pass (want_of rfl rfl (beq_ hb35u)) ?_
    refine EWL.op rfl ?_
    refine s_pF rfl hb35u ?_
    refine EWL.op rfl ?_
    refine s_mv ?_
    refine EWL.pass (want_of rfl rfl rfl) ?_
    refine EWL.pass (want_of rfl rfl rfl) ?_
    refine EWL.pass (want_of rfl rfl rfl) ?_
    refine EWL.op rfl ?_
    refine s_pF rfl rfl ?_
    refine EWL.op rfl ?_
    refine s_mv ?_
    refine EWL.pass (want_of rfl rfl rfl) ?_
    refine EWL.pass (want_of rfl rfl rfl) ?_
    refine EWL.pass (want_of rfl rfl rfl) ?_
    refine EWL.pass (want_of rfl rfl rfl) ?_
    refine EWL.pass (want_of rfl rfl rfl) ?_
    refine EWL.op rfl ?_
    refine s_pF rfl rfl ?_
    refine EWL.op rfl ?_
    refine s_as ?_
    refine EW.ret ?_
    obtain rfl := som hF0
    refine ends1 (.inl rfl)  ?_
    exact ret_ (g := g33u) I lo hZ z0 rfl rfl
theorem law10uTo_ok {g0 : GW} {Z : Nat → Prop} (hZ : ∀ c, Z c → c = 0 ∨ 1200 ≤ c) (z0 : Z 0) (lo : Lo Z g0)  {a0 : ref10uCond} {ca0 : List Value} (ma0 : k_ref10uCond.M g0 0 a0 ca0) {r : api_Cond} (hF0 : law10uTo a0 = some r) :
    Calls P 39 [.agg ca0.toArray].toArray g0.w (Rets (RR (no) Z g0 (PAg k_api_Cond r))) := by
  refine calls_of Go.Proofs.Try.func39 rfl (Nat.le_of_ble_eq_true rfl) (by kernel_rfl) ?_
  have I : Inv (or_ (no) (iv 1100 1200)) (or_ Z (iv 1100 1200)) g0 g0 := Inv.start (lo.mono (fun _ h => .inl h))
  have fz : ¬ iv 1100 1200 0 := nz0 rfl
  unfold law10uTo at hF0
  refine EW.seq ?_
  refine EW.region (by kernel_rfl) ?_
  refine EWL.op rfl ?_
  refine s_boxK (kd := k_ref10uCond) (r := a0) 1101 I (zpv rfl) ma0 rfl rfl fun g5u b1u s6u I hb2u hl4u ha3u => ?_
  refine EWL.op rfl ?_
  refine s_newK k_api_Cond 1102 I (zpv rfl) z37 rfl fun g12u b7u L11u s13u I hb8u hl10u ha9u => ?_
  refine EW.seq ?_
  refine EW.region (by kernel_rfl) ?_
  refine EWL.op rfl ?_
  refine s_fa f26u0 rfl ?_
  refine EWL.op rfl ?_
  refine s_ldS t23 rfl (Blk.cells (Blk.up s13u no_ hb2u)) (At.fld (At.up ha3u s13u no_ nc0) 0 rfl) ?_
  refine EWL.op rfl ?_
  refine s_fa f26u1 rfl ?_
  refine EWL.op rfl ?_
  refine s_ldS t3 rfl (Blk.cells (Blk.up s13u no_ hb2u)) (At.fld (At.up ha3u s13u no_ nc0) 1 rfl) ?_
  refine EWL.op rfl ?_
  refine s_fa f26u2 rfl ?_
  refine EWL.op rfl ?_
  refine s_ldS t23 rfl (Blk.cells (Blk.up s13u no_ hb2u)) (At.fld (At.up ha3u s13u no_ nc0) 2 rfl) ?_
  refine EWL.op rfl ?_
  refine s_fa f26u3 rfl ?_
  refine EWL.op rfl ?_
  refine s_ldK t24 rfl (Blk.cells (Blk.up s13u no_ hb2u)) (At.fld (At.up ha3u s13u no_ nc0) 3 rfl) rfl rfl fun cs14u m15u => ?_
  refine EWL.op rfl ?_
  refine s_fa f26u4 rfl ?_
  refine EWL.op rfl ?_
  refine s_ldS t23 rfl (Blk.cells (Blk.up s13u no_ hb2u)) (At.fld (At.up ha3u s13u no_ nc0) 4 rfl) ?_
  refine EWL.op rfl ?_
  refine s_bldK (kd := k_api_Cond) (r := ({ id := a0.id, by_ := a0.by_, amount := a0.amount, hash := a0.hash, expiry := a0.expiry } : api_Cond)) (g := g12u) zs37 Z37 l37 P37 (And.intro rfl (And.intro rfl (And.intro rfl (And.intro (congrArg some (kl (d := (kNums .u8 32)) m15u).symm) (And.intro rfl (trivial)))))) (SM.flat (fs := fs_api_Cond) tl_api_Cond (allc rfl (allc rfl (allc rfl (allc m15u (allc rfl alln)))))) fun cs16u m17u => ?_
  refine EWL.opn rfl ?_
  have m18u : k_api_Cond.M g12u 0 ({ id := a0.id, by_ := a0.by_, amount := a0.amount, hash := a0.hash, expiry := a0.expiry } : api_Cond) _ := m17u
  refine s_stK (kd := k_api_Cond) I t37 rfl rfl m18u rfl hb8u (ble_ hl10u rfl) (by decide) nc0 (zpv rfl) fun g19u L21u s20u I hb22u hu23u hn24u => ?_
  have ha25u := hn24u
  have hl26u := hu23u.1.trans hl10u
  refine EW.ret ?_
  obtain rfl := som hF0
  refine endsC (.inl rfl) rfl (run_lvA t37 (Blk.cells hb22u) (At.fits ha25u (by decide))) ?_
  exact ret_ (g := g19u) I lo hZ z0 rfl ⟨_, rfl, Kd.upK rfl (Stp.rc g19u 1100 1200 0) fz ha25u⟩
theorem law12uOp_ok {g0 : GW} {Z : Nat → Prop} (hZ : ∀ c, Z c → c = 0 ∨ 1300 ≤ c) (z0 : Z 0) (lo : Lo Z g0)  {a0 : ref12uOp} {ca0 : List Value} (ma0 : k_ref12uOp.M g0 0 a0 ca0) {r : pact_Op} (hF0 : law12uOp a0 = some r) :
    Calls P 16 [.agg ca0.toArray].toArray g0.w (Rets (RR (no) Z g0 (PAg k_pact_Op r))) := by
  refine calls_of Go.Proofs.Try.func16 rfl (Nat.le_of_ble_eq_true rfl) (by kernel_rfl) ?_
  have I : Inv (or_ (no) (iv 1200 1300)) (or_ Z (iv 1200 1300)) g0 g0 := Inv.start (lo.mono (fun _ h => .inl h))
  have fz : ¬ iv 1200 1300 0 := nz0 rfl
  unfold law12uOp at hF0
  refine EW.seq ?_
  refine EW.region (by kernel_rfl) ?_
  refine EWL.op rfl ?_
  refine s_boxK (kd := k_ref12uOp) (r := a0) 1201 I (zpv rfl) ma0 rfl rfl fun g5u b1u s6u I hb2u hl4u ha3u => ?_
  refine EWL.op rfl ?_
  refine s_newK k_pact_Op 1202 I (zpv rfl) z39 rfl fun g12u b7u L11u s13u I hb8u hl10u ha9u => ?_
  refine EW.seq ?_
  obtain ⟨r16u, h17u, hF0⟩ := bnd hF0
  refine EW.drawn [] [⟨SF.val 1 (.pointer (some ⟨b1u, 0, none⟩)), none, none⟩, ⟨SF.bx b1u 1201 28 k_ref12uOp rfl a0, none, none⟩, ⟨SF.val 2 (.pointer (some ⟨b7u, 0, none⟩)), none, none⟩, ⟨SF.bx b7u 1202 39 k_pact_Op rfl pact_Op.zero, none, some 10⟩, ⟨SF.val 3 (.pointer (some ⟨b1u, 0 + 0, none⟩)), some 0, none⟩, ⟨SF.val 4 (.int .i64 a0.kind), some 1, none⟩, ⟨SF.val 5 (.pointer (some ⟨b1u, 0 + 1, none⟩)), some 2, none⟩, ⟨SF.val 6 (.int .u64 a0.amount), some 3, none⟩, ⟨SF.val 7 (.pointer (some ⟨b1u, 0 + 2, none⟩)), some 4, none⟩, ⟨SF.agg 8 k_ref10uCond rfl a0.cond, some 5, none⟩, ⟨SF.agg 9 k_api_Cond rfl r16u, some 6, none⟩, ⟨SF.val 10 (.pointer (some ⟨b1u, 0 + 38, none⟩)), some 7, none⟩, ⟨SF.val 11 (.int .u64 a0.id), some 8, none⟩, ⟨SF.agg 12 k_pact_Op rfl ({ kind := a0.kind, amount := a0.amount, cond := r16u, id := a0.id } : pact_Op), some 9, none⟩, ⟨SF.bx b7u 1202 39 k_pact_Op rfl ({ kind := a0.kind, amount := a0.amount, cond := r16u, id := a0.id } : pact_Op), some 10, none⟩] [(10, at_ 1202)] (by kernel_rfl) (by kernel_rfl) (by kernel_rfl) ?_ I ?_ (dcons ?_ (dcons ?_ (dcons ?_ (dcons ?_ (dcons ?_ (dcons ?_ (dcons ?_ (dcons ?_ (dcons ?_ (dcons ?_ (dcons ?_ dnil))))))))))) ?_
  · exact (And.intro (And.intro (Nat.ne_of_beq_eq_false rfl) (And.intro trivial (And.intro (And.intro (Nat.ne_of_beq_eq_false rfl) trivial) (And.intro trivial (And.intro trivial (And.intro trivial (And.intro trivial (And.intro trivial (And.intro trivial (And.intro trivial (And.intro trivial (And.intro trivial (And.intro trivial (And.intro trivial (And.intro trivial (And.intro trivial trivial)))))))))))))))) trivial)
  · exact (nwc (pf_val rfl) (nwc (pf_bx rfl (Blk.up s13u no_ hb2u) hl4u (At.up ha3u s13u no_ nc0)) (nwc (pf_val rfl) (nwc (pf_bx rfl hb8u hl10u ha9u) nwn))))
  · intro ρ g I av
    have hr41u := av 0 _ rfl (by kernel_rfl)
    refine ddo (up1 rfl hr41u) rfl ?_
    refine s_fa f28u0 rfl ?_
    exact ⟨_, rfl, (Stp.refl _ _), I, (nwc (pf_val rfl) nwn)⟩
  · intro ρ g I av
    obtain ⟨L43u, hb44u, hl45u, ha46u⟩ := av 1 _ rfl (by kernel_rfl)
    have hr47u := av 4 _ rfl (by kernel_rfl)
    refine ddo (up1 rfl hr47u) rfl ?_
    refine s_ldS t3 rfl (Blk.cells hb44u) (At.fld ha46u 0 rfl) ?_
    exact ⟨_, rfl, (Stp.refl _ _), I, (nwc (pf_val rfl) nwn)⟩
  · intro ρ g I av
    have hr49u := av 0 _ rfl (by kernel_rfl)
    refine ddo (up1 rfl hr49u) rfl ?_
    refine s_fa f28u1 rfl ?_
    exact ⟨_, rfl, (Stp.refl _ _), I, (nwc (pf_val rfl) nwn)⟩
  · intro ρ g I av
    obtain ⟨L51u, hb52u, hl53u, ha54u⟩ := av 1 _ rfl (by kernel_rfl)
    have hr55u := av 6 _ rfl (by kernel_rfl)
    refine ddo (up1 rfl hr55u) rfl ?_
    refine s_ldS t23 rfl (Blk.cells hb52u) (At.fld ha54u 1 rfl) ?_
    exact ⟨_, rfl, (Stp.refl _ _), I, (nwc (pf_val rfl) nwn)⟩
  · intro ρ g I av
    have hr57u := av 0 _ rfl (by kernel_rfl)
    refine ddo (up1 rfl hr57u) rfl ?_
    refine s_fa f28u2 rfl ?_
    exact ⟨_, rfl, (Stp.refl _ _), I, (nwc (pf_val rfl) nwn)⟩
  · intro ρ g I av
    obtain ⟨L59u, hb60u, hl61u, ha62u⟩ := av 1 _ rfl (by kernel_rfl)
    have hr63u := av 8 _ rfl (by kernel_rfl)
    refine ddo (up1 rfl hr63u) rfl ?_
    refine s_ldK t26 rfl (Blk.cells hb60u) (At.fld ha62u 2 rfl) rfl rfl fun cs65u m66u => ?_
    exact ⟨_, rfl, (Stp.refl _ _), I, (nwc (pf_agg rfl rfl m66u) nwn)⟩
  · intro ρ g I av
    obtain ⟨_, hr67u, m68u⟩ := av 9 _ rfl (by kernel_rfl)
    refine ddo (up1 rfl hr67u) rfl ?_
    refine s_cf I k39 rfl (law10uTo_ok (zle hZ rfl rfl) (.inl z0) I.l m68u h17u) no_any fun g71u v69u s72u I p70u => ?_
    obtain ⟨cs73u, rfl, m74u⟩ := p70u
    exact ⟨_, rfl, s72u, I, (nwc (pf_agg rfl rfl m74u) nwn)⟩
  · intro ρ g I av
    have hr75u := av 0 _ rfl (by kernel_rfl)
    refine ddo (up1 rfl hr75u) rfl ?_
    refine s_fa f28u3 rfl ?_
    exact ⟨_, rfl, (Stp.refl _ _), I, (nwc (pf_val rfl) nwn)⟩
  · intro ρ g I av
    obtain ⟨L77u, hb78u, hl79u, ha80u⟩ := av 1 _ rfl (by kernel_rfl)
    have hr81u := av 11 _ rfl (by kernel_rfl)
    refine ddo (up1 rfl hr81u) rfl ?_
    refine s_ldS t23 rfl (Blk.cells hb78u) (At.fld ha80u 3 rfl) ?_
    exact ⟨_, rfl, (Stp.refl _ _), I, (nwc (pf_val rfl) nwn)⟩
  · intro ρ g I av
    have hr83u := av 5 _ rfl (by kernel_rfl)
    have hr85u := av 7 _ rfl (by kernel_rfl)
    obtain ⟨_, hr87u, m88u⟩ := av 10 _ rfl (by kernel_rfl)
    have hr89u := av 12 _ rfl (by kernel_rfl)
    refine ddo (up1 (up1 (up1 (up1 rfl hr83u) hr85u) hr87u) hr89u) rfl ?_
    refine s_bldK (kd := k_pact_Op) (r := ({ kind := a0.kind, amount := a0.amount, cond := r16u, id := a0.id } : pact_Op)) (g := g) zs39 Z39 l39 P39 (And.intro rfl (And.intro rfl (And.intro (congrArg some (kl (d := k_api_Cond) m88u).symm) (And.intro rfl (trivial))))) (SM.flat (fs := fs_pact_Op) tl_pact_Op (allc rfl (allc rfl (allc m88u (allc rfl alln))))) fun cs91u m92u => ?_
    exact ⟨_, rfl, (Stp.refl _ _), I, (nwc (pf_agg rfl rfl m92u) nwn)⟩
  · intro ρ g I av
    obtain ⟨L93u, hb94u, hl95u, ha96u⟩ := av 3 _ rfl (by kernel_rfl)
    have hr97u := av 2 _ rfl (by kernel_rfl)
    obtain ⟨_, hr99u, m100u⟩ := av 13 _ rfl (by kernel_rfl)
    refine ddon (up1 (up1 rfl hr97u) hr99u) rfl ?_
    have m101u : k_pact_Op.M g 0 ({ kind := a0.kind, amount := a0.amount, cond := r16u, id := a0.id } : pact_Op) _ := m100u
    refine s_stK (kd := k_pact_Op) I t39 rfl rfl m101u rfl hb94u (ble_ hl95u rfl) (by decide) nc0 (zpv rfl) fun g102u L104u s103u I hb105u hu106u hn107u => ?_
    have ha108u := hn107u
    have hl109u := hu106u.1.trans hl95u
    exact ⟨_, rfl, s103u, I, (nwc (pf_bx rfl hb105u hl109u ha108u) nwn)⟩
  · intro ρ g I av
    obtain ⟨L35u, hb36u, hl37u, ha38u⟩ := av 14 _ rfl rfl
    have hr39u := av 2 _ rfl rfl
    refine ⟨_, (up1 rfl hr39u), ?_⟩
    refine EW.ret ?_
    obtain rfl := som hF0
    refine endsC (.inl rfl) rfl (run_lvA t39 (Blk.cells hb36u) (At.fits ha38u (by decide))) ?_
    exact ret_ (g := g) I lo hZ z0 rfl ⟨_, rfl, Kd.upK rfl (Stp.rc g 1200 1300 0) fz ha38u⟩
theorem law04uTo_ok {g0 : GW} {Z : Nat → Prop} (hZ : ∀ c, Z c → c = 0 ∨ 1400 ≤ c) (z0 : Z 0) (lo : Lo Z g0)  {a0 : ref04uSig} {ca0 : List Value} (ma0 : k_ref04uSig.M g0 0 a0 ca0) {r : lamp_Sig} (hF0 : law04uTo a0 = some r) :
    Calls P 59 [.agg ca0.toArray].toArray g0.w (Rets (RR (no) Z g0 (PAg k_lamp_Sig r))) := by
  refine calls_of Go.Proofs.Try.func59 rfl (Nat.le_of_ble_eq_true rfl) (by kernel_rfl) ?_
  have I : Inv (or_ (no) (iv 1300 1400)) (or_ Z (iv 1300 1400)) g0 g0 := Inv.start (lo.mono (fun _ h => .inl h))
  have fz : ¬ iv 1300 1400 0 := nz0 rfl
  unfold law04uTo at hF0
  refine EW.seq ?_
  refine EW.region (by kernel_rfl) ?_
  refine EWL.op rfl ?_
  refine s_boxK (kd := k_ref04uSig) (r := a0) 1301 I (zpv rfl) ma0 rfl rfl fun g5u b1u s6u I hb2u hl4u ha3u => ?_
  refine EWL.op rfl ?_
  refine s_newK k_lamp_Sig 1302 I (zpv rfl) z70 rfl fun g12u b7u L11u s13u I hb8u hl10u ha9u => ?_
  refine EW.seq ?_
  refine EW.region (by kernel_rfl) ?_
  refine EWL.op rfl ?_
  refine s_newK k_lamp_Sig 1303 I (zpv rfl) z70 rfl fun g19u b14u L18u s20u I hb15u hl17u ha16u => ?_
  refine EW.seq ?_
  refine EW.seq ?_
  refine EW.region (by kernel_rfl) ?_
  refine EWL.op rfl ?_
  refine s_mv ?_
  refine EW.block ?_
  refine EW.loop (b := (law04uTo_b1)) (fun (s : (Int × ref04uSig × lamp_Sig × lamp_Sig)) ρ w => ∃ (g24u : GW) (x29u : Int) (L31u : List Value) (x35u : ref04uSig) (L37u : List Value) (x41u : lamp_Sig) (L43u : List Value) (x47u : lamp_Sig), w = g24u.w ∧ Inv (or_ (no) (iv 1300 1400)) (or_ Z (iv 1300 1400)) g0 g24u ∧ (x29u, x35u, x41u, x47u) = s ∧ ρ 1 = .pointer (some ⟨b1u, 0, none⟩) ∧ ρ 2 = .pointer (some ⟨b7u, 0, none⟩) ∧ ρ 3 = .pointer (some ⟨b14u, 0, none⟩) ∧ ρ 5 = .int .i64 x29u ∧ Blk g24u b1u 1301 80 L31u ∧ L31u.length = 1024 ∧ At k_ref04uSig g24u 0 x35u L31u 0 ∧ Blk g24u b7u 1302 70 L37u ∧ L37u.length = 1024 ∧ At k_lamp_Sig g24u 0 x41u L37u 0 ∧ Blk g24u b14u 1303 70 L43u ∧ L43u.length = 1024 ∧ At k_lamp_Sig g24u 0 x47u L43u 0) hF0 ⟨g19u, 0, _, a0, _, lamp_Sig.zero, _, lamp_Sig.zero, rfl, I, rfl, rfl, rfl, rfl, rfl, (Blk.up s20u no_ (Blk.up s13u no_ hb2u)), hl4u, (At.up (At.up ha3u s13u no_ nc0) s20u no_ nc0), (Blk.up s20u no_ hb8u), hl10u, (At.up ha9u s20u no_ nc0), hb15u, hl17u, ha16u⟩ ?_
  · rintro s_ o48u ρ w ⟨g24u, x29u, L31u, x35u, L37u, x41u, L43u, x47u, rfl, I, eo, hr25u, hr26u, hr27u, hr28u, hb32u, hl34u, ha33u, hb38u, hl40u, ha39u, hb44u, hl46u, ha45u⟩ hF1 hr1
    subst eo
    unfold law04uTo_b1 at hF1
    refine EW.re (up1 (up1 (up1 (up1 rfl hr25u) hr26u) hr27u) hr28u) ?_
    refine EW.seq ?_
    refine EW.region (by kernel_rfl) ?_
    refine EWL.op rfl ?_
    refine s_lss rfl rfl ?_
    refine EW.seq ?_
    refine EW.condS rfl rfl (fun hb49u => ?_) (fun hb49u => ?_)
    · replace hF1 := bif_t hb49u hF1
      refine EW.skip ?_
      refine EW.seq ?_
      refine EW.block ?_
      refine EW.seq ?_
      refine EW.region (by kernel_rfl) ?_
      refine EWL.op rfl ?_
      refine s_mv ?_
      refine EWL.op rfl ?_
      refine s_as ?_
      obtain ⟨x50u, h51u, hF1⟩ := bnd hF1
      obtain ⟨x55u, h56u, hF1⟩ := bnd hF1
      obtain ⟨x60u, h61u, hF1⟩ := bnd hF1
      obtain ⟨x72u, h73u, hF1⟩ := bnd hF1
      refine EW.drawn [] [⟨SF.val 4 (.int .i64 x29u), none, none⟩, ⟨SF.val 1 (.pointer (some ⟨b1u, 0, none⟩)), none, none⟩, ⟨SF.bx b1u 1301 80 k_ref04uSig rfl x35u, none, none⟩, ⟨SF.val 3 (.pointer (some ⟨b14u, 0, none⟩)), none, none⟩, ⟨SF.bx b14u 1303 70 k_lamp_Sig rfl x47u, none, some 12⟩, ⟨SF.val 2 (.pointer (some ⟨b7u, 0, none⟩)), none, none⟩, ⟨SF.bx b7u 1302 70 k_lamp_Sig rfl x41u, none, none⟩, ⟨SF.val 5 (.int .i64 x29u), none, none⟩, ⟨SF.val 8 (.int .i64 x29u), some 0, none⟩, ⟨SF.val 9 (.int .i64 x29u), some 1, none⟩, ⟨SF.val 10 (.int .i64 x29u), some 2, none⟩, ⟨SF.val 11 (.pointer (some ⟨b1u, 0 + 0, none⟩)), some 3, none⟩, ⟨SF.val 12 (.pointer (some ⟨b1u, 0 + 0 + (x29u).toNat * 16, none⟩)), some 4, none⟩, ⟨SF.agg 13 (kNums .u8 16) rfl x50u, some 5, none⟩, ⟨SF.val 14 (.int .i64 x29u), some 6, none⟩, ⟨SF.val 15 (.pointer (some ⟨b1u, 0 + 512, none⟩)), some 7, none⟩, ⟨SF.val 16 (.pointer (some ⟨b1u, 0 + 512 + (x29u).toNat * 16, none⟩)), some 8, none⟩, ⟨SF.agg 17 (kNums .u8 16) rfl x55u, some 9, none⟩, ⟨SF.val 18 (.pointer (some ⟨b14u, 0 + 0, none⟩)), some 10, none⟩, ⟨SF.val 19 (.pointer (some ⟨b14u, 0 + 0 + (x29u).toNat * 16, none⟩)), some 11, none⟩, ⟨SF.bx b14u 1303 70 k_lamp_Sig rfl { x47u with open_ := (upd x47u.open_ x29u x50u) }, some 12, some 15⟩, ⟨SF.val 20 (.pointer (some ⟨b14u, 0 + 512, none⟩)), some 13, none⟩, ⟨SF.val 21 (.pointer (some ⟨b14u, 0 + 512 + (x29u).toNat * 16, none⟩)), some 14, none⟩, ⟨SF.bx b14u 1303 70 k_lamp_Sig rfl { { x47u with open_ := (upd x47u.open_ x29u x50u) } with other := (upd { x47u with open_ := (upd x47u.open_ x29u x50u) }.other x29u x55u) }, some 15, none⟩] [(12, at_ 1303), (15, at_ 1303)] (by kernel_rfl) (by kernel_rfl) (by kernel_rfl) ?_ I ?_ (dcons ?_ (dcons ?_ (dcons ?_ (dcons ?_ (dcons ?_ (dcons ?_ (dcons ?_ (dcons ?_ (dcons ?_ (dcons ?_ (dcons ?_ (dcons ?_ (dcons ?_ (dcons ?_ (dcons ?_ (dcons ?_ dnil)))))))))))))))) ?_
      · exact (And.intro (And.intro (Nat.ne_of_beq_eq_false rfl) (And.intro trivial (And.intro trivial (And.intro (And.intro (Nat.ne_of_beq_eq_false rfl) trivial) (And.intro trivial (And.intro trivial (And.intro trivial (And.intro (And.intro (Nat.ne_of_beq_eq_false rfl) trivial) (And.intro trivial (And.intro trivial (And.intro trivial (And.intro trivial (And.intro trivial (And.intro trivial (And.intro trivial (And.intro trivial (And.intro trivial (And.intro trivial (And.intro trivial (And.intro trivial (And.intro trivial (And.intro trivial (And.intro trivial (And.intro trivial (And.intro trivial trivial))))))))))))))))))))))))) (And.intro (And.intro (Nat.ne_of_beq_eq_false rfl) (And.intro trivial (And.intro trivial (And.intro (And.intro (Nat.ne_of_beq_eq_false rfl) trivial) (And.intro trivial (And.intro trivial (And.intro trivial (And.intro (And.intro (Nat.ne_of_beq_eq_false rfl) trivial) (And.intro trivial (And.intro trivial (And.intro trivial (And.intro trivial (And.intro trivial (And.intro trivial (And.intro trivial (And.intro trivial (And.intro trivial (And.intro trivial (And.intro trivial (And.intro trivial (And.intro trivial (And.intro trivial (And.intro trivial (And.intro trivial (And.intro trivial trivial))))))))))))))))))))))))) trivial))
      · exact (nwc (pf_val rfl) (nwc (pf_val rfl) (nwc (pf_bx rfl hb32u hl34u ha33u) (nwc (pf_val rfl) (nwc (pf_bx rfl hb44u hl46u ha45u) (nwc (pf_val rfl) (nwc (pf_bx rfl hb38u hl40u ha39u) (nwc (pf_val rfl) nwn))))))))
      · intro ρ g I av
        have hr104u := av 0 _ rfl (by kernel_rfl)
        refine ddo (up1 rfl hr104u) rfl ?_
        refine s_mv ?_
        exact ⟨_, rfl, (Stp.refl _ _), I, (nwc (pf_val rfl) nwn)⟩
      · intro ρ g I av
        have hr106u := av 0 _ rfl (by kernel_rfl)
        refine ddo (up1 rfl hr106u) rfl ?_
        refine s_mv ?_
        exact ⟨_, rfl, (Stp.refl _ _), I, (nwc (pf_val rfl) nwn)⟩
      · intro ρ g I av
        have hr108u := av 0 _ rfl (by kernel_rfl)
        refine ddo (up1 rfl hr108u) rfl ?_
        refine s_mv ?_
        exact ⟨_, rfl, (Stp.refl _ _), I, (nwc (pf_val rfl) nwn)⟩
      · intro ρ g I av
        have hr110u := av 1 _ rfl (by kernel_rfl)
        refine ddo (up1 rfl hr110u) rfl ?_
        refine s_fa f80u0 rfl ?_
        exact ⟨_, rfl, (Stp.refl _ _), I, (nwc (pf_val rfl) nwn)⟩
      · intro ρ g I av
        obtain ⟨L112u, hb113u, hl114u, ha115u⟩ := av 2 _ rfl (by kernel_rfl)
        have hr116u := av 10 _ rfl (by kernel_rfl)
        have hr118u := av 11 _ rfl (by kernel_rfl)
        refine ddo (up1 (up1 rfl hr116u) hr118u) rfl ?_
        have hl120u := ixA (At.alen (At.fld ha115u 0 rfl)) h51u
        refine s_iaA ar78 t77 rfl rfl hl120u.1 hl120u.2.2 ?_
        exact ⟨_, rfl, (Stp.refl _ _), I, (nwc (pf_val rfl) nwn)⟩
      · intro ρ g I av
        obtain ⟨L121u, hb122u, hl123u, ha124u⟩ := av 2 _ rfl (by kernel_rfl)
        have hr125u := av 12 _ rfl (by kernel_rfl)
        have hl127u := ixA (At.alen (At.fld ha124u 0 rfl)) h51u
        refine ddo (up1 rfl hr125u) rfl ?_
        refine s_ldK t77 rfl (Blk.cells hb122u) (At.eltI (At.fld ha124u 0 rfl) h51u) rfl rfl fun cs128u m129u => ?_
        exact ⟨_, rfl, (Stp.refl _ _), I, (nwc (pf_agg rfl rfl m129u) nwn)⟩
      · intro ρ g I av
        have hr130u := av 0 _ rfl (by kernel_rfl)
        refine ddo (up1 rfl hr130u) rfl ?_
        refine s_mv ?_
        exact ⟨_, rfl, (Stp.refl _ _), I, (nwc (pf_val rfl) nwn)⟩
      · intro ρ g I av
        have hr132u := av 1 _ rfl (by kernel_rfl)
        refine ddo (up1 rfl hr132u) rfl ?_
        refine s_fa f80u1 rfl ?_
        exact ⟨_, rfl, (Stp.refl _ _), I, (nwc (pf_val rfl) nwn)⟩
      · intro ρ g I av
        obtain ⟨L134u, hb135u, hl136u, ha137u⟩ := av 2 _ rfl (by kernel_rfl)
        have hr138u := av 14 _ rfl (by kernel_rfl)
        have hr140u := av 15 _ rfl (by kernel_rfl)
        refine ddo (up1 (up1 rfl hr138u) hr140u) rfl ?_
        have hl142u := ixA (At.alen (At.fld ha137u 1 rfl)) h56u
        refine s_iaA ar78 t77 rfl rfl hl142u.1 hl142u.2.2 ?_
        exact ⟨_, rfl, (Stp.refl _ _), I, (nwc (pf_val rfl) nwn)⟩
      · intro ρ g I av
        obtain ⟨L143u, hb144u, hl145u, ha146u⟩ := av 2 _ rfl (by kernel_rfl)
        have hr147u := av 16 _ rfl (by kernel_rfl)
        have hl149u := ixA (At.alen (At.fld ha146u 1 rfl)) h56u
        refine ddo (up1 rfl hr147u) rfl ?_
        refine s_ldK t77 rfl (Blk.cells hb144u) (At.eltI (At.fld ha146u 1 rfl) h56u) rfl rfl fun cs150u m151u => ?_
        exact ⟨_, rfl, (Stp.refl _ _), I, (nwc (pf_agg rfl rfl m151u) nwn)⟩
      · intro ρ g I av
        have hr152u := av 3 _ rfl (by kernel_rfl)
        refine ddo (up1 rfl hr152u) rfl ?_
        refine s_fa f70u0 rfl ?_
        exact ⟨_, rfl, (Stp.refl _ _), I, (nwc (pf_val rfl) nwn)⟩
      · intro ρ g I av
        obtain ⟨L154u, hb155u, hl156u, ha157u⟩ := av 4 _ rfl (by kernel_rfl)
        have hr158u := av 8 _ rfl (by kernel_rfl)
        have hr160u := av 18 _ rfl (by kernel_rfl)
        refine ddo (up1 (up1 rfl hr158u) hr160u) rfl ?_
        have hl162u := ixA (At.alen (At.fld ha157u 0 rfl)) h61u
        refine s_iaA ar68 t67 rfl rfl hl162u.1 hl162u.2.2 ?_
        exact ⟨_, rfl, (Stp.refl _ _), I, (nwc (pf_val rfl) nwn)⟩
      · intro ρ g I av
        obtain ⟨L163u, hb164u, hl165u, ha166u⟩ := av 4 _ rfl (by kernel_rfl)
        obtain ⟨_, hr167u, m168u⟩ := av 13 _ rfl (by kernel_rfl)
        have hr169u := av 19 _ rfl (by kernel_rfl)
        have hl171u := ixA (At.alen (At.fld ha166u 0 rfl)) h61u
        refine ddon (up1 (up1 rfl hr167u) hr169u) rfl ?_
        have m172u : (kNums .u8 16).M g 0 x50u _ := m168u
        refine s_stP (kd := (kNums .u8 16)) I t67 rfl rfl m172u rfl hb164u (At.fits (At.eltI (At.fld ha166u 0 rfl) h61u) (by decide)) (by decide) nc0 (zpv rfl) fun g173u L175u s174u I hb176u hu177u hn178u => ?_
        have ha179u := (At.setFJ 512 (At.up ha166u s174u (Nat.ne_of_beq_eq_false rfl) nc0) 0 rfl (S70u0 _ _) rfl hu177u (by omega) (by omega) (At.setEJ 16 (At.fld (At.up ha166u s174u (Nat.ne_of_beq_eq_false rfl) nc0) 0 rfl) rfl h61u hu177u (by omega) (by omega) hn178u))
        have hl180u := hu177u.1.trans hl165u
        exact ⟨_, rfl, s174u, I, (nwc (pf_bx rfl hb176u hl180u ha179u) nwn)⟩
      · intro ρ g I av
        have hr181u := av 3 _ rfl (by kernel_rfl)
        refine ddo (up1 rfl hr181u) rfl ?_
        refine s_fa f70u1 rfl ?_
        exact ⟨_, rfl, (Stp.refl _ _), I, (nwc (pf_val rfl) nwn)⟩
      · intro ρ g I av
        obtain ⟨L183u, hb184u, hl185u, ha186u⟩ := av 20 _ rfl (by kernel_rfl)
        have hr187u := av 9 _ rfl (by kernel_rfl)
        have hr189u := av 21 _ rfl (by kernel_rfl)
        refine ddo (up1 (up1 rfl hr187u) hr189u) rfl ?_
        have hl191u := ixA (At.alen (At.fld ha186u 1 rfl)) h73u
        refine s_iaA ar68 t67 rfl rfl hl191u.1 hl191u.2.2 ?_
        exact ⟨_, rfl, (Stp.refl _ _), I, (nwc (pf_val rfl) nwn)⟩
      · intro ρ g I av
        obtain ⟨L192u, hb193u, hl194u, ha195u⟩ := av 20 _ rfl (by kernel_rfl)
        obtain ⟨_, hr196u, m197u⟩ := av 17 _ rfl (by kernel_rfl)
        have hr198u := av 22 _ rfl (by kernel_rfl)
        have hl200u := ixA (At.alen (At.fld ha195u 1 rfl)) h73u
        refine ddon (up1 (up1 rfl hr196u) hr198u) rfl ?_
        have m201u : (kNums .u8 16).M g 0 x55u _ := m197u
        refine s_stP (kd := (kNums .u8 16)) I t67 rfl rfl m201u rfl hb193u (At.fits (At.eltI (At.fld ha195u 1 rfl) h73u) (by decide)) (by decide) nc0 (zpv rfl) fun g202u L204u s203u I hb205u hu206u hn207u => ?_
        have ha208u := (At.setFJ 512 (At.up ha195u s203u (Nat.ne_of_beq_eq_false rfl) nc0) 1 rfl (S70u1 _ _) rfl hu206u (by omega) (by omega) (At.setEJ 16 (At.fld (At.up ha195u s203u (Nat.ne_of_beq_eq_false rfl) nc0) 1 rfl) rfl h73u hu206u (by omega) (by omega) hn207u))
        have hl209u := hu206u.1.trans hl194u
        exact ⟨_, rfl, s203u, I, (nwc (pf_bx rfl hb205u hl209u ha208u) nwn)⟩
      · intro ρ g I av
        obtain ⟨L84u, hb85u, hl86u, ha87u⟩ := av 2 _ rfl rfl
        obtain ⟨L88u, hb89u, hl90u, ha91u⟩ := av 6 _ rfl rfl
        obtain ⟨L92u, hb93u, hl94u, ha95u⟩ := av 23 _ rfl rfl
        have hr96u := av 1 _ rfl rfl
        have hr98u := av 5 _ rfl rfl
        have hr100u := av 3 _ rfl rfl
        have hr102u := av 7 _ rfl rfl
        refine ⟨_, (up1 (up1 (up1 (up1 rfl hr96u) hr98u) hr100u) hr102u), ?_⟩
        refine EW.region (by kernel_rfl) ?_
        refine EWL.op rfl ?_
        refine s_add rfl rfl ?_
        refine EWL.op rfl ?_
        refine s_mv ?_
        exact ⟨_, (som hF1).symm, g, (IntKind.i64.wrap (x29u + 1)), _, x35u, _, x41u, _, { { x47u with open_ := (upd x47u.open_ x29u x50u) } with other := (upd { x47u with open_ := (upd x47u.open_ x29u x50u) }.other x29u x55u) }, rfl, I, rfl, rfl, rfl, rfl, rfl, hb85u, hl86u, ha87u, hb89u, hl90u, ha91u, hb93u, hl94u, ha95u⟩
    · replace hF1 := bif_f hb49u hF1
      refine EW.exit ?_
      have hF0 := out_ hF1 hr1
      refine EW.seq ?_
      refine EW.region (by kernel_rfl) ?_
      refine EWL.op rfl ?_
      refine s_ldK t70 rfl (Blk.cells hb44u) ha45u rfl rfl fun cs210u m211u => ?_
      refine EWL.opn rfl ?_
      have m212u : k_lamp_Sig.M g24u 0 x47u _ := m211u
      refine s_stK (kd := k_lamp_Sig) I t70 rfl rfl m212u rfl hb38u (ble_ hl40u rfl) (by decide) nc0 (zpv rfl) fun g213u L215u s214u I hb216u hu217u hn218u => ?_
      have ha219u := hn218u
      have hl220u := hu217u.1.trans hl40u
      refine EW.ret ?_
      obtain rfl := som hF0
      refine endsC (.inl rfl) rfl (run_lvA t70 (Blk.cells hb216u) (At.fits ha219u (by decide))) ?_
      exact ret_ (g := g213u) I lo hZ z0 rfl ⟨_, rfl, Kd.upK rfl (Stp.rc g213u 1300 1400 0) fz ha219u⟩
theorem law05uTo_ok {g0 : GW} {Z : Nat → Prop} (hZ : ∀ c, Z c → c = 0 ∨ 1500 ≤ c) (z0 : Z 0) (lo : Lo Z g0)  {a0 : ref05uSig} {ca0 : List Value} (ma0 : k_ref05uSig.M g0 0 a0 ca0) {r : ring_Sig} (hF0 : law05uTo a0 = some r) :
    Calls P 40 [.agg ca0.toArray].toArray g0.w (Rets (RR (no) Z g0 (PAg k_ring_Sig r))) := by
  refine calls_of Go.Proofs.Try.func40 rfl (Nat.le_of_ble_eq_true rfl) (by kernel_rfl) ?_
  have I : Inv (or_ (no) (iv 1400 1500)) (or_ Z (iv 1400 1500)) g0 g0 := Inv.start (lo.mono (fun _ h => .inl h))
  have fz : ¬ iv 1400 1500 0 := nz0 rfl
  unfold law05uTo at hF0
  refine EW.seq ?_
  refine EW.region (by kernel_rfl) ?_
  refine EWL.op rfl ?_
  refine s_boxK (kd := k_ref05uSig) (r := a0) 1401 I (zpv rfl) ma0 rfl rfl fun g5u b1u s6u I hb2u hl4u ha3u => ?_
  refine EWL.op rfl ?_
  refine s_newK (h_ring_Sig (.slice none 0 0)) 1402 I (zpv rfl) z73 rfl fun g12u b7u L11u s13u I hb8u hl10u ha9u => ?_
  refine EW.seq ?_
  obtain ⟨r16u, h17u, hF0⟩ := bnd hF0
  refine EW.drawn [] [⟨SF.val 1 (.pointer (some ⟨b1u, 0, none⟩)), none, none⟩, ⟨SF.bx b1u 1401 83 k_ref05uSig rfl a0, none, none⟩, ⟨SF.val 2 (.pointer (some ⟨b7u, 0, none⟩)), none, none⟩, ⟨SF.bx b7u 1402 73 (h_ring_Sig (.slice none 0 0)) rfl ring_Sig.zero, none, none⟩, ⟨SF.val 6 (.pointer (some ⟨b1u, 0 + 0, none⟩)), some 0, none⟩, ⟨SF.agg 7 k_ref04uSig rfl a0.s, some 1, none⟩, ⟨SF.agg 8 k_lamp_Sig rfl r16u, some 2, none⟩, ⟨SF.val 9 (.pointer (some ⟨b1u, 0 + 1024, none⟩)), some 3, none⟩, ⟨SF.val 10 (.int .u32 a0.key), some 4, none⟩, ⟨SF.agg 11 (h_ring_Sig (.slice none 0 0)) rfl ({ sig := r16u, key := a0.key, way := [] } : ring_Sig), some 5, none⟩, ⟨SF.box 3 1405 73 (h_ring_Sig (.slice none 0 0)) rfl ring_Sig.zero, some 6, some 7⟩, ⟨SF.box 3 1405 73 (h_ring_Sig (.slice none 0 0)) rfl ({ sig := r16u, key := a0.key, way := [] } : ring_Sig), some 7, none⟩] [(7, at_ 1405)] (by kernel_rfl) (by kernel_rfl) (by kernel_rfl) ?_ I ?_ (dcons ?_ (dcons ?_ (dcons ?_ (dcons ?_ (dcons ?_ (dcons ?_ (dcons ?_ (dcons ?_ dnil)))))))) ?_
  · exact (And.intro (And.intro (Nat.ne_of_beq_eq_false rfl) (And.intro trivial (And.intro (And.intro (Nat.ne_of_beq_eq_false rfl) trivial) (And.intro trivial (And.intro (And.intro (Nat.ne_of_beq_eq_false rfl) trivial) (And.intro trivial (And.intro trivial (And.intro trivial (And.intro trivial (And.intro trivial (And.intro trivial (And.intro trivial (And.intro trivial trivial))))))))))))) trivial)
  · exact (nwc (pf_val rfl) (nwc (pf_bx rfl (Blk.up s13u no_ hb2u) hl4u (At.up ha3u s13u no_ nc0)) (nwc (pf_val rfl) (nwc (pf_bx rfl hb8u hl10u ha9u) nwn))))
  · intro ρ g I av
    have hr60u := av 0 _ rfl (by kernel_rfl)
    refine ddo (up1 rfl hr60u) rfl ?_
    refine s_fa f83u0 rfl ?_
    exact ⟨_, rfl, (Stp.refl _ _), I, (nwc (pf_val rfl) nwn)⟩
  · intro ρ g I av
    obtain ⟨L62u, hb63u, hl64u, ha65u⟩ := av 1 _ rfl (by kernel_rfl)
    have hr66u := av 4 _ rfl (by kernel_rfl)
    refine ddo (up1 rfl hr66u) rfl ?_
    refine s_ldK t80 rfl (Blk.cells hb63u) (At.fld ha65u 0 rfl) rfl rfl fun cs68u m69u => ?_
    exact ⟨_, rfl, (Stp.refl _ _), I, (nwc (pf_agg rfl rfl m69u) nwn)⟩
  · intro ρ g I av
    obtain ⟨_, hr70u, m71u⟩ := av 5 _ rfl (by kernel_rfl)
    refine ddo (up1 rfl hr70u) rfl ?_
    refine s_cf I k59 rfl (law04uTo_ok (zle hZ rfl rfl) (.inl z0) I.l m71u h17u) no_any fun g74u v72u s75u I p73u => ?_
    obtain ⟨cs76u, rfl, m77u⟩ := p73u
    exact ⟨_, rfl, s75u, I, (nwc (pf_agg rfl rfl m77u) nwn)⟩
  · intro ρ g I av
    have hr78u := av 0 _ rfl (by kernel_rfl)
    refine ddo (up1 rfl hr78u) rfl ?_
    refine s_fa f83u1 rfl ?_
    exact ⟨_, rfl, (Stp.refl _ _), I, (nwc (pf_val rfl) nwn)⟩
  · intro ρ g I av
    obtain ⟨L80u, hb81u, hl82u, ha83u⟩ := av 1 _ rfl (by kernel_rfl)
    have hr84u := av 7 _ rfl (by kernel_rfl)
    refine ddo (up1 rfl hr84u) rfl ?_
    refine s_ldS t65 rfl (Blk.cells hb81u) (At.fld ha83u 1 rfl) ?_
    exact ⟨_, rfl, (Stp.refl _ _), I, (nwc (pf_val rfl) nwn)⟩
  · intro ρ g I av
    obtain ⟨_, hr86u, m87u⟩ := av 6 _ rfl (by kernel_rfl)
    have hr88u := av 8 _ rfl (by kernel_rfl)
    refine ddo (up1 (up1 rfl hr86u) hr88u) rfl ?_
    refine s_bldK (kd := (h_ring_Sig (.slice none 0 0))) (r := ({ sig := r16u, key := a0.key, way := [] } : ring_Sig)) (g := g) zs73 Z73 l73 P73 (And.intro (congrArg some (kl (d := k_lamp_Sig) m87u).symm) (And.intro rfl (trivial))) (SM.flat (fs := hs_ring_Sig (.slice none 0 0)) (htl_ring_Sig (.slice none 0 0)) (allc m87u (allc rfl (allc (And.intro rfl rfl) alln)))) fun cs90u m91u => ?_
    exact ⟨_, rfl, (Stp.refl _ _), I, (nwc (pf_agg rfl rfl m91u) nwn)⟩
  · intro ρ g I av
    refine ddo rfl rfl ?_
    refine s_newK (h_ring_Sig (.slice none 0 0)) 1405 I (zpv rfl) z73 rfl fun g97u b92u L96u s98u I hb93u hl95u ha94u => ?_
    exact ⟨_, rfl, s98u, I, (nwc (pf_box rfl rfl hb93u hl95u ha94u) nwn)⟩
  · intro ρ g I av
    obtain ⟨b103u, L99u, hr104u, hb100u, hl101u, ha102u⟩ := av 10 _ rfl (by kernel_rfl)
    obtain ⟨_, hr105u, m106u⟩ := av 9 _ rfl (by kernel_rfl)
    refine ddon (up1 (up1 rfl hr104u) hr105u) rfl ?_
    have m107u : (h_ring_Sig (.slice none 0 0)).M g 0 ({ sig := r16u, key := a0.key, way := [] } : ring_Sig) _ := m106u
    refine s_stK (kd := (h_ring_Sig (.slice none 0 0))) I t73 rfl rfl m107u rfl hb100u (ble_ hl101u rfl) (by decide) nc0 (zpv rfl) fun g108u L110u s109u I hb111u hu112u hn113u => ?_
    have ha114u := hn113u
    have hl115u := hu112u.1.trans hl101u
    exact ⟨_, rfl, s109u, I, (nwc (pf_box rfl rfl hb111u hl115u ha114u) nwn)⟩
  · intro ρ g I av
    obtain ⟨L42u, hb43u, hl44u, ha45u⟩ := av 1 _ rfl rfl
    obtain ⟨L46u, hb47u, hl48u, ha49u⟩ := av 3 _ rfl rfl
    obtain ⟨b54u, L50u, hr55u, hb51u, hl52u, ha53u⟩ := av 11 _ rfl rfl
    have hr56u := av 0 _ rfl rfl
    have hr58u := av 2 _ rfl rfl
    refine ⟨_, (up1 (up1 (up1 rfl hr55u) hr56u) hr58u), ?_⟩
    refine EW.seq ?_
    refine EW.seq ?_
    refine EW.region (by kernel_rfl) ?_
    refine EWL.op rfl ?_
    refine s_fa f83u2 rfl ?_
    refine EWL.op rfl ?_
    refine s_ldSl t81 rfl (Blk.cells hb43u) (At.fld ha45u 2 rfl) fun v116u m117u => ?_
    refine EWL.op rfl ?_
    refine s_lenR (kd := (kNums .u8 32)) (xs := a0.way) s81 rfl (Sl.rs m117u) ?_
    refine EWL.op rfl ?_
    refine s_mv ?_
    refine EW.block ?_
    refine EW.loop (b := (law05uTo_b1 a0 r16u)) (fun (s : (Int × (List (List Int)))) ρ w => ∃ (g121u : GW) (v125u : Value) (x129u : Int) (L131u : List Value) (v135u : Value) (L138u : List Value) (x144u : (List (List Int))) (v142u : Value), w = g121u.w ∧ Inv (or_ (no) (iv 1400 1500)) (or_ Z (iv 1400 1500)) g0 g121u ∧ (x129u, x144u) = s ∧ ρ 2 = .pointer (some ⟨b7u, 0, none⟩) ∧ ρ 3 = .pointer (some ⟨b54u, 0, none⟩) ∧ ρ 13 = v125u ∧ Sl (kNums .u8 32) g121u 0 a0.way v125u ∧ ρ 14 = .int .i64 (a0.way.length : Int) ∧ ρ 15 = .int .i64 x129u ∧ Row 132 (kNums .u8 32) g121u 1403 ([]) v135u ∧ Blk g121u b7u 1402 73 L131u ∧ L131u.length = 1026 ∧ At (h_ring_Sig v135u) g121u 0 ring_Sig.zero L131u 0 ∧ Row 132 (kNums .u8 32) g121u 1404 x144u v142u ∧ Blk g121u b54u 1405 73 L138u ∧ L138u.length = 1026 ∧ At (h_ring_Sig v142u) g121u 0 ({ sig := r16u, key := a0.key, way := [] } : ring_Sig) L138u 0) hF0 ⟨g, _, 0, _, (.slice none 0 0), _, ([] : List (List Int)), (.slice none 0 0), rfl, I, rfl, rfl, rfl, rfl, m117u, rfl, rfl, Row.none, hb47u, hl48u, ha49u, Row.none, hb51u, hl52u, ha53u⟩ ?_
    · rintro s_ o145u ρ w ⟨g121u, v125u, x129u, L131u, v135u, L138u, x144u, v142u, rfl, I, eo, hr122u, hr123u, hr124u, m126u, hr127u, hr128u, m136u, hb132u, hl134u, ha133u, m143u, hb139u, hl141u, ha140u⟩ hF1 hr1
      subst eo
      unfold law05uTo_b1 at hF1
      refine EW.re (up1 (up1 (up1 (up1 (up1 rfl hr122u) hr123u) hr124u) hr127u) hr128u) ?_
      refine EW.seq ?_
      refine EW.region (by kernel_rfl) ?_
      refine EWL.op rfl ?_
      refine s_lss rfl rfl ?_
      refine EW.seq ?_
      refine EW.condS rfl rfl (fun hb146u => ?_) (fun hb146u => ?_)
      · replace hF1 := bif_t hb146u hF1
        refine EW.skip ?_
        refine EW.seq ?_
        refine EW.block ?_
        refine EW.seq ?_
        refine EW.region (by kernel_rfl) ?_
        refine EWL.op rfl ?_
        obtain ⟨x147u, h148u, hF1⟩ := bnd hF1
        refine s_idxS s81 t24 rfl m126u rfl h148u fun b149u o150u L151u hc152u ha153u => ?_
        refine EWL.op rfl ?_
        refine s_ldK t24 rfl (Imm.cells hc152u) ha153u rfl rfl fun cs154u m155u => ?_
        refine EWL.op rfl ?_
        refine s_newK (kNums .u8 32) 1407 I (zpv rfl) z24 rfl fun g161u b156u L160u s162u I hb157u hl159u ha158u => ?_
        refine EWL.opn rfl ?_
        have m163u : (kNums .u8 32).M g161u 0 x147u _ := (Kd.upK rfl s162u no_ m155u)
        refine s_stK (kd := (kNums .u8 32)) I t24 rfl rfl m163u rfl hb157u (ble_ hl159u rfl) (by decide) nc0 (zpv rfl) fun g164u L166u s165u I hb167u hu168u hn169u => ?_
        have ha170u := hn169u
        have hl171u := hu168u.1.trans hl159u
        refine EW.region (by kernel_rfl) ?_
        refine EWL.op rfl ?_
        refine s_fa f73u2 rfl ?_
        refine EWL.op rfl ?_
        refine s_ldFix t71 rfl (Blk.cells (Blk.up s165u (Nat.ne_of_beq_eq_false rfl) (Blk.up s162u no_ hb139u))) (At.fld (At.up (At.up ha140u s162u no_ nc0) s165u (Nat.ne_of_beq_eq_false rfl) nc0) 2 rfl) ?_
        refine EWL.op rfl ?_
        refine s_ldK t24 rfl (Blk.cells hb167u) ha170u rfl rfl fun cs172u m173u => ?_
        refine EWL.op rfl ?_
        refine s_bslK (kd := (kNums .u8 32)) (xs := ([x147u] : List (List Int))) 1408 I s71 t132 z132 rfl rfl (by decide) rfl (by decide) (And.intro (congrArg some (kl (d := (kNums .u8 32)) m173u).symm) (trivial)) (Seg.flat (d := (kNums .u8 32)) (g := g164u) (alls m173u alle)) rfl (zpv rfl) fun g176u v174u s177u I m175u => ?_
        refine EWL.op rfl ?_
        obtain ⟨l178u, h179u, hF1⟩ := bnd hF1
        refine s_app (kd := (kNums .u8 32)) I s71 rfl s71 t132 z132 rfl (Row.up rfl s177u no_ no_ (Row.up rfl s165u (Nat.ne_of_beq_eq_false rfl) (Nat.ne_of_beq_eq_false rfl) (Row.up rfl s162u no_ no_ m143u))) (Sl.rs (Row.sl m175u)) h179u (by decide) (zpv rfl) (zpv rfl) fun g182u v180u s183u I m181u => ?_
        refine EWL.op rfl ?_
        refine s_fa f73u2 rfl ?_
        refine EWL.opn rfl ?_
        have m184u : (kFix v180u []).M g182u 0 (l178u : List (List Int)) _ := Row.fix m181u
        refine s_stK (kd := (kFix v180u ([] : List (List Int)))) I t71 rfl rfl m184u rfl (Blk.up s183u (Nat.ne_of_beq_eq_false rfl) (Blk.up s177u no_ (Blk.up s165u (Nat.ne_of_beq_eq_false rfl) (Blk.up s162u no_ hb139u)))) (ble_ hl141u rfl) (by decide) nc0 (zpv rfl) fun g185u L187u s186u I hb188u hu189u hn190u => ?_
        have ha191u : At (h_ring_Sig v180u) g185u 0 ({ sig := r16u, key := a0.key, way := [] } : ring_Sig) L187u 0 := At.setG (At.up (At.up (At.up (At.up (At.up ha140u s162u no_ nc0) s165u (Nat.ne_of_beq_eq_false rfl) nc0) s177u no_ nc0) s183u (Nat.ne_of_beq_eq_false rfl) nc0) s186u (Nat.ne_of_beq_eq_false rfl) nc0) 2 rfl rfl (D73u2 _ _ v142u v180u) rfl hu189u (Nat.le_refl _) (Nat.le_refl _) hn190u
        have hl192u := hu189u.1.trans hl141u
        refine EW.region (by kernel_rfl) ?_
        refine EWL.op rfl ?_
        refine s_add rfl rfl ?_
        refine EWL.op rfl ?_
        refine s_mv ?_
        exact ⟨_, (som hF1).symm, g185u, _, (IntKind.i64.wrap (x129u + 1)), _, v135u, _, l178u, v180u, rfl, I, rfl, rfl, rfl, rfl, (Sl.up rfl s186u (Nat.ne_of_beq_eq_false rfl) (Nat.ne_of_beq_eq_false rfl) (Sl.up rfl s183u (Nat.ne_of_beq_eq_false rfl) (Nat.ne_of_beq_eq_false rfl) (Sl.up rfl s177u no_ no_ (Sl.up rfl s165u (Nat.ne_of_beq_eq_false rfl) (Nat.ne_of_beq_eq_false rfl) (Sl.up rfl s162u no_ no_ m126u))))), rfl, rfl, (Row.up rfl s186u (Nat.ne_of_beq_eq_false rfl) (Nat.ne_of_beq_eq_false rfl) (Row.up rfl s183u (Nat.ne_of_beq_eq_false rfl) (Nat.ne_of_beq_eq_false rfl) (Row.up rfl s177u no_ no_ (Row.up rfl s165u (Nat.ne_of_beq_eq_false rfl) (Nat.ne_of_beq_eq_false rfl) (Row.up rfl s162u no_ no_ m136u))))), (Blk.up s186u (Nat.ne_of_beq_eq_false rfl) (Blk.up s183u (Nat.ne_of_beq_eq_false rfl) (Blk.up s177u no_ (Blk.up s165u (Nat.ne_of_beq_eq_false rfl) (Blk.up s162u no_ hb132u))))), hl134u, (At.up (At.up (At.up (At.up (At.up ha133u s162u no_ nc0) s165u (Nat.ne_of_beq_eq_false rfl) nc0) s177u no_ nc0) s183u (Nat.ne_of_beq_eq_false rfl) nc0) s186u (Nat.ne_of_beq_eq_false rfl) nc0), (Row.up rfl s186u (Nat.ne_of_beq_eq_false rfl) (Nat.ne_of_beq_eq_false rfl) m181u), hb188u, hl192u, ha191u⟩
      · replace hF1 := bif_f hb146u hF1
        refine EW.exit ?_
        have hF0 := out_ hF1 hr1
        refine EW.seq ?_
        refine EW.region (by kernel_rfl) ?_
        refine EWL.op rfl ?_
        have m193u := Row.rc rfl (by decide) m143u 0
        have s195u := Stp.rc1 g121u 1404 0
        replace I := I.to s195u (Lo.rc (d := 0) I.l (.inl z0)) (at_in (zpv rfl))
        obtain ⟨g194u, rc_⟩ : ∃ q, q = g121u.rc 1404 (1404 + 1) 0 := ⟨_, rfl⟩
        rw [← rc_] at m193u s195u I
        refine stp.wld (w := g194u.w) (by rw [rc_]; rfl) ?_
        clear rc_
        have ha196u := frz_ring_Sig (At.up ha140u s195u (Nat.ne_of_beq_eq_false rfl) nc0) (Row.sl m193u)
        have hb197u := (Blk.up s195u (Nat.ne_of_beq_eq_false rfl) hb139u)
        refine s_ldK t73 rfl (Blk.cells hb197u) ha196u rfl rfl fun cs198u m199u => ?_
        refine EWL.opn rfl ?_
        have m200u : k_ring_Sig.M g194u 0 ({ sig := r16u, key := a0.key, way := x144u } : ring_Sig) _ := m199u
        refine s_stK (kd := k_ring_Sig) I t73 rfl rfl m200u rfl (Blk.up s195u (Nat.ne_of_beq_eq_false rfl) hb132u) (ble_ hl134u rfl) (by decide) nc0 (zpv rfl) fun g201u L203u s202u I hb204u hu205u hn206u => ?_
        have ha207u := hn206u
        have hl208u := hu205u.1.trans hl134u
        refine EW.ret ?_
        obtain rfl := som hF0
        refine endsC (.inl rfl) rfl (run_lvA t73 (Blk.cells hb204u) (At.fits ha207u (by decide))) ?_
        exact ret_ (g := g201u) I lo hZ z0 rfl ⟨_, rfl, Kd.upK rfl (Stp.rc g201u 1400 1500 0) fz ha207u⟩
theorem law18uTo_ok {g0 : GW} {Z : Nat → Prop} (hZ : ∀ c, Z c → c = 0 ∨ 1600 ≤ c) (z0 : Z 0) (lo : Lo Z g0)  {a0 : ref18uMemo} {ca0 : List Value} (ma0 : k_ref18uMemo.M g0 0 a0 ca0) {r : memo_Memo} (hF0 : law18uTo a0 = some r) :
    Calls P 19 [.agg ca0.toArray].toArray g0.w (Rets (RR (no) Z g0 (PAg k_memo_Memo r))) := by
  refine calls_of Go.Proofs.Try.func19 rfl (Nat.le_of_ble_eq_true rfl) (by kernel_rfl) ?_
  have I : Inv (or_ (no) (iv 1500 1600)) (or_ Z (iv 1500 1600)) g0 g0 := Inv.start (lo.mono (fun _ h => .inl h))
  have fz : ¬ iv 1500 1600 0 := nz0 rfl
  unfold law18uTo at hF0
  refine EW.seq ?_
  refine EW.region (by kernel_rfl) ?_
  refine EWL.op rfl ?_
  refine s_boxK (kd := k_ref18uMemo) (r := a0) 1501 I (zpv rfl) ma0 rfl rfl fun g5u b1u s6u I hb2u hl4u ha3u => ?_
  refine EWL.op rfl ?_
  refine s_newK (h_memo_Memo (.slice none 0 0)) 1502 I (zpv rfl) z75 rfl fun g12u b7u L11u s13u I hb8u hl10u ha9u => ?_
  refine EW.seq ?_
  obtain ⟨r16u, h17u, hF0⟩ := bnd hF0
  obtain ⟨r26u, h27u, hF0⟩ := bnd hF0
  refine EW.drawn [] [⟨SF.val 1 (.pointer (some ⟨b1u, 0, none⟩)), none, none⟩, ⟨SF.bx b1u 1501 85 k_ref18uMemo rfl a0, none, none⟩, ⟨SF.val 2 (.pointer (some ⟨b7u, 0, none⟩)), none, none⟩, ⟨SF.bx b7u 1502 75 (h_memo_Memo (.slice none 0 0)) rfl memo_Memo.zero, none, none⟩, ⟨SF.val 6 (.pointer (some ⟨b1u, 0 + 0, none⟩)), some 0, none⟩, ⟨SF.val 7 (.int .i64 a0.kind), some 1, none⟩, ⟨SF.val 8 (.pointer (some ⟨b1u, 0 + 1, none⟩)), some 2, none⟩, ⟨SF.val 9 (.int .u32 a0.channel), some 3, none⟩, ⟨SF.val 10 (.pointer (some ⟨b1u, 0 + 2, none⟩)), some 4, none⟩, ⟨SF.val 11 (.int .u64 a0.round), some 5, none⟩, ⟨SF.val 12 (.pointer (some ⟨b1u, 0 + 3, none⟩)), some 6, none⟩, ⟨SF.agg 13 k_ref12uOp rfl a0.op, some 7, none⟩, ⟨SF.agg 14 k_pact_Op rfl r16u, some 8, none⟩, ⟨SF.val 15 (.pointer (some ⟨b1u, 0 + 43, none⟩)), some 9, none⟩, ⟨SF.agg 16 k_ref05uSig rfl a0.sig, some 10, none⟩, ⟨SF.agg 17 k_ring_Sig rfl r26u, some 11, none⟩, ⟨SF.agg 18 (h_memo_Memo (.slice none 0 0)) rfl ({ kind := a0.kind, channel := a0.channel, round := a0.round, op := r16u, trail := [], sig := r26u } : memo_Memo), some 12, none⟩, ⟨SF.box 3 1505 75 (h_memo_Memo (.slice none 0 0)) rfl memo_Memo.zero, some 13, some 14⟩, ⟨SF.box 3 1505 75 (h_memo_Memo (.slice none 0 0)) rfl ({ kind := a0.kind, channel := a0.channel, round := a0.round, op := r16u, trail := [], sig := r26u } : memo_Memo), some 14, none⟩] [(14, at_ 1505)] (by kernel_rfl) (by kernel_rfl) (by kernel_rfl) ?_ I ?_ (dcons ?_ (dcons ?_ (dcons ?_ (dcons ?_ (dcons ?_ (dcons ?_ (dcons ?_ (dcons ?_ (dcons ?_ (dcons ?_ (dcons ?_ (dcons ?_ (dcons ?_ (dcons ?_ (dcons ?_ dnil))))))))))))))) ?_
  · exact (And.intro (And.intro (Nat.ne_of_beq_eq_false rfl) (And.intro trivial (And.intro (And.intro (Nat.ne_of_beq_eq_false rfl) trivial) (And.intro trivial (And.intro (And.intro (Nat.ne_of_beq_eq_false rfl) trivial) (And.intro trivial (And.intro trivial (And.intro trivial (And.intro trivial (And.intro trivial (And.intro trivial (And.intro trivial (And.intro trivial (And.intro trivial (And.intro trivial (And.intro trivial (And.intro trivial (And.intro trivial (And.intro trivial (And.intro trivial trivial)))))))))))))))))))) trivial)
  · exact (nwc (pf_val rfl) (nwc (pf_bx rfl (Blk.up s13u no_ hb2u) hl4u (At.up ha3u s13u no_ nc0)) (nwc (pf_val rfl) (nwc (pf_bx rfl hb8u hl10u ha9u) nwn))))
  · intro ρ g I av
    have hr70u := av 0 _ rfl (by kernel_rfl)
    refine ddo (up1 rfl hr70u) rfl ?_
    refine s_fa f85u0 rfl ?_
    exact ⟨_, rfl, (Stp.refl _ _), I, (nwc (pf_val rfl) nwn)⟩
  · intro ρ g I av
    obtain ⟨L72u, hb73u, hl74u, ha75u⟩ := av 1 _ rfl (by kernel_rfl)
    have hr76u := av 4 _ rfl (by kernel_rfl)
    refine ddo (up1 rfl hr76u) rfl ?_
    refine s_ldS t3 rfl (Blk.cells hb73u) (At.fld ha75u 0 rfl) ?_
    exact ⟨_, rfl, (Stp.refl _ _), I, (nwc (pf_val rfl) nwn)⟩
  · intro ρ g I av
    have hr78u := av 0 _ rfl (by kernel_rfl)
    refine ddo (up1 rfl hr78u) rfl ?_
    refine s_fa f85u1 rfl ?_
    exact ⟨_, rfl, (Stp.refl _ _), I, (nwc (pf_val rfl) nwn)⟩
  · intro ρ g I av
    obtain ⟨L80u, hb81u, hl82u, ha83u⟩ := av 1 _ rfl (by kernel_rfl)
    have hr84u := av 6 _ rfl (by kernel_rfl)
    refine ddo (up1 rfl hr84u) rfl ?_
    refine s_ldS t65 rfl (Blk.cells hb81u) (At.fld ha83u 1 rfl) ?_
    exact ⟨_, rfl, (Stp.refl _ _), I, (nwc (pf_val rfl) nwn)⟩
  · intro ρ g I av
    have hr86u := av 0 _ rfl (by kernel_rfl)
    refine ddo (up1 rfl hr86u) rfl ?_
    refine s_fa f85u2 rfl ?_
    exact ⟨_, rfl, (Stp.refl _ _), I, (nwc (pf_val rfl) nwn)⟩
  · intro ρ g I av
    obtain ⟨L88u, hb89u, hl90u, ha91u⟩ := av 1 _ rfl (by kernel_rfl)
    have hr92u := av 8 _ rfl (by kernel_rfl)
    refine ddo (up1 rfl hr92u) rfl ?_
    refine s_ldS t23 rfl (Blk.cells hb89u) (At.fld ha91u 2 rfl) ?_
    exact ⟨_, rfl, (Stp.refl _ _), I, (nwc (pf_val rfl) nwn)⟩
  · intro ρ g I av
    have hr94u := av 0 _ rfl (by kernel_rfl)
    refine ddo (up1 rfl hr94u) rfl ?_
    refine s_fa f85u3 rfl ?_
    exact ⟨_, rfl, (Stp.refl _ _), I, (nwc (pf_val rfl) nwn)⟩
  · intro ρ g I av
    obtain ⟨L96u, hb97u, hl98u, ha99u⟩ := av 1 _ rfl (by kernel_rfl)
    have hr100u := av 10 _ rfl (by kernel_rfl)
    refine ddo (up1 rfl hr100u) rfl ?_
    refine s_ldK t28 rfl (Blk.cells hb97u) (At.fld ha99u 3 rfl) rfl rfl fun cs102u m103u => ?_
    exact ⟨_, rfl, (Stp.refl _ _), I, (nwc (pf_agg rfl rfl m103u) nwn)⟩
  · intro ρ g I av
    obtain ⟨_, hr104u, m105u⟩ := av 11 _ rfl (by kernel_rfl)
    refine ddo (up1 rfl hr104u) rfl ?_
    refine s_cf I k16 rfl (law12uOp_ok (zle hZ rfl rfl) (.inl z0) I.l m105u h17u) no_any fun g108u v106u s109u I p107u => ?_
    obtain ⟨cs110u, rfl, m111u⟩ := p107u
    exact ⟨_, rfl, s109u, I, (nwc (pf_agg rfl rfl m111u) nwn)⟩
  · intro ρ g I av
    have hr112u := av 0 _ rfl (by kernel_rfl)
    refine ddo (up1 rfl hr112u) rfl ?_
    refine s_fa f85u5 rfl ?_
    exact ⟨_, rfl, (Stp.refl _ _), I, (nwc (pf_val rfl) nwn)⟩
  · intro ρ g I av
    obtain ⟨L114u, hb115u, hl116u, ha117u⟩ := av 1 _ rfl (by kernel_rfl)
    have hr118u := av 13 _ rfl (by kernel_rfl)
    refine ddo (up1 rfl hr118u) rfl ?_
    refine s_ldK t83 rfl (Blk.cells hb115u) (At.fld ha117u 5 rfl) rfl rfl fun cs120u m121u => ?_
    exact ⟨_, rfl, (Stp.refl _ _), I, (nwc (pf_agg rfl rfl m121u) nwn)⟩
  · intro ρ g I av
    obtain ⟨_, hr122u, m123u⟩ := av 14 _ rfl (by kernel_rfl)
    refine ddo (up1 rfl hr122u) rfl ?_
    refine s_cf I k40 rfl (law05uTo_ok (zle hZ rfl rfl) (.inl z0) I.l m123u h27u) no_any fun g126u v124u s127u I p125u => ?_
    obtain ⟨cs128u, rfl, m129u⟩ := p125u
    exact ⟨_, rfl, s127u, I, (nwc (pf_agg rfl rfl m129u) nwn)⟩
  · intro ρ g I av
    have hr130u := av 5 _ rfl (by kernel_rfl)
    have hr132u := av 7 _ rfl (by kernel_rfl)
    have hr134u := av 9 _ rfl (by kernel_rfl)
    obtain ⟨_, hr136u, m137u⟩ := av 12 _ rfl (by kernel_rfl)
    obtain ⟨_, hr138u, m139u⟩ := av 15 _ rfl (by kernel_rfl)
    refine ddo (up1 (up1 (up1 (up1 (up1 rfl hr130u) hr132u) hr134u) hr136u) hr138u) rfl ?_
    refine s_bldK (kd := (h_memo_Memo (.slice none 0 0))) (r := ({ kind := a0.kind, channel := a0.channel, round := a0.round, op := r16u, trail := [], sig := r26u } : memo_Memo)) (g := g) zs75 Z75 l75 P75 (And.intro rfl (And.intro rfl (And.intro rfl (And.intro (congrArg some (kl (d := k_pact_Op) m137u).symm) (And.intro (congrArg some (kl (d := k_ring_Sig) m139u).symm) (trivial)))))) (SM.flat (fs := hs_memo_Memo (.slice none 0 0)) (htl_memo_Memo (.slice none 0 0)) (allc rfl (allc rfl (allc rfl (allc m137u (allc (And.intro rfl rfl) (allc m139u alln))))))) fun cs140u m141u => ?_
    exact ⟨_, rfl, (Stp.refl _ _), I, (nwc (pf_agg rfl rfl m141u) nwn)⟩
  · intro ρ g I av
    refine ddo rfl rfl ?_
    refine s_newK (h_memo_Memo (.slice none 0 0)) 1505 I (zpv rfl) z75 rfl fun g147u b142u L146u s148u I hb143u hl145u ha144u => ?_
    exact ⟨_, rfl, s148u, I, (nwc (pf_box rfl rfl hb143u hl145u ha144u) nwn)⟩
  · intro ρ g I av
    obtain ⟨b153u, L149u, hr154u, hb150u, hl151u, ha152u⟩ := av 17 _ rfl (by kernel_rfl)
    obtain ⟨_, hr155u, m156u⟩ := av 16 _ rfl (by kernel_rfl)
    refine ddon (up1 (up1 rfl hr154u) hr155u) rfl ?_
    have m157u : (h_memo_Memo (.slice none 0 0)).M g 0 ({ kind := a0.kind, channel := a0.channel, round := a0.round, op := r16u, trail := [], sig := r26u } : memo_Memo) _ := m156u
    refine s_stK (kd := (h_memo_Memo (.slice none 0 0))) I t75 rfl rfl m157u rfl hb150u (ble_ hl151u rfl) (by decide) nc0 (zpv rfl) fun g158u L160u s159u I hb161u hu162u hn163u => ?_
    have ha164u := hn163u
    have hl165u := hu162u.1.trans hl151u
    exact ⟨_, rfl, s159u, I, (nwc (pf_box rfl rfl hb161u hl165u ha164u) nwn)⟩
  · intro ρ g I av
    obtain ⟨L52u, hb53u, hl54u, ha55u⟩ := av 1 _ rfl rfl
    obtain ⟨L56u, hb57u, hl58u, ha59u⟩ := av 3 _ rfl rfl
    obtain ⟨b64u, L60u, hr65u, hb61u, hl62u, ha63u⟩ := av 18 _ rfl rfl
    have hr66u := av 0 _ rfl rfl
    have hr68u := av 2 _ rfl rfl
    refine ⟨_, (up1 (up1 (up1 rfl hr65u) hr66u) hr68u), ?_⟩
    refine EW.seq ?_
    refine EW.seq ?_
    refine EW.region (by kernel_rfl) ?_
    refine EWL.op rfl ?_
    refine s_fa f85u4 rfl ?_
    refine EWL.op rfl ?_
    refine s_ldSl t29 rfl (Blk.cells hb53u) (At.fld ha55u 4 rfl) fun v166u m167u => ?_
    refine EWL.op rfl ?_
    refine s_lenR (kd := k_ref18uHop) (xs := a0.trail) s29 rfl (Sl.rs m167u) ?_
    refine EWL.op rfl ?_
    refine s_mv ?_
    refine EW.block ?_
    refine EW.loop (b := (law18uTo_b1 a0 r16u r26u)) (fun (s : (Int × (List memo_Hop))) ρ w => ∃ (g171u : GW) (v175u : Value) (x179u : Int) (L181u : List Value) (v185u : Value) (L188u : List Value) (x194u : (List memo_Hop)) (v192u : Value), w = g171u.w ∧ Inv (or_ (no) (iv 1500 1600)) (or_ Z (iv 1500 1600)) g0 g171u ∧ (x179u, x194u) = s ∧ ρ 2 = .pointer (some ⟨b7u, 0, none⟩) ∧ ρ 3 = .pointer (some ⟨b64u, 0, none⟩) ∧ ρ 20 = v175u ∧ Sl k_ref18uHop g171u 0 a0.trail v175u ∧ ρ 21 = .int .i64 (a0.trail.length : Int) ∧ ρ 22 = .int .i64 x179u ∧ Row 111 k_memo_Hop g171u 1503 ([]) v185u ∧ Blk g171u b7u 1502 75 L181u ∧ L181u.length = 1069 ∧ At (h_memo_Memo v185u) g171u 0 memo_Memo.zero L181u 0 ∧ Row 111 k_memo_Hop g171u 1504 x194u v192u ∧ Blk g171u b64u 1505 75 L188u ∧ L188u.length = 1069 ∧ At (h_memo_Memo v192u) g171u 0 ({ kind := a0.kind, channel := a0.channel, round := a0.round, op := r16u, trail := [], sig := r26u } : memo_Memo) L188u 0) hF0 ⟨g, _, 0, _, (.slice none 0 0), _, ([] : List memo_Hop), (.slice none 0 0), rfl, I, rfl, rfl, rfl, rfl, m167u, rfl, rfl, Row.none, hb57u, hl58u, ha59u, Row.none, hb61u, hl62u, ha63u⟩ ?_
    · rintro s_ o195u ρ w ⟨g171u, v175u, x179u, L181u, v185u, L188u, x194u, v192u, rfl, I, eo, hr172u, hr173u, hr174u, m176u, hr177u, hr178u, m186u, hb182u, hl184u, ha183u, m193u, hb189u, hl191u, ha190u⟩ hF1 hr1
      subst eo
      unfold law18uTo_b1 at hF1
      refine EW.re (up1 (up1 (up1 (up1 (up1 rfl hr172u) hr173u) hr174u) hr177u) hr178u) ?_
      refine EW.seq ?_
      refine EW.region (by kernel_rfl) ?_
      refine EWL.op rfl ?_
      refine s_lss rfl rfl ?_
      refine EW.seq ?_
      refine EW.condS rfl rfl (fun hb196u => ?_) (fun hb196u => ?_)
      · replace hF1 := bif_t hb196u hF1
        refine EW.skip ?_
        refine EW.seq ?_
        refine EW.block ?_
        refine EW.seq ?_
        refine EW.region (by kernel_rfl) ?_
        refine EWL.op rfl ?_
        obtain ⟨x197u, h198u, hF1⟩ := bnd hF1
        refine s_idxS s29 t99 rfl m176u rfl h198u fun b199u o200u L201u hc202u ha203u => ?_
        refine EWL.op rfl ?_
        refine s_ldK t99 rfl (Imm.cells hc202u) ha203u rfl rfl fun cs204u m205u => ?_
        refine EWL.op rfl ?_
        refine s_newK k_ref18uHop 1507 I (zpv rfl) z99 rfl fun g211u b206u L210u s212u I hb207u hl209u ha208u => ?_
        refine EWL.opn rfl ?_
        have m213u : k_ref18uHop.M g211u 0 x197u _ := (Kd.upK rfl s212u no_ m205u)
        refine s_stK (kd := k_ref18uHop) I t99 rfl rfl m213u rfl hb207u (ble_ hl209u rfl) (by decide) nc0 (zpv rfl) fun g214u L216u s215u I hb217u hu218u hn219u => ?_
        have ha220u := hn219u
        have hl221u := hu218u.1.trans hl209u
        refine EW.region (by kernel_rfl) ?_
        refine EWL.op rfl ?_
        refine s_fa f75u4 rfl ?_
        refine EWL.op rfl ?_
        refine s_ldFix t40 rfl (Blk.cells (Blk.up s215u (Nat.ne_of_beq_eq_false rfl) (Blk.up s212u no_ hb189u))) (At.fld (At.up (At.up ha190u s212u no_ nc0) s215u (Nat.ne_of_beq_eq_false rfl) nc0) 4 rfl) ?_
        refine EWL.op rfl ?_
        refine s_fa f99u0 rfl ?_
        refine EWL.op rfl ?_
        refine s_ldS t65 rfl (Blk.cells hb217u) (At.fld ha220u 0 rfl) ?_
        refine EWL.op rfl ?_
        refine s_fa f99u1 rfl ?_
        refine EWL.op rfl ?_
        refine s_ldS t23 rfl (Blk.cells hb217u) (At.fld ha220u 1 rfl) ?_
        refine EWL.op rfl ?_
        refine s_fa f99u2 rfl ?_
        refine EWL.op rfl ?_
        refine s_ldS t23 rfl (Blk.cells hb217u) (At.fld ha220u 2 rfl) ?_
        refine EWL.op rfl ?_
        refine s_bldK (kd := k_memo_Hop) (r := ({ channel := x197u.channel, amount := x197u.amount, id := x197u.id } : memo_Hop)) (g := g214u) zs111 Z111 l111 P111 (And.intro rfl (And.intro rfl (And.intro rfl (trivial)))) (SM.flat (fs := fs_memo_Hop) tl_memo_Hop (allc rfl (allc rfl (allc rfl alln)))) fun cs222u m223u => ?_
        refine EWL.op rfl ?_
        refine s_bslK (kd := k_memo_Hop) (xs := ([({ channel := x197u.channel, amount := x197u.amount, id := x197u.id } : memo_Hop)] : List memo_Hop)) 1508 I s40 t111 z111 rfl rfl (by decide) rfl (by decide) (And.intro (congrArg some (kl (d := k_memo_Hop) m223u).symm) (trivial)) (Seg.flat (d := k_memo_Hop) (g := g214u) (alls m223u alle)) rfl (zpv rfl) fun g226u v224u s227u I m225u => ?_
        refine EWL.op rfl ?_
        obtain ⟨l228u, h229u, hF1⟩ := bnd hF1
        refine s_app (kd := k_memo_Hop) I s40 rfl s40 t111 z111 rfl (Row.up rfl s227u no_ no_ (Row.up rfl s215u (Nat.ne_of_beq_eq_false rfl) (Nat.ne_of_beq_eq_false rfl) (Row.up rfl s212u no_ no_ m193u))) (Sl.rs (Row.sl m225u)) h229u (by decide) (zpv rfl) (zpv rfl) fun g232u v230u s233u I m231u => ?_
        refine EWL.op rfl ?_
        refine s_fa f75u4 rfl ?_
        refine EWL.opn rfl ?_
        have m234u : (kFix v230u []).M g232u 0 (l228u : List memo_Hop) _ := Row.fix m231u
        refine s_stK (kd := (kFix v230u ([] : List memo_Hop))) I t40 rfl rfl m234u rfl (Blk.up s233u (Nat.ne_of_beq_eq_false rfl) (Blk.up s227u no_ (Blk.up s215u (Nat.ne_of_beq_eq_false rfl) (Blk.up s212u no_ hb189u)))) (ble_ hl191u rfl) (by decide) nc0 (zpv rfl) fun g235u L237u s236u I hb238u hu239u hn240u => ?_
        have ha241u : At (h_memo_Memo v230u) g235u 0 ({ kind := a0.kind, channel := a0.channel, round := a0.round, op := r16u, trail := [], sig := r26u } : memo_Memo) L237u 0 := At.setG (At.up (At.up (At.up (At.up (At.up ha190u s212u no_ nc0) s215u (Nat.ne_of_beq_eq_false rfl) nc0) s227u no_ nc0) s233u (Nat.ne_of_beq_eq_false rfl) nc0) s236u (Nat.ne_of_beq_eq_false rfl) nc0) 4 rfl rfl (D75u4 _ _ v192u v230u) rfl hu239u (Nat.le_refl _) (Nat.le_refl _) hn240u
        have hl242u := hu239u.1.trans hl191u
        refine EW.region (by kernel_rfl) ?_
        refine EWL.op rfl ?_
        refine s_add rfl rfl ?_
        refine EWL.op rfl ?_
        refine s_mv ?_
        exact ⟨_, (som hF1).symm, g235u, _, (IntKind.i64.wrap (x179u + 1)), _, v185u, _, l228u, v230u, rfl, I, rfl, rfl, rfl, rfl, (Sl.up rfl s236u (Nat.ne_of_beq_eq_false rfl) (Nat.ne_of_beq_eq_false rfl) (Sl.up rfl s233u (Nat.ne_of_beq_eq_false rfl) (Nat.ne_of_beq_eq_false rfl) (Sl.up rfl s227u no_ no_ (Sl.up rfl s215u (Nat.ne_of_beq_eq_false rfl) (Nat.ne_of_beq_eq_false rfl) (Sl.up rfl s212u no_ no_ m176u))))), rfl, rfl, (Row.up rfl s236u (Nat.ne_of_beq_eq_false rfl) (Nat.ne_of_beq_eq_false rfl) (Row.up rfl s233u (Nat.ne_of_beq_eq_false rfl) (Nat.ne_of_beq_eq_false rfl) (Row.up rfl s227u no_ no_ (Row.up rfl s215u (Nat.ne_of_beq_eq_false rfl) (Nat.ne_of_beq_eq_false rfl) (Row.up rfl s212u no_ no_ m186u))))), (Blk.up s236u (Nat.ne_of_beq_eq_false rfl) (Blk.up s233u (Nat.ne_of_beq_eq_false rfl) (Blk.up s227u no_ (Blk.up s215u (Nat.ne_of_beq_eq_false rfl) (Blk.up s212u no_ hb182u))))), hl184u, (At.up (At.up (At.up (At.up (At.up ha183u s212u no_ nc0) s215u (Nat.ne_of_beq_eq_false rfl) nc0) s227u no_ nc0) s233u (Nat.ne_of_beq_eq_false rfl) nc0) s236u (Nat.ne_of_beq_eq_false rfl) nc0), (Row.up rfl s236u (Nat.ne_of_beq_eq_false rfl) (Nat.ne_of_beq_eq_false rfl) m231u), hb238u, hl242u, ha241u⟩
      · replace hF1 := bif_f hb196u hF1
        refine EW.exit ?_
        have hF0 := out_ hF1 hr1
        refine EW.seq ?_
        refine EW.region (by kernel_rfl) ?_
        refine EWL.op rfl ?_
        have m243u := Row.rc rfl (by decide) m193u 0
        have s245u := Stp.rc1 g171u 1504 0
        replace I := I.to s245u (Lo.rc (d := 0) I.l (.inl z0)) (at_in (zpv rfl))
        obtain ⟨g244u, rc_⟩ : ∃ q, q = g171u.rc 1504 (1504 + 1) 0 := ⟨_, rfl⟩
        rw [← rc_] at m243u s245u I
        refine stp.wld (w := g244u.w) (by rw [rc_]; rfl) ?_
        clear rc_
        have ha246u := frz_memo_Memo (At.up ha190u s245u (Nat.ne_of_beq_eq_false rfl) nc0) (Row.sl m243u)
        have hb247u := (Blk.up s245u (Nat.ne_of_beq_eq_false rfl) hb189u)
        refine s_ldK t75 rfl (Blk.cells hb247u) ha246u rfl rfl fun cs248u m249u => ?_
        refine EWL.opn rfl ?_
        have m250u : k_memo_Memo.M g244u 0 ({ kind := a0.kind, channel := a0.channel, round := a0.round, op := r16u, trail := x194u, sig := r26u } : memo_Memo) _ := m249u
        refine s_stK (kd := k_memo_Memo) I t75 rfl rfl m250u rfl (Blk.up s245u (Nat.ne_of_beq_eq_false rfl) hb182u) (ble_ hl184u rfl) (by decide) nc0 (zpv rfl) fun g251u L253u s252u I hb254u hu255u hn256u => ?_
        have ha257u := hn256u
        have hl258u := hu255u.1.trans hl184u
        refine EW.ret ?_
        obtain rfl := som hF0
        refine endsC (.inl rfl) rfl (run_lvA t75 (Blk.cells hb254u) (At.fits ha257u (by decide))) ?_
        exact ret_ (g := g251u) I lo hZ z0 rfl ⟨_, rfl, Kd.upK rfl (Stp.rc g251u 1500 1600 0) fz ha257u⟩
theorem law20uWishes_ok {g0 : GW} {Z : Nat → Prop} (hZ : ∀ c, Z c → c = 0 ∨ 1700 ≤ c) (z0 : Z 0) (lo : Lo Z g0) (rc0 : Nat) (zrc0 : Z rc0) {a0 : (List ref20uWish)} {va0 : Value} {ka0 : Nat} (ma0 : Sl k_ref20uWish g0 ka0 a0 va0) (hka0 : ka0 = 0 ∨ 1700 ≤ ka0) {r : (List clerk_Wish)} (hF0 : law20uWishes a0 = some r) :
    Calls P 5 [va0].toArray g0.w (Rets (RR (no) Z g0 ((fun h v => Row 42 k_clerk_Wish h rc0 r v)))) := by
  refine calls_of Go.Proofs.Try.func5 rfl (Nat.le_of_ble_eq_true rfl) (by kernel_rfl) ?_
  have I : Inv (or_ (no) (iv 1600 1700)) (or_ Z (iv 1600 1700)) g0 g0 := Inv.start (lo.mono (fun _ h => .inl h))
  have fz : ¬ iv 1600 1700 0 := nz0 rfl
  unfold law20uWishes at hF0
  refine EW.seq ?_
  refine EW.region (by kernel_rfl) ?_
  refine EWL.op rfl ?_
  refine s_as ?_
  refine EW.seq ?_
  refine EW.region (by kernel_rfl) ?_
  refine EWL.op rfl ?_
  refine s_as ?_
  refine EW.seq ?_
  refine EW.seq ?_
  refine EW.region (by kernel_rfl) ?_
  refine EWL.op rfl ?_
  refine s_mv ?_
  refine EWL.op rfl ?_
  refine s_lenR (kd := k_ref20uWish) (xs := a0) s22 rfl (Sl.rs ma0) ?_
  refine EWL.op rfl ?_
  refine s_mv ?_
  refine EW.block ?_
  refine EW.loop (b := (law20uWishes_b1 a0)) (fun (s : ((List clerk_Wish) × Int)) ρ w => ∃ (g6u : GW) (x8u : (List clerk_Wish)) (v9u : Value) (v12u : Value) (x16u : Int), w = g6u.w ∧ Inv (or_ (no) (iv 1600 1700)) (or_ Z (iv 1600 1700)) g0 g6u ∧ (x8u, x16u) = s ∧ ρ 3 = v9u ∧ Row 42 k_clerk_Wish g6u 1603 x8u v9u ∧ ρ 6 = v12u ∧ Sl k_ref20uWish g6u ka0 a0 v12u ∧ ρ 7 = .int .i64 (a0.length : Int) ∧ ρ 8 = .int .i64 x16u) hF0 ⟨g0, [], _, _, 0, rfl, I, rfl, rfl, Row.none, rfl, ma0, rfl, rfl⟩ ?_
  · rintro s_ o17u ρ w ⟨g6u, x8u, v9u, v12u, x16u, rfl, I, eo, hr7u, m10u, hr11u, m13u, hr14u, hr15u⟩ hF1 hr1
    subst eo
    unfold law20uWishes_b1 at hF1
    refine EW.re (up1 (up1 (up1 (up1 rfl hr7u) hr11u) hr14u) hr15u) ?_
    refine EW.seq ?_
    refine EW.region (by kernel_rfl) ?_
    refine EWL.op rfl ?_
    refine s_lss rfl rfl ?_
    refine EW.seq ?_
    refine EW.condS rfl rfl (fun hb18u => ?_) (fun hb18u => ?_)
    · replace hF1 := bif_t hb18u hF1
      refine EW.skip ?_
      refine EW.seq ?_
      refine EW.block ?_
      refine EW.seq ?_
      refine EW.region (by kernel_rfl) ?_
      refine EWL.op rfl ?_
      obtain ⟨x19u, h20u, hF1⟩ := bnd hF1
      refine s_idxS s22 t31 rfl m13u rfl h20u fun b21u o22u L23u hc24u ha25u => ?_
      refine EWL.op rfl ?_
      refine s_ldK t31 rfl (Imm.cells hc24u) ha25u rfl rfl fun cs26u m27u => ?_
      refine EWL.op rfl ?_
      refine s_newK k_ref20uWish 1601 I (zpv rfl) z31 rfl fun g33u b28u L32u s34u I hb29u hl31u ha30u => ?_
      refine EWL.opn rfl ?_
      have m35u : k_ref20uWish.M g33u 0 x19u _ := (Kd.upK rfl s34u no_ m27u)
      refine s_stK (kd := k_ref20uWish) I t31 rfl rfl m35u rfl hb29u (ble_ hl31u rfl) (by decide) nc0 (zpv rfl) fun g36u L38u s37u I hb39u hu40u hn41u => ?_
      have ha42u := hn41u
      have hl43u := hu40u.1.trans hl31u
      obtain ⟨r46u, h47u, hF1⟩ := bnd hF1
      obtain ⟨r58u, h59u, hF1⟩ := bnd hF1
      obtain ⟨l74u, h75u, hF1⟩ := bnd hF1
      refine EW.drawn [] [⟨SF.row 3 42 k_clerk_Wish rfl 1603 x8u, none, some 11⟩, ⟨SF.val 5 (.pointer (some ⟨b28u, 0, none⟩)), none, none⟩, ⟨SF.bx b28u 1601 31 k_ref20uWish rfl x19u, none, none⟩, ⟨SF.sl 6 k_ref20uWish rfl ka0 a0, none, none⟩, ⟨SF.val 7 (.int .i64 (a0.length : Int)), none, none⟩, ⟨SF.val 8 (.int .i64 x16u), none, none⟩, ⟨SF.row 12 42 k_clerk_Wish rfl 1603 x8u, some 0, some 11⟩, ⟨SF.val 13 (.pointer (some ⟨b28u, 0 + 0, none⟩)), some 1, none⟩, ⟨SF.agg 14 k_ref12uOp rfl x19u.op, some 2, none⟩, ⟨SF.agg 15 k_pact_Op rfl r46u, some 3, none⟩, ⟨SF.val 16 (.pointer (some ⟨b28u, 0 + 39, none⟩)), some 4, none⟩, ⟨SF.sl 17 k_ref18uHop rfl 0 x19u.trail, some 5, none⟩, ⟨SF.agg 18 k_ref18uMemo rfl ({ kind := 0, channel := 0, round := 0, op := ref12uOp.zero, trail := x19u.trail, sig := ref05uSig.zero } : ref18uMemo), some 6, none⟩, ⟨SF.agg 19 k_memo_Memo rfl r58u, some 7, none⟩, ⟨SF.sl 20 k_memo_Hop rfl 0 r58u.trail, some 8, none⟩, ⟨SF.agg 21 k_clerk_Wish rfl ({ op := r46u, trail := r58u.trail } : clerk_Wish), some 9, none⟩, ⟨SF.row 22 42 k_clerk_Wish rfl 1602 ([({ op := r46u, trail := r58u.trail } : clerk_Wish)] : List clerk_Wish), some 10, none⟩, ⟨SF.row 23 42 k_clerk_Wish rfl 1603 l74u, some 11, none⟩, ⟨SF.row 3 42 k_clerk_Wish rfl 1603 l74u, some 12, none⟩] [(11, at_ 1603)] (by kernel_rfl) (by kernel_rfl) (by kernel_rfl) ?_ I ?_ (dcons ?_ (dcons ?_ (dcons ?_ (dcons ?_ (dcons ?_ (dcons ?_ (dcons ?_ (dcons ?_ (dcons ?_ (dcons ?_ (dcons ?_ (dcons ?_ (dcons ?_ dnil))))))))))))) ?_
      · exact (And.intro (And.intro (Nat.ne_of_beq_eq_false rfl) (And.intro trivial (And.intro trivial (And.intro (And.intro (Nat.ne_of_beq_eq_false rfl) trivial) (And.intro (And.intro (ne_ld hka0 rfl rfl) trivial) (And.intro trivial (And.intro trivial (And.intro trivial (And.intro trivial (And.intro trivial (And.intro trivial (And.intro trivial (And.intro (And.intro (Nat.ne_of_beq_eq_false rfl) trivial) (And.intro trivial (And.intro trivial (And.intro (And.intro (Nat.ne_of_beq_eq_false rfl) trivial) (And.intro trivial (And.intro (And.intro (Nat.ne_of_beq_eq_false rfl) trivial) (And.intro trivial (And.intro trivial trivial)))))))))))))))))))) trivial)
      · exact (nwc (pf_row rfl rfl (Row.up rfl s37u (Nat.ne_of_beq_eq_false rfl) (Nat.ne_of_beq_eq_false rfl) (Row.up rfl s34u no_ no_ m10u))) (nwc (pf_val rfl) (nwc (pf_bx rfl hb39u hl43u ha42u) (nwc (pf_sl rfl rfl (Sl.up rfl s37u (Nat.ne_of_beq_eq_false rfl) (ne_ld hka0 rfl rfl) (Sl.up rfl s34u no_ no_ m13u))) (nwc (pf_val rfl) (nwc (pf_val rfl) nwn))))))
      · intro ρ g I av
        obtain ⟨v92u, hr90u, m91u⟩ := av 0 _ rfl (by kernel_rfl)
        refine ddo (up1 rfl hr90u) rfl ?_
        refine s_mv ?_
        exact ⟨_, rfl, (Stp.refl _ _), I, (nwc (pf_row rfl rfl m91u) nwn)⟩
      · intro ρ g I av
        have hr93u := av 1 _ rfl (by kernel_rfl)
        refine ddo (up1 rfl hr93u) rfl ?_
        refine s_fa f31u0 rfl ?_
        exact ⟨_, rfl, (Stp.refl _ _), I, (nwc (pf_val rfl) nwn)⟩
      · intro ρ g I av
        obtain ⟨L95u, hb96u, hl97u, ha98u⟩ := av 2 _ rfl (by kernel_rfl)
        have hr99u := av 7 _ rfl (by kernel_rfl)
        refine ddo (up1 rfl hr99u) rfl ?_
        refine s_ldK t28 rfl (Blk.cells hb96u) (At.fld ha98u 0 rfl) rfl rfl fun cs101u m102u => ?_
        exact ⟨_, rfl, (Stp.refl _ _), I, (nwc (pf_agg rfl rfl m102u) nwn)⟩
      · intro ρ g I av
        obtain ⟨_, hr103u, m104u⟩ := av 8 _ rfl (by kernel_rfl)
        refine ddo (up1 rfl hr103u) rfl ?_
        refine s_cf I k16 rfl (law12uOp_ok (zle hZ rfl rfl) (.inl z0) I.l m104u h47u) no_any fun g107u v105u s108u I p106u => ?_
        obtain ⟨cs109u, rfl, m110u⟩ := p106u
        exact ⟨_, rfl, s108u, I, (nwc (pf_agg rfl rfl m110u) nwn)⟩
      · intro ρ g I av
        have hr111u := av 1 _ rfl (by kernel_rfl)
        refine ddo (up1 rfl hr111u) rfl ?_
        refine s_fa f31u1 rfl ?_
        exact ⟨_, rfl, (Stp.refl _ _), I, (nwc (pf_val rfl) nwn)⟩
      · intro ρ g I av
        obtain ⟨L113u, hb114u, hl115u, ha116u⟩ := av 2 _ rfl (by kernel_rfl)
        have hr117u := av 10 _ rfl (by kernel_rfl)
        refine ddo (up1 rfl hr117u) rfl ?_
        refine s_ldSl t29 rfl (Blk.cells hb114u) (At.fld ha116u 1 rfl) fun v119u m120u => ?_
        exact ⟨_, rfl, (Stp.refl _ _), I, (nwc (pf_sl rfl rfl m120u) nwn)⟩
      · intro ρ g I av
        obtain ⟨v123u, hr121u, m122u⟩ := av 11 _ rfl (by kernel_rfl)
        refine ddo (up1 rfl hr121u) rfl ?_
        refine s_bldK (kd := k_ref18uMemo) (r := ({ kind := 0, channel := 0, round := 0, op := ref12uOp.zero, trail := x19u.trail, sig := ref05uSig.zero } : ref18uMemo)) (g := g) zs85 Z85 l85 P85 (And.intro (congrArg some (kl (d := (kSl k_ref18uHop rfl)) (Sl.kdv rfl m122u)).symm) (trivial)) (SM.flat (fs := fs_ref18uMemo) tl_ref18uMemo (allc rfl (allc rfl (allc rfl (allc (Kd.zk (i := 0) k_ref12uOp rfl) (allc (Sl.kdv rfl m122u) (allc (Kd.zk (i := 0) k_ref05uSig rfl) alln))))))) fun cs124u m125u => ?_
        exact ⟨_, rfl, (Stp.refl _ _), I, (nwc (pf_agg rfl rfl m125u) nwn)⟩
      · intro ρ g I av
        obtain ⟨_, hr126u, m127u⟩ := av 12 _ rfl (by kernel_rfl)
        refine ddo (up1 rfl hr126u) rfl ?_
        refine s_cf I k19 rfl (law18uTo_ok (zle hZ rfl rfl) (.inl z0) I.l m127u h59u) no_any fun g130u v128u s131u I p129u => ?_
        obtain ⟨cs132u, rfl, m133u⟩ := p129u
        exact ⟨_, rfl, s131u, I, (nwc (pf_agg rfl rfl m133u) nwn)⟩
      · intro ρ g I av
        obtain ⟨_, hr134u, m135u⟩ := av 13 _ rfl (by kernel_rfl)
        refine ddo (up1 rfl hr134u) rfl ?_
        refine s_fldSl F75u4 t40 rfl (At.fld (At.whole m135u) 4 rfl) fun v136u m137u => ?_
        exact ⟨_, rfl, (Stp.refl _ _), I, (nwc (pf_sl rfl rfl m137u) nwn)⟩
      · intro ρ g I av
        obtain ⟨_, hr138u, m139u⟩ := av 9 _ rfl (by kernel_rfl)
        obtain ⟨v142u, hr140u, m141u⟩ := av 14 _ rfl (by kernel_rfl)
        refine ddo (up1 (up1 rfl hr138u) hr140u) rfl ?_
        refine s_bldK (kd := k_clerk_Wish) (r := ({ op := r46u, trail := r58u.trail } : clerk_Wish)) (g := g) zs42 Z42 l42 P42 (And.intro (congrArg some (kl (d := k_pact_Op) m139u).symm) (And.intro (congrArg some (kl (d := (kSl k_memo_Hop rfl)) (Sl.kdv rfl m141u)).symm) (trivial))) (SM.flat (fs := fs_clerk_Wish) tl_clerk_Wish (allc m139u (allc (Sl.kdv rfl m141u) alln))) fun cs143u m144u => ?_
        exact ⟨_, rfl, (Stp.refl _ _), I, (nwc (pf_agg rfl rfl m144u) nwn)⟩
      · intro ρ g I av
        obtain ⟨_, hr145u, m146u⟩ := av 15 _ rfl (by kernel_rfl)
        refine ddo (up1 rfl hr145u) rfl ?_
        refine s_bslK (kd := k_clerk_Wish) (xs := ([({ op := r46u, trail := r58u.trail } : clerk_Wish)] : List clerk_Wish)) 1602 I s43 t42 z42 rfl rfl (by decide) rfl (by decide) (And.intro (congrArg some (kl (d := k_clerk_Wish) m146u).symm) (trivial)) (Seg.flat (d := k_clerk_Wish) (g := g) (alls m146u alle)) rfl (zpv rfl) fun g149u v147u s150u I m148u => ?_
        exact ⟨_, rfl, s150u, I, (nwc (pf_row rfl rfl m148u) nwn)⟩
      · intro ρ g I av
        obtain ⟨v153u, hr151u, m152u⟩ := av 6 _ rfl (by kernel_rfl)
        obtain ⟨v156u, hr154u, m155u⟩ := av 16 _ rfl (by kernel_rfl)
        refine ddo (up1 (up1 rfl hr151u) hr154u) rfl ?_
        refine s_app (kd := k_clerk_Wish) I s43 rfl s43 t42 z42 rfl m152u (Sl.rs (Row.sl m155u)) h75u (by decide) (zpv rfl) (zpv rfl) fun g159u v157u s160u I m158u => ?_
        exact ⟨_, rfl, s160u, I, (nwc (pf_row rfl rfl m158u) nwn)⟩
      · intro ρ g I av
        obtain ⟨v163u, hr161u, m162u⟩ := av 17 _ rfl (by kernel_rfl)
        refine ddo (up1 rfl hr161u) rfl ?_
        refine s_as ?_
        exact ⟨_, rfl, (Stp.refl _ _), I, (nwc (pf_row rfl rfl m162u) nwn)⟩
      · intro ρ g I av
        obtain ⟨v82u, hr80u, m81u⟩ := av 18 _ rfl rfl
        obtain ⟨v85u, hr83u, m84u⟩ := av 3 _ rfl rfl
        have hr86u := av 4 _ rfl rfl
        have hr88u := av 5 _ rfl rfl
        refine ⟨_, (up1 (up1 (up1 (up1 rfl hr80u) hr83u) hr86u) hr88u), ?_⟩
        refine EW.region (by kernel_rfl) ?_
        refine EWL.op rfl ?_
        refine s_add rfl rfl ?_
        refine EWL.op rfl ?_
        refine s_mv ?_
        exact ⟨_, (som hF1).symm, g, l74u, _, _, (IntKind.i64.wrap (x16u + 1)), rfl, I, rfl, rfl, m81u, rfl, m84u, rfl, rfl⟩
    · replace hF1 := bif_f hb18u hF1
      refine EW.exit ?_
      have hF0 := out_ hF1 hr1
      refine EW.seq ?_
      refine EW.region (by kernel_rfl) ?_
      refine EWL.op rfl ?_
      refine s_mv ?_
      refine EWL.op rfl ?_
      refine s_as ?_
      refine EW.ret ?_
      obtain rfl := som hF0
      refine ends1 (.inl rfl)  ?_
      have m164u := Row.rc rfl (by decide) m10u rc0
      have s166u := Stp.rc1 g6u 1603 rc0
      replace I := I.to s166u (Lo.rc (d := rc0) I.l (.inl zrc0)) (at_in (zpv rfl))
      exact ret_ (g := (g6u.rc 1603 (1603 + 1) rc0)) I lo hZ z0 rfl (Row.up rfl (Stp.rc (g6u.rc 1603 (1603 + 1) rc0) 1600 1700 0) fz (iv_z hZ rfl zrc0) m164u)
theorem octet_Of_ok {g0 : GW} {Z : Nat → Prop} (hZ : ∀ c, Z c → c = 0 ∨ 1800 ≤ c) (z0 : Z 0) (lo : Lo Z g0) (rc0 : Nat) (zrc0 : Z rc0) {a0 : (List Int)} {va0 : Value} {ka0 : Nat} (ma0 : Sl (kInt .u8) g0 ka0 a0 va0) (hka0 : ka0 = 0 ∨ 1800 ≤ ka0) {r : octet_In} (hF0 : octet_Of a0 = some r) :
    Calls P 20 [va0].toArray g0.w (Rets (RR (no) Z g0 ((POb 115 k_octet_In rc0 r)))) := by
  refine calls_of Go.Proofs.Try.func20 rfl (Nat.le_of_ble_eq_true rfl) (by kernel_rfl) ?_
  have I : Inv (or_ (no) (iv 1700 1800)) (or_ Z (iv 1700 1800)) g0 g0 := Inv.start (lo.mono (fun _ h => .inl h))
  have fz : ¬ iv 1700 1800 0 := nz0 rfl
  unfold octet_Of at hF0
  refine EW.seq ?_
  refine EW.region (by kernel_rfl) ?_
  refine EWL.op rfl ?_
  refine s_as ?_
  refine EW.seq ?_
  refine EW.region (by kernel_rfl) ?_
  refine EWL.op rfl ?_
  refine s_bslK (kd := (kInt .u8)) (xs := ([] : List Int)) 1701 I s32 t5 z5 rfl rfl (by decide) rfl (by decide) (trivial) (Seg.flat (d := (kInt .u8)) (g := g0) alle) rfl (zpv rfl) fun g3u v1u s4u I m2u => ?_
  refine EWL.op rfl ?_
  refine s_mv ?_
  refine EWL.op rfl ?_
  obtain ⟨l5u, h6u, hF0⟩ := bnd hF0
  refine s_app (kd := (kInt .u8)) I s32 rfl s32 t5 z5 rfl m2u (Sl.rs (Sl.up rfl s4u no_ no_ ma0)) h6u (by decide) (zpv rfl) (zpv rfl) fun g9u v7u s10u I m8u => ?_
  refine EWL.op rfl ?_
  have m11u := Row.rc rfl (by decide) m8u 0
  have s13u := Stp.rc1 g9u 1701 0
  replace I := I.to s13u (Lo.rc (d := 0) I.l (.inl z0)) (at_in (zpv rfl))
  obtain ⟨g12u, rc_⟩ : ∃ q, q = g9u.rc 1701 (1701 + 1) 0 := ⟨_, rfl⟩
  rw [← rc_] at m11u s13u I
  refine stp.wld (w := g12u.w) (by rw [rc_]; rfl) ?_
  clear rc_
  refine s_bldK (kd := k_octet_In) (r := ({ left := l5u, bad := 0 } : octet_In)) (g := g12u) zs115 Z115 l115 P115 (And.intro (congrArg some (kl (d := (kSl (kInt .u8) rfl)) (Sl.kdv rfl (Row.sl m11u))).symm) (trivial)) (SM.flat (fs := fs_octet_In) tl_octet_In (allc (Sl.kdv rfl (Row.sl m11u)) (allc rfl alln))) fun cs14u m15u => ?_
  refine EWL.op rfl ?_
  refine s_boxK (kd := k_octet_In) (r := ({ left := l5u, bad := 0 } : octet_In)) 1702 I (zpv rfl) m15u rfl rfl fun g20u b16u s21u I hb17u hl19u ha18u => ?_
  refine EWL.op rfl ?_
  refine s_as ?_
  refine EW.ret ?_
  obtain rfl := som hF0
  refine ends1 (.inl rfl)  ?_
  have m22u := Blk.rc hb17u rc0
  have s24u := Stp.rc1 g20u 1702 rc0
  replace I := I.to s24u (Lo.rc (d := rc0) I.l (.inl zrc0)) (at_in (zpv rfl))
  exact ret_ (g := (g20u.rc 1702 (1702 + 1) rc0)) I lo hZ z0 rfl ⟨_, rfl, _, Blk.up (Stp.rc (g20u.rc 1702 (1702 + 1) rc0) 1700 1800 0) (iv_z hZ rfl zrc0) m22u, hl19u, At.up (At.up ha18u s24u (Nat.ne_of_beq_eq_false rfl) nc0) (Stp.rc (g20u.rc 1702 (1702 + 1) rc0) 1700 1800 0) fz nc0⟩
theorem octet_In_Fail_ok {g0 : GW} {Z : Nat → Prop} (hZ : ∀ c, Z c → c = 0 ∨ 1900 ≤ c) (z0 : Z 0) (lo : Lo Z g0)  {a0 : octet_In} {La0 : List Value} {ba0 i0 : Nat} {a1 : Int} (hba0 : Blk g0 ba0 i0 115 La0) (hla0 : La0.length = k_octet_In.sz) (ma0 : At k_octet_In g0 0 a0 La0 0) (hi0 : 1900 ≤ i0) (zi0 : Z i0) {r : octet_In} (hF0 : octet_In_Fail a0 a1 = some r) :
    Calls P 42 [.pointer (some ⟨ba0, 0, none⟩), .int .i64 a1].toArray g0.w (Rets (RR (at_ i0) Z g0 (PAnd (PTup []) (fun h => Ob0 115 k_octet_In h i0 ba0 r)))) := by
  refine calls_of Go.Proofs.Try.func42 rfl (Nat.le_of_ble_eq_true rfl) (by kernel_rfl) ?_
  have I : Inv (or_ (at_ i0) (iv 1800 1900)) (or_ Z (iv 1800 1900)) g0 g0 := Inv.start (lo.mono (fun _ h => .inl h))
  have fz : ¬ iv 1800 1900 0 := nz0 rfl
  unfold octet_In_Fail at hF0
  refine EW.seq ?_
  refine EW.region (by kernel_rfl) ?_
  refine EWL.op rfl ?_
  refine s_mv ?_
  refine EWL.op rfl ?_
  refine s_ptrNe p86 rfl rfl ?_
  refine EWL.op rfl ?_
  refine s_mv ?_
  refine EWL.op (want_of rfl rfl rfl) ?_
  refine s_mv ?_
  refine EWL.op (want_of rfl rfl rfl) ?_
  refine s_nil rfl ?_
  refine EWL.op (want_of rfl rfl rfl) ?_
  refine s_fa f115u1 rfl ?_
  refine EWL.op (want_of rfl rfl rfl) ?_
  refine s_ldS t45 rfl (Blk.cells hba0) (At.fld ma0 1 rfl) ?_
  refine EWL.op (want_of rfl rfl rfl) ?_
  refine s_eql rfl rfl ?_
  refine EWL.op rfl ?_
  refine s_pT rfl rfl ?_
  refine EWL.op rfl ?_
  refine s_mv ?_
  rcases Bool.eq_false_or_eq_true (decide (a0.bad = 0)) with hb1u | hb1u
  · replace hF0 := bif_t hb1u hF0
    refine EWL.op (want_of rfl rfl (beq_ hb1u)) ?_
    refine s_mv ?_
    refine EWL.op (want_of rfl rfl (beq_ hb1u)) ?_
    refine s_neq rfl rfl ?_
    refine EWL.op rfl ?_
    refine s_pT rfl hb1u ?_
    refine EW.condS rfl rfl (fun hb2u => ?_) (fun hb2u => ?_)
    · replace hF0 := bif_t hb2u hF0
      refine EW.region (by kernel_rfl) ?_
      refine EWL.op rfl ?_
      refine s_mv ?_
      refine EWL.op rfl ?_
      refine s_mv ?_
      refine EWL.op rfl ?_
      refine s_mv ?_
      refine EWL.op rfl ?_
      refine s_nil rfl ?_
      refine EWL.op rfl ?_
      refine s_fa f115u0 rfl ?_
      refine EWL.opn rfl ?_
      have m3u : (kSl (kInt .u8) rfl).M g0 0 ([]) _ := (Sl.kd rfl Sl.none)
      refine s_stK (kd := (kSl (kInt .u8) rfl)) I t32 rfl rfl m3u rfl hba0 (ble_ hla0 rfl) (ne_od hi0 rfl) nc0 (.inl rfl) fun g4u L6u s5u I hb7u hu8u hn9u => ?_
      have ha10u := (At.setF (At.up ma0 s5u (Ne.symm (ne_od hi0 rfl)) nc0) 0 rfl (S115u0 _ _) hu8u (by decide) (by decide) hn9u)
      have hl11u := hu8u.1.trans hla0
      refine EWL.op rfl ?_
      refine s_nil rfl ?_
      refine EWL.op rfl ?_
      refine s_fa f115u1 rfl ?_
      refine EWL.opn rfl ?_
      have m12u : (kInt .i64).M g4u 0 a1 _ := rfl
      refine s_stK (kd := (kInt .i64)) I t45 rfl rfl m12u rfl hb7u (ble_ hl11u rfl) (ne_od hi0 rfl) nc0 (.inl rfl) fun g13u L15u s14u I hb16u hu17u hn18u => ?_
      have ha19u := (At.setF (At.up ha10u s14u (Ne.symm (ne_od hi0 rfl)) nc0) 1 rfl (S115u1 _ _) hu17u (by decide) (by decide) hn18u)
      have hl20u := hu17u.1.trans hl11u
      obtain rfl := som hF0
      refine ends0 (.inr rfl)  ?_
      exact ret_ (g := g13u) I lo hZ z0 rfl (And.intro mk0 ⟨_, Blk.up (Stp.rc g13u 1800 1900 0) (iv_o hi0) hb16u, hl20u, At.up ha19u (Stp.rc g13u 1800 1900 0) fz nc0⟩)
    · replace hF0 := bif_f hb2u hF0
      refine EW.skip ?_
      obtain rfl := som hF0
      refine ends0 (.inr rfl)  ?_
      exact ret_ (g := g0) I lo hZ z0 rfl (And.intro mk0 ⟨_, Blk.up (Stp.rc g0 1800 1900 0) (iv_o hi0) hba0, hla0, At.up ma0 (Stp.rc g0 1800 1900 0) fz nc0⟩)
  · replace hF0 := bif_f hb1u hF0
    refine EWL.pass (want_of rfl rfl (beq_ hb1u)) ?_
    refine EWL.pass (want_of rfl rfl (beq_ hb1u)) ?_
    refine EWL.op rfl ?_
    refine s_pF rfl hb1u ?_
    refine EW.condS rfl rfl (fun hb => (tf_ hb rfl).elim) (fun hb => ?_)
    refine EW.skip ?_
    obtain rfl := som hF0
    refine ends0 (.inr rfl)  ?_
    exact ret_ (g := g0) I lo hZ z0 rfl (And.intro mk0 ⟨_, Blk.up (Stp.rc g0 1800 1900 0) (iv_o hi0) hba0, hla0, At.up ma0 (Stp.rc g0 1800 1900 0) fz nc0⟩)
theorem octet_In_Bad_ok {g0 : GW} {Z : Nat → Prop} (hZ : ∀ c, Z c → c = 0 ∨ 2000 ≤ c) (z0 : Z 0) (lo : Lo Z g0)  {a0 : octet_In} {La0 : List Value} {ba0 i0 : Nat} (hba0 : Blk g0 ba0 i0 115 La0) (hla0 : La0.length = k_octet_In.sz) (ma0 : At k_octet_In g0 0 a0 La0 0) (hi0 : 2000 ≤ i0) (zi0 : Z i0) {r : Int} (hF0 : octet_In_Bad a0 = some r) :
    Calls P 45 [.pointer (some ⟨ba0, 0, none⟩)].toArray g0.w (Rets (RR (no) Z g0 (PEq (.int .i64 r)))) := by
  refine calls_of Go.Proofs.Try.func45 rfl (Nat.le_of_ble_eq_true rfl) (by kernel_rfl) ?_
  have I : Inv (or_ (no) (iv 1900 2000)) (or_ Z (iv 1900 2000)) g0 g0 := Inv.start (lo.mono (fun _ h => .inl h))
  have fz : ¬ iv 1900 2000 0 := nz0 rfl
  unfold octet_In_Bad at hF0
  refine EW.seq ?_
  refine EW.region (by kernel_rfl) ?_
  refine EWL.op rfl ?_
  refine s_as ?_
  refine EW.seq ?_
  refine EW.seq ?_
  refine EW.region (by kernel_rfl) ?_
  refine EWL.op rfl ?_
  refine s_mv ?_
  refine EWL.op rfl ?_
  refine s_ptrE p86 rfl rfl ?_
  refine EW.condS rfl rfl (fun hb => (tf_ hb rfl).elim) (fun hb => ?_)
  refine EW.skip ?_
  refine EW.seq ?_
  refine EW.region (by kernel_rfl) ?_
  refine EWL.op rfl ?_
  refine s_mv ?_
  refine EWL.op rfl ?_
  refine s_nil rfl ?_
  refine EWL.op rfl ?_
  refine s_fa f115u1 rfl ?_
  refine EWL.op rfl ?_
  refine s_ldS t45 rfl (Blk.cells hba0) (At.fld ma0 1 rfl) ?_
  refine EWL.op rfl ?_
  refine s_as ?_
  refine EW.ret ?_
  obtain rfl := som hF0
  refine ends1 (.inl rfl)  ?_
  exact ret_ (g := g0) I lo hZ z0 rfl rfl
theorem octet_In_cut_ok {g0 : GW} {Z : Nat → Prop} (hZ : ∀ c, Z c → c = 0 ∨ 2100 ≤ c) (z0 : Z 0) (lo : Lo Z g0)  {a0 : octet_In} {La0 : List Value} {ba0 i0 : Nat} {a1 : Int} (hba0 : Blk g0 ba0 i0 115 La0) (hla0 : La0.length = k_octet_In.sz) (ma0 : At k_octet_In g0 0 a0 La0 0) (hi0 : 2100 ≤ i0) (zi0 : Z i0) {r : ((List Int) × octet_In)} (hF0 : octet_In_cut a0 a1 = some r) :
    Calls P 67 [.pointer (some ⟨ba0, 0, none⟩), .int .i64 a1].toArray g0.w (Rets (RR (at_ i0) Z g0 (PAnd ((fun h v => Sl (kInt .u8) h 0 r.1 v)) (fun h => Ob0 115 k_octet_In h i0 ba0 r.2)))) := by
  refine calls_of Go.Proofs.Try.func67 rfl (Nat.le_of_ble_eq_true rfl) (by kernel_rfl) ?_
  have I : Inv (or_ (at_ i0) (iv 2000 2100)) (or_ Z (iv 2000 2100)) g0 g0 := Inv.start (lo.mono (fun _ h => .inl h))
  have fz : ¬ iv 2000 2100 0 := nz0 rfl
  unfold octet_In_cut at hF0
  refine EW.seq ?_
  refine EW.region (by kernel_rfl) ?_
  refine EWL.op rfl ?_
  refine s_as ?_
  refine EW.seq ?_
  refine EW.seq ?_
  refine EW.region (by kernel_rfl) ?_
  refine EWL.op rfl ?_
  refine s_mv ?_
  refine EWL.op rfl ?_
  obtain ⟨r1u, h2u, hF0⟩ := bnd hF0
  refine s_cf I k45 rfl (octet_In_Bad_ok (zle hZ rfl rfl) (.inl z0) I.l hba0 hla0 ma0 (le_b rfl hi0) (.inl zi0) h2u) no_any fun g5u v3u s6u I p4u => ?_
  obtain rfl := p4u
  refine EWL.op rfl ?_
  refine s_neq rfl rfl ?_
  refine EW.condS rfl rfl (fun hb7u => ?_) (fun hb7u => ?_)
  · replace hF0 := bif_t hb7u hF0
    refine EW.seq ?_
    refine EW.region (by kernel_rfl) ?_
    refine EWL.op rfl ?_
    refine s_as ?_
    refine EW.ret ?_
    obtain rfl := som hF0
    refine ends1 (.inl rfl)  ?_
    exact ret_ (g := g5u) I lo hZ z0 rfl (And.intro Sl.none ⟨_, Blk.up (Stp.rc g5u 2000 2100 0) (iv_o hi0) (Blk.up s6u no_ hba0), hla0, At.up (At.up ma0 s6u no_ nc0) (Stp.rc g5u 2000 2100 0) fz nc0⟩)
  · replace hF0 := bif_f hb7u hF0
    refine EW.skip ?_
    refine EW.seq ?_
    refine EW.seq ?_
    refine EW.region (by kernel_rfl) ?_
    refine EWL.op rfl ?_
    refine s_mv ?_
    refine EWL.op rfl ?_
    refine s_mv ?_
    refine EWL.op rfl ?_
    refine s_nil rfl ?_
    refine EWL.op rfl ?_
    refine s_fa f115u0 rfl ?_
    refine EWL.op rfl ?_
    refine s_ldSl t32 rfl (Blk.cells (Blk.up s6u no_ hba0)) (At.fld (At.up ma0 s6u no_ nc0) 0 rfl) fun v8u m9u => ?_
    refine EWL.op rfl ?_
    refine s_lenR (kd := (kInt .u8)) (xs := a0.left) s32 rfl (Sl.rs m9u) ?_
    refine EWL.op rfl ?_
    refine s_gtr rfl rfl ?_
    refine EW.condS rfl rfl (fun hb10u => ?_) (fun hb10u => ?_)
    · replace hF0 := bif_t hb10u hF0
      refine EW.seq ?_
      refine EW.region (by kernel_rfl) ?_
      refine EWL.op rfl ?_
      refine s_mv ?_
      refine EWL.op rfl ?_
      obtain ⟨r11u, h12u, hF0⟩ := bnd hF0
      refine s_cf I k42 rfl (octet_In_Fail_ok (zle hZ rfl rfl) (.inl z0) I.l (Blk.up s6u no_ hba0) hla0 (At.up ma0 s6u no_ nc0) (le_b rfl hi0) (.inl zi0) h12u) (at_in (.inl rfl)) fun g15u v13u s16u I p14u => ?_
      obtain ⟨p14u, o17u⟩ := p14u
      obtain ⟨L18u, hb19u, hl20u, ha21u⟩ := o17u
      obtain rfl := ptup0 p14u
      refine EW.seq ?_
      refine EW.region (by kernel_rfl) ?_
      refine EWL.op rfl ?_
      refine s_as ?_
      refine EW.ret ?_
      obtain rfl := som hF0
      refine ends1 (.inl rfl)  ?_
      exact ret_ (g := g15u) I lo hZ z0 rfl (And.intro Sl.none ⟨_, Blk.up (Stp.rc g15u 2000 2100 0) (iv_o hi0) hb19u, hl20u, At.up ha21u (Stp.rc g15u 2000 2100 0) fz nc0⟩)
    · replace hF0 := bif_f hb10u hF0
      refine EW.skip ?_
      refine EW.seq ?_
      refine EW.region (by kernel_rfl) ?_
      refine EWL.op rfl ?_
      refine s_mv ?_
      refine EWL.op rfl ?_
      refine s_nil rfl ?_
      refine EWL.op rfl ?_
      refine s_fa f115u0 rfl ?_
      refine EWL.op rfl ?_
      refine s_ldSl t32 rfl (Blk.cells (Blk.up s6u no_ hba0)) (At.fld (At.up ma0 s6u no_ nc0) 0 rfl) fun v22u m23u => ?_
      refine EWL.op rfl ?_
      refine s_mv ?_
      refine EWL.op rfl ?_
      obtain ⟨l24u, h25u, hF0⟩ := bnd hF0
      refine s_slcH s32 t5 rfl m23u rfl h25u fun v26u m27u => ?_
      refine EWL.op rfl ?_
      refine s_as ?_
      refine EW.seq ?_
      refine EW.region (by kernel_rfl) ?_
      refine EWL.op rfl ?_
      refine s_mv ?_
      refine EWL.op rfl ?_
      refine s_mv ?_
      refine EWL.op rfl ?_
      refine s_nil rfl ?_
      refine EWL.op rfl ?_
      refine s_fa f115u0 rfl ?_
      refine EWL.op rfl ?_
      refine s_ldSl t32 rfl (Blk.cells (Blk.up s6u no_ hba0)) (At.fld (At.up ma0 s6u no_ nc0) 0 rfl) fun v28u m29u => ?_
      refine EWL.op rfl ?_
      refine s_mv ?_
      refine EWL.op rfl ?_
      obtain ⟨l30u, h31u, hF0⟩ := bnd hF0
      refine s_slcL s32 t5 rfl m29u rfl h31u fun v32u m33u => ?_
      refine EWL.op rfl ?_
      refine s_nil rfl ?_
      refine EWL.op rfl ?_
      refine s_fa f115u0 rfl ?_
      refine EWL.opn rfl ?_
      have m34u : (kSl (kInt .u8) rfl).M g5u 0 l30u _ := (Sl.kdv rfl m33u)
      refine s_stK (kd := (kSl (kInt .u8) rfl)) I t32 rfl rfl m34u rfl (Blk.up s6u no_ hba0) (ble_ hla0 rfl) (ne_od hi0 rfl) nc0 (.inl rfl) fun g35u L37u s36u I hb38u hu39u hn40u => ?_
      have ha41u := (At.setF (At.up (At.up ma0 s6u no_ nc0) s36u (Ne.symm (ne_od hi0 rfl)) nc0) 0 rfl (S115u0 _ _) hu39u (by decide) (by decide) hn40u)
      have hl42u := hu39u.1.trans hla0
      refine EW.seq ?_
      refine EW.region (by kernel_rfl) ?_
      refine EWL.op rfl ?_
      refine s_mv ?_
      refine EWL.op rfl ?_
      refine s_as ?_
      refine EW.ret ?_
      obtain rfl := som hF0
      refine ends1 (.inl rfl)  ?_
      exact ret_ (g := g35u) I lo hZ z0 rfl (And.intro (Sl.up rfl (Stp.rc g35u 2000 2100 0) fz fz (Sl.up rfl s36u (Ne.symm (ne_od hi0 rfl)) (Ne.symm (ne_od hi0 rfl)) m27u)) ⟨_, Blk.up (Stp.rc g35u 2000 2100 0) (iv_o hi0) hb38u, hl42u, At.up ha41u (Stp.rc g35u 2000 2100 0) fz nc0⟩)
theorem octet_In_num_ok {g0 : GW} {Z : Nat → Prop} (hZ : ∀ c, Z c → c = 0 ∨ 2200 ≤ c) (z0 : Z 0) (lo : Lo Z g0)  {a0 : octet_In} {La0 : List Value} {ba0 i0 : Nat} {a1 : Int} (hba0 : Blk g0 ba0 i0 115 La0) (hla0 : La0.length = k_octet_In.sz) (ma0 : At k_octet_In g0 0 a0 La0 0) (hi0 : 2200 ≤ i0) (zi0 : Z i0) {r : (Int × octet_In)} (hF0 : octet_In_num a0 a1 = some r) :
    Calls P 60 [.pointer (some ⟨ba0, 0, none⟩), .int .i64 a1].toArray g0.w (Rets (RR (at_ i0) Z g0 (PAnd (PEq (.int .u64 r.1)) (fun h => Ob0 115 k_octet_In h i0 ba0 r.2)))) := by
  refine calls_of Go.Proofs.Try.func60 rfl (Nat.le_of_ble_eq_true rfl) (by kernel_rfl) ?_
  have I : Inv (or_ (at_ i0) (iv 2100 2200)) (or_ Z (iv 2100 2200)) g0 g0 := Inv.start (lo.mono (fun _ h => .inl h))
  have fz : ¬ iv 2100 2200 0 := nz0 rfl
  unfold octet_In_num at hF0
  refine EW.seq ?_
  refine EW.region (by kernel_rfl) ?_
  refine EWL.op rfl ?_
  refine s_as ?_
  refine EW.seq ?_
  refine EW.region (by kernel_rfl) ?_
  refine EWL.op rfl ?_
  refine s_as ?_
  refine EW.seq ?_
  refine EW.seq ?_
  refine EW.region (by kernel_rfl) ?_
  refine EWL.op rfl ?_
  refine s_mv ?_
  refine EWL.op rfl ?_
  refine s_mv ?_
  refine EWL.op rfl ?_
  obtain ⟨r1u, h2u, hF0⟩ := bnd hF0
  refine s_cf I k67 rfl (octet_In_cut_ok (zle hZ rfl rfl) (.inl z0) I.l hba0 hla0 ma0 (le_b rfl hi0) (.inl zi0) h2u) (at_in (.inl rfl)) fun g5u v3u s6u I p4u => ?_
  obtain ⟨p4u, o7u⟩ := p4u
  obtain ⟨L8u, hb9u, hl10u, ha11u⟩ := o7u
  refine EWL.op rfl ?_
  refine s_lenR (kd := (kInt .u8)) (xs := r1u.1) s32 rfl (Sl.rs p4u) ?_
  refine EWL.op rfl ?_
  refine s_mv ?_
  refine EW.block ?_
  refine EW.loop (b := (octet_In_num_b1 r1u)) (fun (s : (Int × Int)) ρ w => ∃ (g16u : GW) (x18u : Int) (v20u : Value) (x24u : Int) (L26u : List Value), w = g16u.w ∧ Inv (or_ (at_ i0) (iv 2100 2200)) (or_ Z (iv 2100 2200)) g0 g16u ∧ (x18u, x24u) = s ∧ ρ 5 = .int .u64 x18u ∧ ρ 10 = v20u ∧ Sl (kInt .u8) g16u 0 r1u.1 v20u ∧ ρ 11 = .int .i64 (r1u.1.length : Int) ∧ ρ 12 = .int .i64 x24u ∧ Blk g16u ba0 i0 115 L26u ∧ L26u.length = 2 ∧ At k_octet_In g16u 0 r1u.2 L26u 0) hF0 ⟨g5u, 0, _, 0, _, rfl, I, rfl, rfl, rfl, p4u, rfl, rfl, hb9u, hl10u, ha11u⟩ ?_
  · rintro s_ o30u ρ w ⟨g16u, x18u, v20u, x24u, L26u, rfl, I, eo, hr17u, hr19u, m21u, hr22u, hr23u, hb27u, hl29u, ha28u⟩ hF1 hr1
    subst eo
    unfold octet_In_num_b1 at hF1
    refine EW.re (up1 (up1 (up1 (up1 rfl hr17u) hr19u) hr22u) hr23u) ?_
    refine EW.seq ?_
    refine EW.region (by kernel_rfl) ?_
    refine EWL.op rfl ?_
    refine s_lss rfl rfl ?_
    refine EW.seq ?_
    refine EW.condS rfl rfl (fun hb31u => ?_) (fun hb31u => ?_)
    · replace hF1 := bif_t hb31u hF1
      refine EW.skip ?_
      refine EW.seq ?_
      refine EW.block ?_
      refine EW.seq ?_
      refine EW.region (by kernel_rfl) ?_
      refine EWL.op rfl ?_
      obtain ⟨x32u, h33u, hF1⟩ := bnd hF1
      refine s_idxS s32 t5 rfl m21u rfl h33u fun b34u o35u L36u hc37u ha38u => ?_
      refine EWL.op rfl ?_
      refine s_ldS t5 rfl (Imm.cells hc37u) ha38u ?_
      refine EWL.op rfl ?_
      refine s_as ?_
      refine EW.region (by kernel_rfl) ?_
      refine EWL.op rfl ?_
      refine s_mv ?_
      refine EWL.op rfl ?_
      refine s_shl rfl rfl (by decide) ?_
      refine EWL.op rfl ?_
      refine s_mv ?_
      refine EWL.op rfl ?_
      refine s_cvt u5 n23 rfl ?_
      refine EWL.op rfl ?_
      refine s_or rfl rfl ?_
      refine EWL.op rfl ?_
      refine s_as ?_
      refine EW.region (by kernel_rfl) ?_
      refine EWL.op rfl ?_
      refine s_add rfl rfl ?_
      refine EWL.op rfl ?_
      refine s_mv ?_
      exact ⟨_, (som hF1).symm, g16u, (bor .u64 (Tl.shl .u64 x18u 8) (IntKind.u64.wrap x32u)), _, (IntKind.i64.wrap (x24u + 1)), _, rfl, I, rfl, rfl, rfl, m21u, rfl, rfl, hb27u, hl29u, ha28u⟩
    · replace hF1 := bif_f hb31u hF1
      refine EW.exit ?_
      have hF0 := out_ hF1 hr1
      refine EW.seq ?_
      refine EW.region (by kernel_rfl) ?_
      refine EWL.op rfl ?_
      refine s_mv ?_
      refine EWL.op rfl ?_
      refine s_as ?_
      refine EW.ret ?_
      obtain rfl := som hF0
      refine ends1 (.inl rfl)  ?_
      exact ret_ (g := g16u) I lo hZ z0 rfl (And.intro rfl ⟨_, Blk.up (Stp.rc g16u 2100 2200 0) (iv_o hi0) hb27u, hl29u, At.up ha28u (Stp.rc g16u 2100 2200 0) fz nc0⟩)
theorem octet_In_One_ok {g0 : GW} {Z : Nat → Prop} (hZ : ∀ c, Z c → c = 0 ∨ 2300 ≤ c) (z0 : Z 0) (lo : Lo Z g0)  {a0 : octet_In} {La0 : List Value} {ba0 i0 : Nat} (hba0 : Blk g0 ba0 i0 115 La0) (hla0 : La0.length = k_octet_In.sz) (ma0 : At k_octet_In g0 0 a0 La0 0) (hi0 : 2300 ≤ i0) (zi0 : Z i0) {r : (Int × octet_In)} (hF0 : octet_In_One a0 = some r) :
    Calls P 41 [.pointer (some ⟨ba0, 0, none⟩)].toArray g0.w (Rets (RR (at_ i0) Z g0 (PAnd (PEq (.int .u8 r.1)) (fun h => Ob0 115 k_octet_In h i0 ba0 r.2)))) := by
  refine calls_of Go.Proofs.Try.func41 rfl (Nat.le_of_ble_eq_true rfl) (by kernel_rfl) ?_
  have I : Inv (or_ (at_ i0) (iv 2200 2300)) (or_ Z (iv 2200 2300)) g0 g0 := Inv.start (lo.mono (fun _ h => .inl h))
  have fz : ¬ iv 2200 2300 0 := nz0 rfl
  unfold octet_In_One at hF0
  refine EW.seq ?_
  refine EW.region (by kernel_rfl) ?_
  refine EWL.op rfl ?_
  refine s_as ?_
  refine EW.seq ?_
  refine EW.region (by kernel_rfl) ?_
  refine EWL.op rfl ?_
  refine s_mv ?_
  refine EWL.op rfl ?_
  obtain ⟨r1u, h2u, hF0⟩ := bnd hF0
  refine s_cf I k60 rfl (octet_In_num_ok (zle hZ rfl rfl) (.inl z0) I.l hba0 hla0 ma0 (le_b rfl hi0) (.inl zi0) h2u) (at_in (.inl rfl)) fun g5u v3u s6u I p4u => ?_
  obtain ⟨p4u, o7u⟩ := p4u
  obtain ⟨L8u, hb9u, hl10u, ha11u⟩ := o7u
  obtain rfl := p4u
  refine EWL.op rfl ?_
  refine s_cvt u23 n5 rfl ?_
  refine EWL.op rfl ?_
  refine s_as ?_
  refine EW.ret ?_
  obtain rfl := som hF0
  refine ends1 (.inl rfl)  ?_
  exact ret_ (g := g5u) I lo hZ z0 rfl (And.intro rfl ⟨_, Blk.up (Stp.rc g5u 2200 2300 0) (iv_o hi0) hb9u, hl10u, At.up ha11u (Stp.rc g5u 2200 2300 0) fz nc0⟩)
theorem octet_In_Many_ok {g0 : GW} {Z : Nat → Prop} (hZ : ∀ c, Z c → c = 0 ∨ 2400 ≤ c) (z0 : Z 0) (lo : Lo Z g0)  {a0 : octet_In} {La0 : List Value} {ba0 i0 : Nat} {a1 : Int} (hba0 : Blk g0 ba0 i0 115 La0) (hla0 : La0.length = k_octet_In.sz) (ma0 : At k_octet_In g0 0 a0 La0 0) (hi0 : 2400 ≤ i0) (zi0 : Z i0) {r : (Int × octet_In)} (hF0 : octet_In_Many a0 a1 = some r) :
    Calls P 21 [.pointer (some ⟨ba0, 0, none⟩), .int .i64 a1].toArray g0.w (Rets (RR (at_ i0) Z g0 (PAnd (PEq (.int .i64 r.1)) (fun h => Ob0 115 k_octet_In h i0 ba0 r.2)))) := by
  refine calls_of Go.Proofs.Try.func21 rfl (Nat.le_of_ble_eq_true rfl) (by kernel_rfl) ?_
  have I : Inv (or_ (at_ i0) (iv 2300 2400)) (or_ Z (iv 2300 2400)) g0 g0 := Inv.start (lo.mono (fun _ h => .inl h))
  have fz : ¬ iv 2300 2400 0 := nz0 rfl
  unfold octet_In_Many at hF0
  refine EW.seq ?_
  refine EW.region (by kernel_rfl) ?_
  refine EWL.op rfl ?_
  refine s_as ?_
  refine EW.seq ?_
  refine EW.region (by kernel_rfl) ?_
  refine EWL.op rfl ?_
  refine s_mv ?_
  refine EWL.op rfl ?_
  obtain ⟨r1u, h2u, hF0⟩ := bnd hF0
  refine s_cf I k41 rfl (octet_In_One_ok (zle hZ rfl rfl) (.inl z0) I.l hba0 hla0 ma0 (le_b rfl hi0) (.inl zi0) h2u) (at_in (.inl rfl)) fun g5u v3u s6u I p4u => ?_
  obtain ⟨p4u, o7u⟩ := p4u
  obtain ⟨L8u, hb9u, hl10u, ha11u⟩ := o7u
  obtain rfl := p4u
  refine EWL.op rfl ?_
  refine s_cvt u5 n3 rfl ?_
  refine EWL.op rfl ?_
  refine s_as ?_
  refine EW.seq ?_
  refine EW.seq ?_
  refine EW.region (by kernel_rfl) ?_
  refine EWL.op rfl ?_
  refine s_mv ?_
  refine EWL.op rfl ?_
  refine s_mv ?_
  refine EWL.op rfl ?_
  refine s_gtr rfl rfl ?_
  refine EW.condS rfl rfl (fun hb12u => ?_) (fun hb12u => ?_)
  · replace hF0 := bif_t hb12u hF0
    refine EW.seq ?_
    refine EW.region (by kernel_rfl) ?_
    refine EWL.op rfl ?_
    refine s_mv ?_
    refine EWL.op rfl ?_
    obtain ⟨r13u, h14u, hF0⟩ := bnd hF0
    refine s_cf I k42 rfl (octet_In_Fail_ok (zle hZ rfl rfl) (.inl z0) I.l hb9u hl10u ha11u (le_b rfl hi0) (.inl zi0) h14u) (at_in (.inl rfl)) fun g17u v15u s18u I p16u => ?_
    obtain ⟨p16u, o19u⟩ := p16u
    obtain ⟨L20u, hb21u, hl22u, ha23u⟩ := o19u
    obtain rfl := ptup0 p16u
    refine EW.seq ?_
    refine EW.region (by kernel_rfl) ?_
    refine EWL.op rfl ?_
    refine s_as ?_
    refine EW.ret ?_
    obtain rfl := som hF0
    refine ends1 (.inl rfl)  ?_
    exact ret_ (g := g17u) I lo hZ z0 rfl (And.intro rfl ⟨_, Blk.up (Stp.rc g17u 2300 2400 0) (iv_o hi0) hb21u, hl22u, At.up ha23u (Stp.rc g17u 2300 2400 0) fz nc0⟩)
  · replace hF0 := bif_f hb12u hF0
    refine EW.skip ?_
    refine EW.seq ?_
    refine EW.region (by kernel_rfl) ?_
    refine EWL.op rfl ?_
    refine s_mv ?_
    refine EWL.op rfl ?_
    refine s_as ?_
    refine EW.ret ?_
    obtain rfl := som hF0
    refine ends1 (.inl rfl)  ?_
    exact ret_ (g := g5u) I lo hZ z0 rfl (And.intro rfl ⟨_, Blk.up (Stp.rc g5u 2300 2400 0) (iv_o hi0) hb9u, hl10u, At.up ha11u (Stp.rc g5u 2300 2400 0) fz nc0⟩)
theorem octet_In_Eight_ok {g0 : GW} {Z : Nat → Prop} (hZ : ∀ c, Z c → c = 0 ∨ 2500 ≤ c) (z0 : Z 0) (lo : Lo Z g0)  {a0 : octet_In} {La0 : List Value} {ba0 i0 : Nat} (hba0 : Blk g0 ba0 i0 115 La0) (hla0 : La0.length = k_octet_In.sz) (ma0 : At k_octet_In g0 0 a0 La0 0) (hi0 : 2500 ≤ i0) (zi0 : Z i0) {r : (Int × octet_In)} (hF0 : octet_In_Eight a0 = some r) :
    Calls P 43 [.pointer (some ⟨ba0, 0, none⟩)].toArray g0.w (Rets (RR (at_ i0) Z g0 (PAnd (PEq (.int .u64 r.1)) (fun h => Ob0 115 k_octet_In h i0 ba0 r.2)))) := by
  refine calls_of Go.Proofs.Try.func43 rfl (Nat.le_of_ble_eq_true rfl) (by kernel_rfl) ?_
  have I : Inv (or_ (at_ i0) (iv 2400 2500)) (or_ Z (iv 2400 2500)) g0 g0 := Inv.start (lo.mono (fun _ h => .inl h))
  have fz : ¬ iv 2400 2500 0 := nz0 rfl
  unfold octet_In_Eight at hF0
  refine EW.seq ?_
  refine EW.region (by kernel_rfl) ?_
  refine EWL.op rfl ?_
  refine s_as ?_
  refine EW.seq ?_
  refine EW.region (by kernel_rfl) ?_
  refine EWL.op rfl ?_
  refine s_mv ?_
  refine EWL.op rfl ?_
  obtain ⟨r1u, h2u, hF0⟩ := bnd hF0
  refine s_cf I k60 rfl (octet_In_num_ok (zle hZ rfl rfl) (.inl z0) I.l hba0 hla0 ma0 (le_b rfl hi0) (.inl zi0) h2u) (at_in (.inl rfl)) fun g5u v3u s6u I p4u => ?_
  obtain ⟨p4u, o7u⟩ := p4u
  obtain ⟨L8u, hb9u, hl10u, ha11u⟩ := o7u
  obtain rfl := p4u
  refine EWL.op rfl ?_
  refine s_as ?_
  refine EW.ret ?_
  obtain rfl := som hF0
  refine ends1 (.inl rfl)  ?_
  exact ret_ (g := g5u) I lo hZ z0 rfl (And.intro rfl ⟨_, Blk.up (Stp.rc g5u 2400 2500 0) (iv_o hi0) hb9u, hl10u, At.up ha11u (Stp.rc g5u 2400 2500 0) fz nc0⟩)
theorem octet_In_Sum_ok {g0 : GW} {Z : Nat → Prop} (hZ : ∀ c, Z c → c = 0 ∨ 2600 ≤ c) (z0 : Z 0) (lo : Lo Z g0)  {a0 : octet_In} {La0 : List Value} {ba0 i0 : Nat} (hba0 : Blk g0 ba0 i0 115 La0) (hla0 : La0.length = k_octet_In.sz) (ma0 : At k_octet_In g0 0 a0 La0 0) (hi0 : 2600 ≤ i0) (zi0 : Z i0) {r : ((List Int) × octet_In)} (hF0 : octet_In_Sum a0 = some r) :
    Calls P 61 [.pointer (some ⟨ba0, 0, none⟩)].toArray g0.w (Rets (RR (at_ i0) Z g0 (PAnd (PAg (kNums .u8 32) r.1) (fun h => Ob0 115 k_octet_In h i0 ba0 r.2)))) := by
  refine calls_of Go.Proofs.Try.func61 rfl (Nat.le_of_ble_eq_true rfl) (by kernel_rfl) ?_
  have I : Inv (or_ (at_ i0) (iv 2500 2600)) (or_ Z (iv 2500 2600)) g0 g0 := Inv.start (lo.mono (fun _ h => .inl h))
  have fz : ¬ iv 2500 2600 0 := nz0 rfl
  unfold octet_In_Sum at hF0
  refine EW.seq ?_
  refine EW.region (by kernel_rfl) ?_
  refine EWL.op rfl ?_
  refine s_newK (kNums .u8 32) 2501 I (zpv rfl) z132 rfl fun g6u b1u L5u s7u I hb2u hl4u ha3u => ?_
  refine EW.seq ?_
  refine EW.region (by kernel_rfl) ?_
  refine EWL.op rfl ?_
  refine s_newK (kNums .u8 32) 2502 I (zpv rfl) z132 rfl fun g13u b8u L12u s14u I hb9u hl11u ha10u => ?_
  refine EW.seq ?_
  obtain ⟨r15u, h16u, hF0⟩ := bnd hF0
  refine EW.drawn [] [⟨SF.val 3 (.pointer (some ⟨b8u, 0, none⟩)), none, none⟩, ⟨SF.bx b8u 2502 132 (kNums .u8 32) rfl (List.replicate 32 0), none, some 3⟩, ⟨SF.val 0 (.pointer (some ⟨ba0, 0, none⟩)), none, none⟩, ⟨SF.bx ba0 i0 115 k_octet_In rfl a0, none, some 2⟩, ⟨SF.val 2 (.pointer (some ⟨b1u, 0, none⟩)), none, none⟩, ⟨SF.bx b1u 2501 132 (kNums .u8 32) rfl (List.replicate 32 0), none, none⟩, ⟨SF.val 4 (.slice (some ⟨b8u, 0, none⟩) 32 32), some 0, none⟩, ⟨SF.val 5 (.pointer (some ⟨ba0, 0, none⟩)), some 1, none⟩, ⟨SF.bx ba0 i0 115 k_octet_In rfl r15u.2, some 2, none⟩, ⟨SF.sl 6 (kInt .u8) rfl 0 r15u.1, some 2, none⟩, ⟨SF.bx b8u 2502 132 (kNums .u8 32) rfl (cpy (List.replicate 32 0) r15u.1), some 3, none⟩] [(2, at_ i0), (3, at_ 2502)] (by kernel_rfl) (by kernel_rfl) (by kernel_rfl) ?_ I ?_ (dcons ?_ (dcons ?_ (dcons ?_ (dcons ?_ dnil)))) ?_
  · exact (And.intro (And.intro (Ne.symm (ne_od hi0 rfl)) (And.intro trivial (And.intro (And.intro (Ne.symm (ne_od hi0 rfl)) trivial) (And.intro trivial (And.intro trivial (And.intro trivial (And.intro (And.intro (Ne.symm (ne_od hi0 rfl)) trivial) (And.intro trivial (And.intro trivial (And.intro trivial (And.intro trivial (And.intro trivial trivial)))))))))))) (And.intro (And.intro (Nat.ne_of_beq_eq_false rfl) (And.intro trivial (And.intro trivial (And.intro trivial (And.intro trivial (And.intro trivial (And.intro (And.intro (Nat.ne_of_beq_eq_false rfl) trivial) (And.intro trivial (And.intro trivial (And.intro (And.intro (ne_od hi0 rfl) trivial) (And.intro (And.intro (Nat.ne_of_beq_eq_false rfl) trivial) (And.intro trivial trivial)))))))))))) trivial))
  · exact (nwc (pf_val rfl) (nwc (pf_bx rfl hb9u hl11u ha10u) (nwc (pf_val rfl) (nwc (pf_bx rfl (Blk.up s14u no_ (Blk.up s7u no_ hba0)) hla0 (At.up (At.up ma0 s7u no_ nc0) s14u no_ nc0)) (nwc (pf_val rfl) (nwc (pf_bx rfl (Blk.up s14u no_ hb2u) hl4u (At.up ha3u s14u no_ nc0)) nwn))))))
  · intro ρ g I av
    obtain ⟨L50u, hb51u, hl52u, ha53u⟩ := av 1 _ rfl (by kernel_rfl)
    have hr54u := av 0 _ rfl (by kernel_rfl)
    refine ddo (up1 rfl hr54u) rfl ?_
    refine s_slcX ar132 t5 rfl ?_
    exact ⟨_, rfl, (Stp.refl _ _), I, (nwc (pf_val rfl) nwn)⟩
  · intro ρ g I av
    have hr56u := av 2 _ rfl (by kernel_rfl)
    refine ddo (up1 rfl hr56u) rfl ?_
    refine s_mv ?_
    exact ⟨_, rfl, (Stp.refl _ _), I, (nwc (pf_val rfl) nwn)⟩
  · intro ρ g I av
    obtain ⟨L58u, hb59u, hl60u, ha61u⟩ := av 3 _ rfl (by kernel_rfl)
    have hr62u := av 7 _ rfl (by kernel_rfl)
    refine ddo (up1 rfl hr62u) rfl ?_
    refine s_cf I k67 rfl (octet_In_cut_ok (zle hZ rfl rfl) (.inl z0) I.l hb59u hl60u ha61u (le_b rfl hi0) (.inl zi0) h16u) (at_in (.inl rfl)) fun g66u v64u s67u I p65u => ?_
    obtain ⟨p65u, o68u⟩ := p65u
    obtain ⟨L69u, hb70u, hl71u, ha72u⟩ := o68u
    exact ⟨_, rfl, s67u, I, (nwc (pf_bx rfl hb70u hl71u ha72u) (nwc (pf_sl rfl rfl p65u) nwn))⟩
  · intro ρ g I av
    obtain ⟨L73u, hb74u, hl75u, ha76u⟩ := av 1 _ rfl (by kernel_rfl)
    have hr77u := av 6 _ rfl (by kernel_rfl)
    obtain ⟨v81u, hr79u, m80u⟩ := av 9 _ rfl (by kernel_rfl)
    refine ddo (up1 (up1 rfl hr77u) hr79u) rfl ?_
    refine s_copyN (ys := r15u.1) I s32 rfl t5 rfl (Sl.rs m80u) hb74u ha76u rfl (by decide) (zpv rfl) fun g82u L84u s83u I hb85u hu86u hn87u => ?_
    have ha88u := hn87u
    have hl89u := hu86u.1.trans hl75u
    exact ⟨_, rfl, s83u, I, (nwc (pf_bx rfl hb85u hl89u ha88u) nwn)⟩
  · intro ρ g I av
    obtain ⟨L34u, hb35u, hl36u, ha37u⟩ := av 5 _ rfl rfl
    obtain ⟨L38u, hb39u, hl40u, ha41u⟩ := av 10 _ rfl rfl
    obtain ⟨L42u, hb43u, hl44u, ha45u⟩ := av 8 _ rfl rfl
    have hr46u := av 4 _ rfl rfl
    have hr48u := av 0 _ rfl rfl
    refine ⟨_, (up1 (up1 rfl hr46u) hr48u), ?_⟩
    refine EW.seq ?_
    refine EW.region (by kernel_rfl) ?_
    refine EWL.op rfl ?_
    refine s_ldK t132 rfl (Blk.cells hb39u) ha41u rfl rfl fun cs90u m91u => ?_
    refine EWL.opn rfl ?_
    have m92u : (kNums .u8 32).M g 0 (cpy (List.replicate 32 0) r15u.1) _ := m91u
    refine s_stK (kd := (kNums .u8 32)) I t132 rfl rfl m92u rfl hb35u (ble_ hl36u rfl) (by decide) nc0 (zpv rfl) fun g93u L95u s94u I hb96u hu97u hn98u => ?_
    have ha99u := hn98u
    have hl100u := hu97u.1.trans hl36u
    refine EW.ret ?_
    obtain rfl := som hF0
    refine endsC (.inl rfl) rfl (run_lvA t132 (Blk.cells hb96u) (At.fits ha99u (by decide))) ?_
    exact ret_ (g := g93u) I lo hZ z0 rfl (And.intro ⟨_, rfl, Kd.upK rfl (Stp.rc g93u 2500 2600 0) fz ha99u⟩ ⟨_, Blk.up (Stp.rc g93u 2500 2600 0) (iv_o hi0) (Blk.up s94u (ne_od hi0 rfl) hb43u), hl44u, At.up (At.up ha45u s94u (Nat.ne_of_beq_eq_false rfl) nc0) (Stp.rc g93u 2500 2600 0) fz nc0⟩)
theorem deed_takeCond_ok {g0 : GW} {Z : Nat → Prop} (hZ : ∀ c, Z c → c = 0 ∨ 2700 ≤ c) (z0 : Z 0) (lo : Lo Z g0)  {a0 : octet_In} {La0 : List Value} {ba0 i0 : Nat} (hba0 : Blk g0 ba0 i0 115 La0) (hla0 : La0.length = k_octet_In.sz) (ma0 : At k_octet_In g0 0 a0 La0 0) (hi0 : 2700 ≤ i0) (zi0 : Z i0) {r : (api_Cond × octet_In)} (hF0 : deed_takeCond a0 = some r) :
    Calls P 44 [.pointer (some ⟨ba0, 0, none⟩)].toArray g0.w (Rets (RR (at_ i0) Z g0 (PAnd (PAg k_api_Cond r.1) (fun h => Ob0 115 k_octet_In h i0 ba0 r.2)))) := by
  refine calls_of Go.Proofs.Try.func44 rfl (Nat.le_of_ble_eq_true rfl) (by kernel_rfl) ?_
  have I : Inv (or_ (at_ i0) (iv 2600 2700)) (or_ Z (iv 2600 2700)) g0 g0 := Inv.start (lo.mono (fun _ h => .inl h))
  have fz : ¬ iv 2600 2700 0 := nz0 rfl
  unfold deed_takeCond at hF0
  refine EW.seq ?_
  refine EW.region (by kernel_rfl) ?_
  refine EWL.op rfl ?_
  refine s_newK k_api_Cond 2601 I (zpv rfl) z37 rfl fun g6u b1u L5u s7u I hb2u hl4u ha3u => ?_
  refine EW.seq ?_
  refine EW.region (by kernel_rfl) ?_
  refine EWL.op rfl ?_
  refine s_mv ?_
  refine EWL.op rfl ?_
  obtain ⟨r8u, h9u, hF0⟩ := bnd hF0
  refine s_cf I k43 rfl (octet_In_Eight_ok (zle hZ rfl rfl) (.inl z0) I.l (Blk.up s7u no_ hba0) hla0 (At.up ma0 s7u no_ nc0) (le_b rfl hi0) (.inl zi0) h9u) (at_in (.inl rfl)) fun g12u v10u s13u I p11u => ?_
  obtain ⟨p11u, o14u⟩ := p11u
  obtain ⟨L15u, hb16u, hl17u, ha18u⟩ := o14u
  obtain rfl := p11u
  refine EWL.op rfl ?_
  refine s_bldK (kd := k_api_Cond) (r := ({ id := r8u.1, by_ := 0, amount := 0, hash := (List.replicate 32 0), expiry := 0 } : api_Cond)) (g := g12u) zs37 Z37 l37 P37 (And.intro rfl (trivial)) (SM.flat (fs := fs_api_Cond) tl_api_Cond (allc rfl (allc rfl (allc rfl (allc (Kd.zk (g := g0) (i := 0) (kNums .u8 32) rfl) (allc rfl alln)))))) fun cs19u m20u => ?_
  refine EWL.op rfl ?_
  refine s_newK k_api_Cond 2602 I (zpv rfl) z37 rfl fun g26u b21u L25u s27u I hb22u hl24u ha23u => ?_
  refine EWL.opn rfl ?_
  have m28u : k_api_Cond.M g26u 0 ({ id := r8u.1, by_ := 0, amount := 0, hash := (List.replicate 32 0), expiry := 0 } : api_Cond) _ := (Kd.upK rfl s27u no_ m20u)
  refine s_stK (kd := k_api_Cond) I t37 rfl rfl m28u rfl hb22u (ble_ hl24u rfl) (by decide) nc0 (zpv rfl) fun g29u L31u s30u I hb32u hu33u hn34u => ?_
  have ha35u := hn34u
  have hl36u := hu33u.1.trans hl24u
  refine EW.seq ?_
  refine EW.region (by kernel_rfl) ?_
  refine EWL.op rfl ?_
  refine s_mv ?_
  refine EWL.op rfl ?_
  obtain ⟨r37u, h38u, hF0⟩ := bnd hF0
  refine s_cf I k41 rfl (octet_In_One_ok (zle hZ rfl rfl) (.inl z0) I.l (Blk.up s30u (ne_od hi0 rfl) (Blk.up s27u no_ hb16u)) hl17u (At.up (At.up ha18u s27u no_ nc0) s30u (Nat.ne_of_beq_eq_false rfl) nc0) (le_b rfl hi0) (.inl zi0) h38u) (at_in (.inl rfl)) fun g41u v39u s42u I p40u => ?_
  obtain ⟨p40u, o43u⟩ := p40u
  obtain ⟨L44u, hb45u, hl46u, ha47u⟩ := o43u
  obtain rfl := p40u
  refine EWL.op rfl ?_
  refine s_cvt u5 n34 rfl ?_
  refine EWL.op rfl ?_
  refine s_fa f37u1 rfl ?_
  refine EWL.opn rfl ?_
  have m48u : (kInt .i64).M g41u 0 (IntKind.i64.wrap r37u.1) _ := rfl
  refine s_stK (kd := (kInt .i64)) I t34 rfl rfl m48u rfl (Blk.up s42u (Ne.symm (ne_od hi0 rfl)) hb32u) (ble_ hl36u rfl) (by decide) nc0 (zpv rfl) fun g49u L51u s50u I hb52u hu53u hn54u => ?_
  have ha55u := (At.setF (At.up (At.up ha35u s42u (Ne.symm (ne_od hi0 rfl)) nc0) s50u (Nat.ne_of_beq_eq_false rfl) nc0) 1 rfl (S37u1 _ _) hu53u (by decide) (by decide) hn54u)
  have hl56u := hu53u.1.trans hl36u
  refine EW.seq ?_
  refine EW.region (by kernel_rfl) ?_
  refine EWL.op rfl ?_
  refine s_mv ?_
  refine EWL.op rfl ?_
  obtain ⟨r57u, h58u, hF0⟩ := bnd hF0
  refine s_cf I k43 rfl (octet_In_Eight_ok (zle hZ rfl rfl) (.inl z0) I.l (Blk.up s50u (ne_od hi0 rfl) hb45u) hl46u (At.up ha47u s50u (Nat.ne_of_beq_eq_false rfl) nc0) (le_b rfl hi0) (.inl zi0) h58u) (at_in (.inl rfl)) fun g61u v59u s62u I p60u => ?_
  obtain ⟨p60u, o63u⟩ := p60u
  obtain ⟨L64u, hb65u, hl66u, ha67u⟩ := o63u
  obtain rfl := p60u
  refine EWL.op rfl ?_
  refine s_fa f37u2 rfl ?_
  refine EWL.opn rfl ?_
  have m68u : (kInt .u64).M g61u 0 r57u.1 _ := rfl
  refine s_stK (kd := (kInt .u64)) I t23 rfl rfl m68u rfl (Blk.up s62u (Ne.symm (ne_od hi0 rfl)) hb52u) (ble_ hl56u rfl) (by decide) nc0 (zpv rfl) fun g69u L71u s70u I hb72u hu73u hn74u => ?_
  have ha75u := (At.setF (At.up (At.up ha55u s62u (Ne.symm (ne_od hi0 rfl)) nc0) s70u (Nat.ne_of_beq_eq_false rfl) nc0) 2 rfl (S37u2 _ _) hu73u (by decide) (by decide) hn74u)
  have hl76u := hu73u.1.trans hl56u
  refine EW.seq ?_
  refine EW.region (by kernel_rfl) ?_
  refine EWL.op rfl ?_
  refine s_mv ?_
  refine EWL.op rfl ?_
  obtain ⟨r77u, h78u, hF0⟩ := bnd hF0
  refine s_cf I k61 rfl (octet_In_Sum_ok (zle hZ rfl rfl) (.inl z0) I.l (Blk.up s70u (ne_od hi0 rfl) hb65u) hl66u (At.up ha67u s70u (Nat.ne_of_beq_eq_false rfl) nc0) (le_b rfl hi0) (.inl zi0) h78u) (at_in (.inl rfl)) fun g81u v79u s82u I p80u => ?_
  obtain ⟨p80u, o83u⟩ := p80u
  obtain ⟨L84u, hb85u, hl86u, ha87u⟩ := o83u
  obtain ⟨cs88u, rfl, m89u⟩ := p80u
  refine EWL.op rfl ?_
  refine s_fa f37u3 rfl ?_
  refine EWL.opn rfl ?_
  have m90u : (kNums .u8 32).M g81u 0 r77u.1 _ := m89u
  refine s_stK (kd := (kNums .u8 32)) I t35 rfl rfl m90u rfl (Blk.up s82u (Ne.symm (ne_od hi0 rfl)) hb72u) (ble_ hl76u rfl) (by decide) nc0 (zpv rfl) fun g91u L93u s92u I hb94u hu95u hn96u => ?_
  have ha97u := (At.setF (At.up (At.up ha75u s82u (Ne.symm (ne_od hi0 rfl)) nc0) s92u (Nat.ne_of_beq_eq_false rfl) nc0) 3 rfl (S37u3 _ _) hu95u (by decide) (by decide) hn96u)
  have hl98u := hu95u.1.trans hl76u
  refine EW.seq ?_
  refine EW.region (by kernel_rfl) ?_
  refine EWL.op rfl ?_
  refine s_mv ?_
  refine EWL.op rfl ?_
  obtain ⟨r99u, h100u, hF0⟩ := bnd hF0
  refine s_cf I k43 rfl (octet_In_Eight_ok (zle hZ rfl rfl) (.inl z0) I.l (Blk.up s92u (ne_od hi0 rfl) hb85u) hl86u (At.up ha87u s92u (Nat.ne_of_beq_eq_false rfl) nc0) (le_b rfl hi0) (.inl zi0) h100u) (at_in (.inl rfl)) fun g103u v101u s104u I p102u => ?_
  obtain ⟨p102u, o105u⟩ := p102u
  obtain ⟨L106u, hb107u, hl108u, ha109u⟩ := o105u
  obtain rfl := p102u
  refine EWL.op rfl ?_
  refine s_fa f37u4 rfl ?_
  refine EWL.opn rfl ?_
  have m110u : (kInt .u64).M g103u 0 r99u.1 _ := rfl
  refine s_stK (kd := (kInt .u64)) I t23 rfl rfl m110u rfl (Blk.up s104u (Ne.symm (ne_od hi0 rfl)) hb94u) (ble_ hl98u rfl) (by decide) nc0 (zpv rfl) fun g111u L113u s112u I hb114u hu115u hn116u => ?_
  have ha117u := (At.setF (At.up (At.up ha97u s104u (Ne.symm (ne_od hi0 rfl)) nc0) s112u (Nat.ne_of_beq_eq_false rfl) nc0) 4 rfl (S37u4 _ _) hu115u (by decide) (by decide) hn116u)
  have hl118u := hu115u.1.trans hl98u
  refine EW.seqJ (fun ρ w => ∃ (g119u : GW) (L123u : List Value) (x127u : octet_In) (L129u : List Value) (L134u : List Value), w = g119u.w ∧ Inv (or_ (at_ i0) (iv 2600 2700)) (or_ Z (iv 2600 2700)) g0 g119u ∧ deed_takeCond_j1 r8u r37u r57u r77u r99u x127u = some r ∧ ρ 2 = .pointer (some ⟨b1u, 0, none⟩) ∧ ρ 3 = .pointer (some ⟨b21u, 0, none⟩) ∧ Blk g119u ba0 i0 115 L123u ∧ L123u.length = 2 ∧ At k_octet_In g119u 0 x127u L123u 0 ∧ Blk g119u b1u 2601 37 L129u ∧ L129u.length = 36 ∧ At k_api_Cond g119u 0 api_Cond.zero L129u 0 ∧ Blk g119u b21u 2602 37 L134u ∧ L134u.length = 36 ∧ At k_api_Cond g119u 0 ({ id := r8u.1, by_ := (IntKind.i64.wrap r37u.1), amount := r57u.1, hash := r77u.1, expiry := r99u.1 } : api_Cond) L134u 0) ?_ ?_
  · rintro ρ w ⟨g119u, L123u, x127u, L129u, L134u, rfl, I, hF0, hr120u, hr121u, hb124u, hl126u, ha125u, hb130u, hl132u, ha131u, hb135u, hl137u, ha136u⟩
    refine EW.re (up1 (up1 rfl hr120u) hr121u) ?_
    unfold deed_takeCond_j1 at hF0
    refine EW.seq ?_
    refine EW.region (by kernel_rfl) ?_
    refine EWL.op rfl ?_
    refine s_ldK t37 rfl (Blk.cells hb135u) ha136u rfl rfl fun cs138u m139u => ?_
    refine EWL.opn rfl ?_
    have m140u : k_api_Cond.M g119u 0 ({ id := r8u.1, by_ := (IntKind.i64.wrap r37u.1), amount := r57u.1, hash := r77u.1, expiry := r99u.1 } : api_Cond) _ := m139u
    refine s_stK (kd := k_api_Cond) I t37 rfl rfl m140u rfl hb130u (ble_ hl132u rfl) (by decide) nc0 (zpv rfl) fun g141u L143u s142u I hb144u hu145u hn146u => ?_
    have ha147u := hn146u
    have hl148u := hu145u.1.trans hl132u
    refine EW.ret ?_
    obtain rfl := som hF0
    refine endsC (.inl rfl) rfl (run_lvA t37 (Blk.cells hb144u) (At.fits ha147u (by decide))) ?_
    exact ret_ (g := g141u) I lo hZ z0 rfl (And.intro ⟨_, rfl, Kd.upK rfl (Stp.rc g141u 2600 2700 0) fz ha147u⟩ ⟨_, Blk.up (Stp.rc g141u 2600 2700 0) (iv_o hi0) (Blk.up s142u (ne_od hi0 rfl) hb124u), hl126u, At.up (At.up ha125u s142u (Nat.ne_of_beq_eq_false rfl) nc0) (Stp.rc g141u 2600 2700 0) fz nc0⟩)
  · refine EW.seq ?_
    refine EW.region (by kernel_rfl) ?_
    refine EWL.op rfl ?_
    refine s_fa f37u1 rfl ?_
    refine EWL.op rfl ?_
    refine s_ldS t34 rfl (Blk.cells hb114u) (At.fld ha117u 1 rfl) ?_
    refine EWL.op rfl ?_
    refine s_gtr rfl rfl ?_
    refine EW.condS rfl rfl (fun hb149u => ?_) (fun hb149u => ?_)
    · replace hF0 := bif_t hb149u hF0
      refine EW.region (by kernel_rfl) ?_
      refine EWL.op rfl ?_
      refine s_mv ?_
      refine EWL.op rfl ?_
      obtain ⟨r150u, h151u, hF0⟩ := bnd hF0
      refine s_cf I k42 rfl (octet_In_Fail_ok (zle hZ rfl rfl) (.inl z0) I.l (Blk.up s112u (ne_od hi0 rfl) hb107u) hl108u (At.up ha109u s112u (Nat.ne_of_beq_eq_false rfl) nc0) (le_b rfl hi0) (.inl zi0) h151u) (at_in (.inl rfl)) fun g154u v152u s155u I p153u => ?_
      obtain ⟨p153u, o156u⟩ := p153u
      obtain ⟨L157u, hb158u, hl159u, ha160u⟩ := o156u
      obtain rfl := ptup0 p153u
      exact ⟨g154u, _, r150u, _, _, rfl, I, hF0, rfl, rfl, hb158u, hl159u, ha160u, (Blk.up s155u (Ne.symm (ne_od hi0 rfl)) (Blk.up s112u (Nat.ne_of_beq_eq_false rfl) (Blk.up s104u (Ne.symm (ne_od hi0 rfl)) (Blk.up s92u (Nat.ne_of_beq_eq_false rfl) (Blk.up s82u (Ne.symm (ne_od hi0 rfl)) (Blk.up s70u (Nat.ne_of_beq_eq_false rfl) (Blk.up s62u (Ne.symm (ne_od hi0 rfl)) (Blk.up s50u (Nat.ne_of_beq_eq_false rfl) (Blk.up s42u (Ne.symm (ne_od hi0 rfl)) (Blk.up s30u (Nat.ne_of_beq_eq_false rfl) (Blk.up s27u no_ (Blk.up s13u (Ne.symm (ne_od hi0 rfl)) hb2u)))))))))))), hl4u, (At.up (At.up (At.up (At.up (At.up (At.up (At.up (At.up (At.up (At.up (At.up (At.up ha3u s13u (Ne.symm (ne_od hi0 rfl)) nc0) s27u no_ nc0) s30u (Nat.ne_of_beq_eq_false rfl) nc0) s42u (Ne.symm (ne_od hi0 rfl)) nc0) s50u (Nat.ne_of_beq_eq_false rfl) nc0) s62u (Ne.symm (ne_od hi0 rfl)) nc0) s70u (Nat.ne_of_beq_eq_false rfl) nc0) s82u (Ne.symm (ne_od hi0 rfl)) nc0) s92u (Nat.ne_of_beq_eq_false rfl) nc0) s104u (Ne.symm (ne_od hi0 rfl)) nc0) s112u (Nat.ne_of_beq_eq_false rfl) nc0) s155u (Ne.symm (ne_od hi0 rfl)) nc0), (Blk.up s155u (Ne.symm (ne_od hi0 rfl)) hb114u), hl118u, (At.up ha117u s155u (Ne.symm (ne_od hi0 rfl)) nc0)⟩
    · replace hF0 := bif_f hb149u hF0
      refine EW.skip ?_
      exact ⟨g111u, _, r99u.2, _, _, rfl, I, hF0, rfl, rfl, (Blk.up s112u (ne_od hi0 rfl) hb107u), hl108u, (At.up ha109u s112u (Nat.ne_of_beq_eq_false rfl) nc0), (Blk.up s112u (Nat.ne_of_beq_eq_false rfl) (Blk.up s104u (Ne.symm (ne_od hi0 rfl)) (Blk.up s92u (Nat.ne_of_beq_eq_false rfl) (Blk.up s82u (Ne.symm (ne_od hi0 rfl)) (Blk.up s70u (Nat.ne_of_beq_eq_false rfl) (Blk.up s62u (Ne.symm (ne_od hi0 rfl)) (Blk.up s50u (Nat.ne_of_beq_eq_false rfl) (Blk.up s42u (Ne.symm (ne_od hi0 rfl)) (Blk.up s30u (Nat.ne_of_beq_eq_false rfl) (Blk.up s27u no_ (Blk.up s13u (Ne.symm (ne_od hi0 rfl)) hb2u))))))))))), hl4u, (At.up (At.up (At.up (At.up (At.up (At.up (At.up (At.up (At.up (At.up (At.up ha3u s13u (Ne.symm (ne_od hi0 rfl)) nc0) s27u no_ nc0) s30u (Nat.ne_of_beq_eq_false rfl) nc0) s42u (Ne.symm (ne_od hi0 rfl)) nc0) s50u (Nat.ne_of_beq_eq_false rfl) nc0) s62u (Ne.symm (ne_od hi0 rfl)) nc0) s70u (Nat.ne_of_beq_eq_false rfl) nc0) s82u (Ne.symm (ne_od hi0 rfl)) nc0) s92u (Nat.ne_of_beq_eq_false rfl) nc0) s104u (Ne.symm (ne_od hi0 rfl)) nc0) s112u (Nat.ne_of_beq_eq_false rfl) nc0), hb114u, hl118u, ha117u⟩
theorem deed_TakeOp_ok {g0 : GW} {Z : Nat → Prop} (hZ : ∀ c, Z c → c = 0 ∨ 2800 ≤ c) (z0 : Z 0) (lo : Lo Z g0)  {a0 : octet_In} {La0 : List Value} {ba0 i0 : Nat} (hba0 : Blk g0 ba0 i0 115 La0) (hla0 : La0.length = k_octet_In.sz) (ma0 : At k_octet_In g0 0 a0 La0 0) (hi0 : 2800 ≤ i0) (zi0 : Z i0) {r : (pact_Op × octet_In)} (hF0 : deed_TakeOp a0 = some r) :
    Calls P 22 [.pointer (some ⟨ba0, 0, none⟩)].toArray g0.w (Rets (RR (at_ i0) Z g0 (PAnd (PAg k_pact_Op r.1) (fun h => Ob0 115 k_octet_In h i0 ba0 r.2)))) := by
  refine calls_of Go.Proofs.Try.func22 rfl (Nat.le_of_ble_eq_true rfl) (by kernel_rfl) ?_
  have I : Inv (or_ (at_ i0) (iv 2700 2800)) (or_ Z (iv 2700 2800)) g0 g0 := Inv.start (lo.mono (fun _ h => .inl h))
  have fz : ¬ iv 2700 2800 0 := nz0 rfl
  unfold deed_TakeOp at hF0
  refine EW.seq ?_
  refine EW.region (by kernel_rfl) ?_
  refine EWL.op rfl ?_
  refine s_newK k_pact_Op 2701 I (zpv rfl) z39 rfl fun g6u b1u L5u s7u I hb2u hl4u ha3u => ?_
  refine EW.seq ?_
  refine EW.region (by kernel_rfl) ?_
  refine EWL.op rfl ?_
  refine s_mv ?_
  refine EWL.op rfl ?_
  obtain ⟨r8u, h9u, hF0⟩ := bnd hF0
  refine s_cf I k41 rfl (octet_In_One_ok (zle hZ rfl rfl) (.inl z0) I.l (Blk.up s7u no_ hba0) hla0 (At.up ma0 s7u no_ nc0) (le_b rfl hi0) (.inl zi0) h9u) (at_in (.inl rfl)) fun g12u v10u s13u I p11u => ?_
  obtain ⟨p11u, o14u⟩ := p11u
  obtain ⟨L15u, hb16u, hl17u, ha18u⟩ := o14u
  obtain rfl := p11u
  refine EWL.op rfl ?_
  refine s_cvt u5 n3 rfl ?_
  refine EWL.op rfl ?_
  refine s_mv ?_
  refine EWL.op rfl ?_
  obtain ⟨r19u, h20u, hF0⟩ := bnd hF0
  refine s_cf I k43 rfl (octet_In_Eight_ok (zle hZ rfl rfl) (.inl z0) I.l hb16u hl17u ha18u (le_b rfl hi0) (.inl zi0) h20u) (at_in (.inl rfl)) fun g23u v21u s24u I p22u => ?_
  obtain ⟨p22u, o25u⟩ := p22u
  obtain ⟨L26u, hb27u, hl28u, ha29u⟩ := o25u
  obtain rfl := p22u
  refine EWL.op rfl ?_
  refine s_bldK (kd := k_pact_Op) (r := ({ kind := (IntKind.i64.wrap r8u.1), amount := r19u.1, cond := api_Cond.zero, id := 0 } : pact_Op)) (g := g23u) zs39 Z39 l39 P39 (And.intro rfl (And.intro rfl (trivial))) (SM.flat (fs := fs_pact_Op) tl_pact_Op (allc rfl (allc rfl (allc (Kd.zk (i := 0) k_api_Cond rfl) (allc rfl alln))))) fun cs30u m31u => ?_
  refine EWL.op rfl ?_
  refine s_newK k_pact_Op 2702 I (zpv rfl) z39 rfl fun g37u b32u L36u s38u I hb33u hl35u ha34u => ?_
  refine EWL.opn rfl ?_
  have m39u : k_pact_Op.M g37u 0 ({ kind := (IntKind.i64.wrap r8u.1), amount := r19u.1, cond := api_Cond.zero, id := 0 } : pact_Op) _ := (Kd.upK rfl s38u no_ m31u)
  refine s_stK (kd := k_pact_Op) I t39 rfl rfl m39u rfl hb33u (ble_ hl35u rfl) (by decide) nc0 (zpv rfl) fun g40u L42u s41u I hb43u hu44u hn45u => ?_
  have ha46u := hn45u
  have hl47u := hu44u.1.trans hl35u
  refine EW.seq ?_
  refine EW.region (by kernel_rfl) ?_
  refine EWL.op rfl ?_
  refine s_mv ?_
  refine EWL.op rfl ?_
  obtain ⟨r48u, h49u, hF0⟩ := bnd hF0
  refine s_cf I k43 rfl (octet_In_Eight_ok (zle hZ rfl rfl) (.inl z0) I.l (Blk.up s41u (ne_od hi0 rfl) (Blk.up s38u no_ hb27u)) hl28u (At.up (At.up ha29u s38u no_ nc0) s41u (Nat.ne_of_beq_eq_false rfl) nc0) (le_b rfl hi0) (.inl zi0) h49u) (at_in (.inl rfl)) fun g52u v50u s53u I p51u => ?_
  obtain ⟨p51u, o54u⟩ := p51u
  obtain ⟨L55u, hb56u, hl57u, ha58u⟩ := o54u
  obtain rfl := p51u
  refine EWL.op rfl ?_
  refine s_fa f39u3 rfl ?_
  refine EWL.opn rfl ?_
  have m59u : (kInt .u64).M g52u 0 r48u.1 _ := rfl
  refine s_stK (kd := (kInt .u64)) I t23 rfl rfl m59u rfl (Blk.up s53u (Ne.symm (ne_od hi0 rfl)) hb43u) (ble_ hl47u rfl) (by decide) nc0 (zpv rfl) fun g60u L62u s61u I hb63u hu64u hn65u => ?_
  have ha66u := (At.setF (At.up (At.up ha46u s53u (Ne.symm (ne_od hi0 rfl)) nc0) s61u (Nat.ne_of_beq_eq_false rfl) nc0) 3 rfl (S39u3 _ _) hu64u (by decide) (by decide) hn65u)
  have hl67u := hu64u.1.trans hl47u
  refine EW.seq ?_
  refine EW.region (by kernel_rfl) ?_
  refine EWL.op rfl ?_
  refine s_mv ?_
  refine EWL.op rfl ?_
  obtain ⟨r68u, h69u, hF0⟩ := bnd hF0
  refine s_cf I k44 rfl (deed_takeCond_ok (zle hZ rfl rfl) (.inl z0) I.l (Blk.up s61u (ne_od hi0 rfl) hb56u) hl57u (At.up ha58u s61u (Nat.ne_of_beq_eq_false rfl) nc0) (le_b rfl hi0) (.inl zi0) h69u) (at_in (.inl rfl)) fun g72u v70u s73u I p71u => ?_
  obtain ⟨p71u, o74u⟩ := p71u
  obtain ⟨L75u, hb76u, hl77u, ha78u⟩ := o74u
  obtain ⟨cs79u, rfl, m80u⟩ := p71u
  refine EWL.op rfl ?_
  refine s_fa f39u2 rfl ?_
  refine EWL.opn rfl ?_
  have m81u : k_api_Cond.M g72u 0 r68u.1 _ := m80u
  refine s_stK (kd := k_api_Cond) I t37 rfl rfl m81u rfl (Blk.up s73u (Ne.symm (ne_od hi0 rfl)) hb63u) (ble_ hl67u rfl) (by decide) nc0 (zpv rfl) fun g82u L84u s83u I hb85u hu86u hn87u => ?_
  have ha88u := (At.setF (At.up (At.up ha66u s73u (Ne.symm (ne_od hi0 rfl)) nc0) s83u (Nat.ne_of_beq_eq_false rfl) nc0) 2 rfl (S39u2 _ _) hu86u (by decide) (by decide) hn87u)
  have hl89u := hu86u.1.trans hl67u
  refine EW.seq ?_
  refine EW.seq ?_
  refine EW.region (by kernel_rfl) ?_
  refine EWL.op rfl ?_
  refine s_mv ?_
  refine EWL.op rfl ?_
  obtain ⟨r90u, h91u, hF0⟩ := bnd hF0
  refine s_cf I k45 rfl (octet_In_Bad_ok (zle hZ rfl rfl) (.inl z0) I.l (Blk.up s83u (ne_od hi0 rfl) hb76u) hl77u (At.up ha78u s83u (Nat.ne_of_beq_eq_false rfl) nc0) (le_b rfl hi0) (.inl zi0) h91u) no_any fun g94u v92u s95u I p93u => ?_
  obtain rfl := p93u
  refine EWL.op rfl ?_
  refine s_neq rfl rfl ?_
  refine EW.condS rfl rfl (fun hb96u => ?_) (fun hb96u => ?_)
  · replace hF0 := bif_t hb96u hF0
    refine EW.seq ?_
    refine EW.region (by kernel_rfl) ?_
    refine EWL.op rfl ?_
    refine s_bldK (kd := k_pact_Op) (r := ({ kind := 0, amount := 0, cond := api_Cond.zero, id := 0 } : pact_Op)) (g := g94u) zs39 Z39 l39 P39 (trivial) (SM.flat (fs := fs_pact_Op) tl_pact_Op (allc rfl (allc rfl (allc (Kd.zk (i := 0) k_api_Cond rfl) (allc rfl alln))))) fun cs97u m98u => ?_
    refine EWL.opn rfl ?_
    have m99u : k_pact_Op.M g94u 0 ({ kind := 0, amount := 0, cond := api_Cond.zero, id := 0 } : pact_Op) _ := m98u
    refine s_stK (kd := k_pact_Op) I t39 rfl rfl m99u rfl (Blk.up s95u no_ (Blk.up s83u (Nat.ne_of_beq_eq_false rfl) (Blk.up s73u (Ne.symm (ne_od hi0 rfl)) (Blk.up s61u (Nat.ne_of_beq_eq_false rfl) (Blk.up s53u (Ne.symm (ne_od hi0 rfl)) (Blk.up s41u (Nat.ne_of_beq_eq_false rfl) (Blk.up s38u no_ (Blk.up s24u (Ne.symm (ne_od hi0 rfl)) (Blk.up s13u (Ne.symm (ne_od hi0 rfl)) hb2u))))))))) (ble_ hl4u rfl) (by decide) nc0 (zpv rfl) fun g100u L102u s101u I hb103u hu104u hn105u => ?_
    have ha106u := hn105u
    have hl107u := hu104u.1.trans hl4u
    refine EW.ret ?_
    obtain rfl := som hF0
    refine endsC (.inl rfl) rfl (run_lvA t39 (Blk.cells hb103u) (At.fits ha106u (by decide))) ?_
    exact ret_ (g := g100u) I lo hZ z0 rfl (And.intro ⟨_, rfl, Kd.upK rfl (Stp.rc g100u 2700 2800 0) fz ha106u⟩ ⟨_, Blk.up (Stp.rc g100u 2700 2800 0) (iv_o hi0) (Blk.up s101u (ne_od hi0 rfl) (Blk.up s95u no_ (Blk.up s83u (ne_od hi0 rfl) hb76u))), hl77u, At.up (At.up (At.up (At.up ha78u s83u (Nat.ne_of_beq_eq_false rfl) nc0) s95u no_ nc0) s101u (Nat.ne_of_beq_eq_false rfl) nc0) (Stp.rc g100u 2700 2800 0) fz nc0⟩)
  · replace hF0 := bif_f hb96u hF0
    refine EW.skip ?_
    refine EW.seq ?_
    refine EW.region (by kernel_rfl) ?_
    refine EWL.op rfl ?_
    refine s_ldK t39 rfl (Blk.cells (Blk.up s95u no_ hb85u)) (At.up ha88u s95u no_ nc0) rfl rfl fun cs108u m109u => ?_
    refine EWL.opn rfl ?_
    have m110u : k_pact_Op.M g94u 0 ({ kind := (IntKind.i64.wrap r8u.1), amount := r19u.1, cond := r68u.1, id := r48u.1 } : pact_Op) _ := m109u
    refine s_stK (kd := k_pact_Op) I t39 rfl rfl m110u rfl (Blk.up s95u no_ (Blk.up s83u (Nat.ne_of_beq_eq_false rfl) (Blk.up s73u (Ne.symm (ne_od hi0 rfl)) (Blk.up s61u (Nat.ne_of_beq_eq_false rfl) (Blk.up s53u (Ne.symm (ne_od hi0 rfl)) (Blk.up s41u (Nat.ne_of_beq_eq_false rfl) (Blk.up s38u no_ (Blk.up s24u (Ne.symm (ne_od hi0 rfl)) (Blk.up s13u (Ne.symm (ne_od hi0 rfl)) hb2u))))))))) (ble_ hl4u rfl) (by decide) nc0 (zpv rfl) fun g111u L113u s112u I hb114u hu115u hn116u => ?_
    have ha117u := hn116u
    have hl118u := hu115u.1.trans hl4u
    refine EW.ret ?_
    obtain rfl := som hF0
    refine endsC (.inl rfl) rfl (run_lvA t39 (Blk.cells hb114u) (At.fits ha117u (by decide))) ?_
    exact ret_ (g := g111u) I lo hZ z0 rfl (And.intro ⟨_, rfl, Kd.upK rfl (Stp.rc g111u 2700 2800 0) fz ha117u⟩ ⟨_, Blk.up (Stp.rc g111u 2700 2800 0) (iv_o hi0) (Blk.up s112u (ne_od hi0 rfl) (Blk.up s95u no_ (Blk.up s83u (ne_od hi0 rfl) hb76u))), hl77u, At.up (At.up (At.up (At.up ha78u s83u (Nat.ne_of_beq_eq_false rfl) nc0) s95u no_ nc0) s112u (Nat.ne_of_beq_eq_false rfl) nc0) (Stp.rc g111u 2700 2800 0) fz nc0⟩)
theorem octet_In_Four_ok {g0 : GW} {Z : Nat → Prop} (hZ : ∀ c, Z c → c = 0 ∨ 2900 ≤ c) (z0 : Z 0) (lo : Lo Z g0)  {a0 : octet_In} {La0 : List Value} {ba0 i0 : Nat} (hba0 : Blk g0 ba0 i0 115 La0) (hla0 : La0.length = k_octet_In.sz) (ma0 : At k_octet_In g0 0 a0 La0 0) (hi0 : 2900 ≤ i0) (zi0 : Z i0) {r : (Int × octet_In)} (hF0 : octet_In_Four a0 = some r) :
    Calls P 46 [.pointer (some ⟨ba0, 0, none⟩)].toArray g0.w (Rets (RR (at_ i0) Z g0 (PAnd (PEq (.int .u32 r.1)) (fun h => Ob0 115 k_octet_In h i0 ba0 r.2)))) := by
  refine calls_of Go.Proofs.Try.func46 rfl (Nat.le_of_ble_eq_true rfl) (by kernel_rfl) ?_
  have I : Inv (or_ (at_ i0) (iv 2800 2900)) (or_ Z (iv 2800 2900)) g0 g0 := Inv.start (lo.mono (fun _ h => .inl h))
  have fz : ¬ iv 2800 2900 0 := nz0 rfl
  unfold octet_In_Four at hF0
  refine EW.seq ?_
  refine EW.region (by kernel_rfl) ?_
  refine EWL.op rfl ?_
  refine s_as ?_
  refine EW.seq ?_
  refine EW.region (by kernel_rfl) ?_
  refine EWL.op rfl ?_
  refine s_mv ?_
  refine EWL.op rfl ?_
  obtain ⟨r1u, h2u, hF0⟩ := bnd hF0
  refine s_cf I k60 rfl (octet_In_num_ok (zle hZ rfl rfl) (.inl z0) I.l hba0 hla0 ma0 (le_b rfl hi0) (.inl zi0) h2u) (at_in (.inl rfl)) fun g5u v3u s6u I p4u => ?_
  obtain ⟨p4u, o7u⟩ := p4u
  obtain ⟨L8u, hb9u, hl10u, ha11u⟩ := o7u
  obtain rfl := p4u
  refine EWL.op rfl ?_
  refine s_cvt u23 n65 rfl ?_
  refine EWL.op rfl ?_
  refine s_as ?_
  refine EW.ret ?_
  obtain rfl := som hF0
  refine ends1 (.inl rfl)  ?_
  exact ret_ (g := g5u) I lo hZ z0 rfl (And.intro rfl ⟨_, Blk.up (Stp.rc g5u 2800 2900 0) (iv_o hi0) hb9u, hl10u, At.up ha11u (Stp.rc g5u 2800 2900 0) fz nc0⟩)
theorem memo_TakeTrail_ok {g0 : GW} {Z : Nat → Prop} (hZ : ∀ c, Z c → c = 0 ∨ 3000 ≤ c) (z0 : Z 0) (lo : Lo Z g0) (rc0 : Nat) (zrc0 : Z rc0) {a0 : octet_In} {La0 : List Value} {ba0 i0 : Nat} (hba0 : Blk g0 ba0 i0 115 La0) (hla0 : La0.length = k_octet_In.sz) (ma0 : At k_octet_In g0 0 a0 La0 0) (hi0 : 3000 ≤ i0) (zi0 : Z i0) {r : ((List memo_Hop) × octet_In)} (hF0 : memo_TakeTrail a0 = some r) :
    Calls P 23 [.pointer (some ⟨ba0, 0, none⟩)].toArray g0.w (Rets (RR (at_ i0) Z g0 (PAnd ((fun h v => Row 111 k_memo_Hop h rc0 r.1 v)) (fun h => Ob0 115 k_octet_In h i0 ba0 r.2)))) := by
  refine calls_of Go.Proofs.Try.func23 rfl (Nat.le_of_ble_eq_true rfl) (by kernel_rfl) ?_
  have I : Inv (or_ (at_ i0) (iv 2900 3000)) (or_ Z (iv 2900 3000)) g0 g0 := Inv.start (lo.mono (fun _ h => .inl h))
  have fz : ¬ iv 2900 3000 0 := nz0 rfl
  unfold memo_TakeTrail at hF0
  refine EW.seq ?_
  refine EW.region (by kernel_rfl) ?_
  refine EWL.op rfl ?_
  refine s_as ?_
  refine EW.seq ?_
  refine EW.region (by kernel_rfl) ?_
  refine EWL.op rfl ?_
  refine s_as ?_
  refine EW.seq ?_
  refine EW.seq ?_
  refine EW.region (by kernel_rfl) ?_
  refine EWL.op rfl ?_
  refine s_mv ?_
  refine EWL.op rfl ?_
  obtain ⟨r1u, h2u, hF0⟩ := bnd hF0
  refine s_cf I k21 rfl (octet_In_Many_ok (zle hZ rfl rfl) (.inl z0) I.l hba0 hla0 ma0 (le_b rfl hi0) (.inl zi0) h2u) (at_in (.inl rfl)) fun g5u v3u s6u I p4u => ?_
  obtain ⟨p4u, o7u⟩ := p4u
  obtain ⟨L8u, hb9u, hl10u, ha11u⟩ := o7u
  obtain rfl := p4u
  refine EWL.op rfl ?_
  refine s_mv ?_
  refine EW.block ?_
  refine EW.loop (b := (memo_TakeTrail_b1 r1u)) (fun (s : ((List memo_Hop) × Int × octet_In)) ρ w => ∃ (g17u : GW) (x20u : (List memo_Hop)) (v21u : Value) (x25u : Int) (L27u : List Value) (x31u : octet_In), w = g17u.w ∧ Inv (or_ (at_ i0) (iv 2900 3000)) (or_ Z (iv 2900 3000)) g0 g17u ∧ (x20u, x25u, x31u) = s ∧ ρ 0 = .pointer (some ⟨ba0, 0, none⟩) ∧ ρ 3 = v21u ∧ Row 111 k_memo_Hop g17u 2903 x20u v21u ∧ ρ 6 = .int .i64 r1u.1 ∧ ρ 7 = .int .i64 x25u ∧ Blk g17u ba0 i0 115 L27u ∧ L27u.length = 2 ∧ At k_octet_In g17u 0 x31u L27u 0) hF0 ⟨g5u, [], _, 0, _, r1u.2, rfl, I, rfl, rfl, rfl, Row.none, rfl, rfl, hb9u, hl10u, ha11u⟩ ?_
  · rintro s_ o32u ρ w ⟨g17u, x20u, v21u, x25u, L27u, x31u, rfl, I, eo, hr18u, hr19u, m22u, hr23u, hr24u, hb28u, hl30u, ha29u⟩ hF1 hr1
    subst eo
    unfold memo_TakeTrail_b1 at hF1
    refine EW.re (up1 (up1 (up1 (up1 rfl hr18u) hr19u) hr23u) hr24u) ?_
    refine EW.seq ?_
    refine EW.region (by kernel_rfl) ?_
    refine EWL.op rfl ?_
    refine s_lss rfl rfl ?_
    refine EW.seq ?_
    refine EW.condS rfl rfl (fun hb33u => ?_) (fun hb33u => ?_)
    · replace hF1 := bif_t hb33u hF1
      refine EW.skip ?_
      refine EW.seq ?_
      refine EW.block ?_
      refine EW.seq ?_
      refine EW.region (by kernel_rfl) ?_
      refine EWL.op rfl ?_
      refine s_mv ?_
      refine EWL.op rfl ?_
      obtain ⟨r34u, h35u, hF1⟩ := bnd hF1
      refine s_cf I k46 rfl (octet_In_Four_ok (zle hZ rfl rfl) (.inl z0) I.l hb28u hl30u ha29u (le_b rfl hi0) (.inl zi0) h35u) (at_in (.inl rfl)) fun g38u v36u s39u I p37u => ?_
      obtain ⟨p37u, o40u⟩ := p37u
      obtain ⟨L41u, hb42u, hl43u, ha44u⟩ := o40u
      obtain rfl := p37u
      refine EWL.op rfl ?_
      refine s_mv ?_
      refine EWL.op rfl ?_
      obtain ⟨r45u, h46u, hF1⟩ := bnd hF1
      refine s_cf I k43 rfl (octet_In_Eight_ok (zle hZ rfl rfl) (.inl z0) I.l hb42u hl43u ha44u (le_b rfl hi0) (.inl zi0) h46u) (at_in (.inl rfl)) fun g49u v47u s50u I p48u => ?_
      obtain ⟨p48u, o51u⟩ := p48u
      obtain ⟨L52u, hb53u, hl54u, ha55u⟩ := o51u
      obtain rfl := p48u
      refine EWL.op rfl ?_
      refine s_bldK (kd := k_memo_Hop) (r := ({ channel := r34u.1, amount := r45u.1, id := 0 } : memo_Hop)) (g := g49u) zs111 Z111 l111 P111 (And.intro rfl (And.intro rfl (trivial))) (SM.flat (fs := fs_memo_Hop) tl_memo_Hop (allc rfl (allc rfl (allc rfl alln)))) fun cs56u m57u => ?_
      refine EWL.op rfl ?_
      refine s_newK k_memo_Hop 2901 I (zpv rfl) z111 rfl fun g63u b58u L62u s64u I hb59u hl61u ha60u => ?_
      refine EWL.opn rfl ?_
      have m65u : k_memo_Hop.M g63u 0 ({ channel := r34u.1, amount := r45u.1, id := 0 } : memo_Hop) _ := (Kd.upK rfl s64u no_ m57u)
      refine s_stK (kd := k_memo_Hop) I t111 rfl rfl m65u rfl hb59u (ble_ hl61u rfl) (by decide) nc0 (zpv rfl) fun g66u L68u s67u I hb69u hu70u hn71u => ?_
      have ha72u := hn71u
      have hl73u := hu70u.1.trans hl61u
      refine EW.seq ?_
      refine EW.region (by kernel_rfl) ?_
      refine EWL.op rfl ?_
      refine s_mv ?_
      refine EWL.op rfl ?_
      obtain ⟨r74u, h75u, hF1⟩ := bnd hF1
      refine s_cf I k43 rfl (octet_In_Eight_ok (zle hZ rfl rfl) (.inl z0) I.l (Blk.up s67u (ne_od hi0 rfl) (Blk.up s64u no_ hb53u)) hl54u (At.up (At.up ha55u s64u no_ nc0) s67u (Nat.ne_of_beq_eq_false rfl) nc0) (le_b rfl hi0) (.inl zi0) h75u) (at_in (.inl rfl)) fun g78u v76u s79u I p77u => ?_
      obtain ⟨p77u, o80u⟩ := p77u
      obtain ⟨L81u, hb82u, hl83u, ha84u⟩ := o80u
      obtain rfl := p77u
      refine EWL.op rfl ?_
      refine s_fa f111u2 rfl ?_
      refine EWL.opn rfl ?_
      have m85u : (kInt .u64).M g78u 0 r74u.1 _ := rfl
      refine s_stK (kd := (kInt .u64)) I t23 rfl rfl m85u rfl (Blk.up s79u (Ne.symm (ne_od hi0 rfl)) hb69u) (ble_ hl73u rfl) (by decide) nc0 (zpv rfl) fun g86u L88u s87u I hb89u hu90u hn91u => ?_
      have ha92u := (At.setF (At.up (At.up ha72u s79u (Ne.symm (ne_od hi0 rfl)) nc0) s87u (Nat.ne_of_beq_eq_false rfl) nc0) 2 rfl (S111u2 _ _) hu90u (by decide) (by decide) hn91u)
      have hl93u := hu90u.1.trans hl73u
      refine EW.region (by kernel_rfl) ?_
      refine EWL.op rfl ?_
      refine s_mv ?_
      refine EWL.op rfl ?_
      refine s_ldK t111 rfl (Blk.cells hb89u) ha92u rfl rfl fun cs94u m95u => ?_
      refine EWL.op rfl ?_
      refine s_bslK (kd := k_memo_Hop) (xs := ([({ channel := r34u.1, amount := r45u.1, id := r74u.1 } : memo_Hop)] : List memo_Hop)) 2902 I s40 t111 z111 rfl rfl (by decide) rfl (by decide) (And.intro (congrArg some (kl (d := k_memo_Hop) m95u).symm) (trivial)) (Seg.flat (d := k_memo_Hop) (g := g86u) (alls m95u alle)) rfl (zpv rfl) fun g98u v96u s99u I m97u => ?_
      refine EWL.op rfl ?_
      obtain ⟨l100u, h101u, hF1⟩ := bnd hF1
      refine s_app (kd := k_memo_Hop) I s40 rfl s40 t111 z111 rfl (Row.up rfl s99u no_ no_ (Row.up rfl s87u (Nat.ne_of_beq_eq_false rfl) (Nat.ne_of_beq_eq_false rfl) (Row.up rfl s79u (Ne.symm (ne_od hi0 rfl)) (Ne.symm (ne_od hi0 rfl)) (Row.up rfl s67u (Nat.ne_of_beq_eq_false rfl) (Nat.ne_of_beq_eq_false rfl) (Row.up rfl s64u no_ no_ (Row.up rfl s50u (Ne.symm (ne_od hi0 rfl)) (Ne.symm (ne_od hi0 rfl)) (Row.up rfl s39u (Ne.symm (ne_od hi0 rfl)) (Ne.symm (ne_od hi0 rfl)) m22u))))))) (Sl.rs (Row.sl m97u)) h101u (by decide) (zpv rfl) (zpv rfl) fun g104u v102u s105u I m103u => ?_
      refine EWL.op rfl ?_
      refine s_as ?_
      refine EW.region (by kernel_rfl) ?_
      refine EWL.op rfl ?_
      refine s_add rfl rfl ?_
      refine EWL.op rfl ?_
      refine s_mv ?_
      exact ⟨_, (som hF1).symm, g104u, l100u, _, (IntKind.i64.wrap (x25u + 1)), _, r74u.2, rfl, I, rfl, rfl, rfl, m103u, rfl, rfl, (Blk.up s105u (ne_od hi0 rfl) (Blk.up s99u no_ (Blk.up s87u (ne_od hi0 rfl) hb82u))), hl83u, (At.up (At.up (At.up ha84u s87u (Nat.ne_of_beq_eq_false rfl) nc0) s99u no_ nc0) s105u (Nat.ne_of_beq_eq_false rfl) nc0)⟩
    · replace hF1 := bif_f hb33u hF1
      refine EW.exit ?_
      have hF0 := out_ hF1 hr1
      refine EW.seq ?_
      refine EW.seq ?_
      refine EW.region (by kernel_rfl) ?_
      refine EWL.op rfl ?_
      refine s_mv ?_
      refine EWL.op rfl ?_
      obtain ⟨r106u, h107u, hF0⟩ := bnd hF0
      refine s_cf I k45 rfl (octet_In_Bad_ok (zle hZ rfl rfl) (.inl z0) I.l hb28u hl30u ha29u (le_b rfl hi0) (.inl zi0) h107u) no_any fun g110u v108u s111u I p109u => ?_
      obtain rfl := p109u
      refine EWL.op rfl ?_
      refine s_neq rfl rfl ?_
      refine EW.condS rfl rfl (fun hb112u => ?_) (fun hb112u => ?_)
      · replace hF0 := bif_t hb112u hF0
        refine EW.seq ?_
        refine EW.region (by kernel_rfl) ?_
        refine EWL.op rfl ?_
        refine s_as ?_
        refine EW.ret ?_
        obtain rfl := som hF0
        refine ends1 (.inl rfl)  ?_
        exact ret_ (g := g110u) I lo hZ z0 rfl (And.intro Row.none ⟨_, Blk.up (Stp.rc g110u 2900 3000 0) (iv_o hi0) (Blk.up s111u no_ hb28u), hl30u, At.up (At.up ha29u s111u no_ nc0) (Stp.rc g110u 2900 3000 0) fz nc0⟩)
      · replace hF0 := bif_f hb112u hF0
        refine EW.skip ?_
        refine EW.seq ?_
        refine EW.region (by kernel_rfl) ?_
        refine EWL.op rfl ?_
        refine s_mv ?_
        refine EWL.op rfl ?_
        refine s_as ?_
        refine EW.ret ?_
        obtain rfl := som hF0
        refine ends1 (.inl rfl)  ?_
        have m113u := Row.rc rfl (by decide) (Row.up rfl s111u no_ no_ m22u) rc0
        have s115u := Stp.rc1 g110u 2903 rc0
        replace I := I.to s115u (Lo.rc (d := rc0) I.l (.inl zrc0)) (at_in (zpv rfl))
        exact ret_ (g := (g110u.rc 2903 (2903 + 1) rc0)) I lo hZ z0 rfl (And.intro (Row.up rfl (Stp.rc (g110u.rc 2903 (2903 + 1) rc0) 2900 3000 0) fz (iv_z hZ rfl zrc0) m113u) ⟨_, Blk.up (Stp.rc (g110u.rc 2903 (2903 + 1) rc0) 2900 3000 0) (iv_o hi0) (Blk.up s115u (ne_od hi0 rfl) (Blk.up s111u no_ hb28u)), hl30u, At.up (At.up (At.up ha29u s111u no_ nc0) s115u (Nat.ne_of_beq_eq_false rfl) nc0) (Stp.rc (g110u.rc 2903 (2903 + 1) rc0) 2900 3000 0) fz nc0⟩)
theorem octet_In_Left_ok {g0 : GW} {Z : Nat → Prop} (hZ : ∀ c, Z c → c = 0 ∨ 3100 ≤ c) (z0 : Z 0) (lo : Lo Z g0)  {a0 : octet_In} {La0 : List Value} {ba0 i0 : Nat} (hba0 : Blk g0 ba0 i0 115 La0) (hla0 : La0.length = k_octet_In.sz) (ma0 : At k_octet_In g0 0 a0 La0 0) (hi0 : 3100 ≤ i0) (zi0 : Z i0) {r : Int} (hF0 : octet_In_Left a0 = some r) :
    Calls P 47 [.pointer (some ⟨ba0, 0, none⟩)].toArray g0.w (Rets (RR (no) Z g0 (PEq (.int .i64 r)))) := by
  refine calls_of Go.Proofs.Try.func47 rfl (Nat.le_of_ble_eq_true rfl) (by kernel_rfl) ?_
  have I : Inv (or_ (no) (iv 3000 3100)) (or_ Z (iv 3000 3100)) g0 g0 := Inv.start (lo.mono (fun _ h => .inl h))
  have fz : ¬ iv 3000 3100 0 := nz0 rfl
  unfold octet_In_Left at hF0
  refine EW.seq ?_
  refine EW.region (by kernel_rfl) ?_
  refine EWL.op rfl ?_
  refine s_as ?_
  refine EW.seq ?_
  refine EW.seq ?_
  refine EW.region (by kernel_rfl) ?_
  refine EWL.op rfl ?_
  refine s_mv ?_
  refine EWL.op rfl ?_
  refine s_ptrE p86 rfl rfl ?_
  refine EW.condS rfl rfl (fun hb => (tf_ hb rfl).elim) (fun hb => ?_)
  refine EW.skip ?_
  refine EW.seq ?_
  refine EW.region (by kernel_rfl) ?_
  refine EWL.op rfl ?_
  refine s_mv ?_
  refine EWL.op rfl ?_
  refine s_nil rfl ?_
  refine EWL.op rfl ?_
  refine s_fa f115u0 rfl ?_
  refine EWL.op rfl ?_
  refine s_ldSl t32 rfl (Blk.cells hba0) (At.fld ma0 0 rfl) fun v1u m2u => ?_
  refine EWL.op rfl ?_
  refine s_lenR (kd := (kInt .u8)) (xs := a0.left) s32 rfl (Sl.rs m2u) ?_
  refine EWL.op rfl ?_
  refine s_as ?_
  refine EW.ret ?_
  obtain rfl := som hF0
  refine ends1 (.inl rfl)  ?_
  exact ret_ (g := g0) I lo hZ z0 rfl rfl
theorem octet_In_End_ok {g0 : GW} {Z : Nat → Prop} (hZ : ∀ c, Z c → c = 0 ∨ 3200 ≤ c) (z0 : Z 0) (lo : Lo Z g0)  {a0 : octet_In} {La0 : List Value} {ba0 i0 : Nat} (hba0 : Blk g0 ba0 i0 115 La0) (hla0 : La0.length = k_octet_In.sz) (ma0 : At k_octet_In g0 0 a0 La0 0) (hi0 : 3200 ≤ i0) (zi0 : Z i0) {r : (Int × octet_In)} (hF0 : octet_In_End a0 = some r) :
    Calls P 24 [.pointer (some ⟨ba0, 0, none⟩)].toArray g0.w (Rets (RR (at_ i0) Z g0 (PAnd (PEq (.int .i64 r.1)) (fun h => Ob0 115 k_octet_In h i0 ba0 r.2)))) := by
  refine calls_of Go.Proofs.Try.func24 rfl (Nat.le_of_ble_eq_true rfl) (by kernel_rfl) ?_
  have I : Inv (or_ (at_ i0) (iv 3100 3200)) (or_ Z (iv 3100 3200)) g0 g0 := Inv.start (lo.mono (fun _ h => .inl h))
  have fz : ¬ iv 3100 3200 0 := nz0 rfl
  unfold octet_In_End at hF0
  refine EW.seq ?_
  refine EW.region (by kernel_rfl) ?_
  refine EWL.op rfl ?_
  refine s_as ?_
  refine EW.seqJ (fun ρ w => ∃ (g1u : GW) (L4u : List Value) (x8u : octet_In), w = g1u.w ∧ Inv (or_ (at_ i0) (iv 3100 3200)) (or_ Z (iv 3100 3200)) g0 g1u ∧ octet_In_End_j1 x8u = some r ∧ ρ 0 = .pointer (some ⟨ba0, 0, none⟩) ∧ Blk g1u ba0 i0 115 L4u ∧ L4u.length = 2 ∧ At k_octet_In g1u 0 x8u L4u 0) ?_ ?_
  · rintro ρ w ⟨g1u, L4u, x8u, rfl, I, hF0, hr2u, hb5u, hl7u, ha6u⟩
    refine EW.re (up1 rfl hr2u) ?_
    unfold octet_In_End_j1 at hF0
    refine EW.seq ?_
    refine EW.region (by kernel_rfl) ?_
    refine EWL.op rfl ?_
    refine s_mv ?_
    refine EWL.op rfl ?_
    obtain ⟨r9u, h10u, hF0⟩ := bnd hF0
    refine s_cf I k45 rfl (octet_In_Bad_ok (zle hZ rfl rfl) (.inl z0) I.l hb5u hl7u ha6u (le_b rfl hi0) (.inl zi0) h10u) no_any fun g13u v11u s14u I p12u => ?_
    obtain rfl := p12u
    refine EWL.op rfl ?_
    refine s_as ?_
    refine EW.ret ?_
    obtain rfl := som hF0
    refine ends1 (.inl rfl)  ?_
    exact ret_ (g := g13u) I lo hZ z0 rfl (And.intro rfl ⟨_, Blk.up (Stp.rc g13u 3100 3200 0) (iv_o hi0) (Blk.up s14u no_ hb5u), hl7u, At.up (At.up ha6u s14u no_ nc0) (Stp.rc g13u 3100 3200 0) fz nc0⟩)
  · refine EW.seq ?_
    refine EW.region (by kernel_rfl) ?_
    refine EWL.op rfl ?_
    refine s_mv ?_
    refine EWL.op rfl ?_
    obtain ⟨r15u, h16u, hF0⟩ := bnd hF0
    refine s_cf I k47 rfl (octet_In_Left_ok (zle hZ rfl rfl) (.inl z0) I.l hba0 hla0 ma0 (le_b rfl hi0) (.inl zi0) h16u) no_any fun g19u v17u s20u I p18u => ?_
    obtain rfl := p18u
    refine EWL.op rfl ?_
    refine s_gtr rfl rfl ?_
    refine EW.condS rfl rfl (fun hb21u => ?_) (fun hb21u => ?_)
    · replace hF0 := bif_t hb21u hF0
      refine EW.region (by kernel_rfl) ?_
      refine EWL.op rfl ?_
      refine s_mv ?_
      refine EWL.op rfl ?_
      obtain ⟨r22u, h23u, hF0⟩ := bnd hF0
      refine s_cf I k42 rfl (octet_In_Fail_ok (zle hZ rfl rfl) (.inl z0) I.l (Blk.up s20u no_ hba0) hla0 (At.up ma0 s20u no_ nc0) (le_b rfl hi0) (.inl zi0) h23u) (at_in (.inl rfl)) fun g26u v24u s27u I p25u => ?_
      obtain ⟨p25u, o28u⟩ := p25u
      obtain ⟨L29u, hb30u, hl31u, ha32u⟩ := o28u
      obtain rfl := ptup0 p25u
      exact ⟨g26u, _, r22u, rfl, I, hF0, rfl, hb30u, hl31u, ha32u⟩
    · replace hF0 := bif_f hb21u hF0
      refine EW.skip ?_
      exact ⟨g19u, _, a0, rfl, I, hF0, rfl, (Blk.up s20u no_ hba0), hla0, (At.up ma0 s20u no_ nc0)⟩
theorem clerk_Load_ok {g0 : GW} {Z : Nat → Prop} (hZ : ∀ c, Z c → c = 0 ∨ 3300 ≤ c) (z0 : Z 0) (lo : Lo Z g0) (rc0 : Nat) (zrc0 : Z rc0) {a0 : (List Int)} {va0 : Value} {ka0 : Nat} (ma0 : Sl (kInt .u8) g0 ka0 a0 va0) (hka0 : ka0 = 0 ∨ 3300 ≤ ka0) {r : ((List clerk_Wish) × Int)} (hF0 : clerk_Load a0 = some r) :
    Calls P 6 [va0].toArray g0.w (Rets (RR (no) Z g0 ((PTup [(fun h v => Row 42 k_clerk_Wish h rc0 r.1 v), PEq (.int .i64 r.2)])))) := by
  refine calls_of Go.Proofs.Try.func6 rfl (Nat.le_of_ble_eq_true rfl) (by kernel_rfl) ?_
  have I : Inv (or_ (no) (iv 3200 3300)) (or_ Z (iv 3200 3300)) g0 g0 := Inv.start (lo.mono (fun _ h => .inl h))
  have fz : ¬ iv 3200 3300 0 := nz0 rfl
  unfold clerk_Load at hF0
  refine EW.seq ?_
  refine EW.region (by kernel_rfl) ?_
  refine EWL.op rfl ?_
  refine s_as ?_
  refine EWL.op rfl ?_
  refine s_as ?_
  refine EW.seq ?_
  refine EW.region (by kernel_rfl) ?_
  refine EWL.op rfl ?_
  refine s_mv ?_
  refine EWL.op rfl ?_
  obtain ⟨r1u, h2u, hF0⟩ := bnd hF0
  refine s_cf I k20 rfl (octet_Of_ok (zle hZ rfl rfl) (.inl z0) I.l 3201 (zpv rfl) ma0 (lent_ hka0 rfl) h2u) no_any fun g5u v3u s6u I p4u => ?_
  obtain ⟨b7u, rfl, L8u, hb9u, hl10u, ha11u⟩ := p4u
  refine EWL.op rfl ?_
  refine s_as ?_
  refine EW.seq ?_
  refine EW.region (by kernel_rfl) ?_
  refine EWL.op rfl ?_
  refine s_as ?_
  refine EW.seq ?_
  refine EW.seq ?_
  refine EW.region (by kernel_rfl) ?_
  refine EWL.op rfl ?_
  refine s_mv ?_
  refine EWL.op rfl ?_
  obtain ⟨r12u, h13u, hF0⟩ := bnd hF0
  refine s_cf I k21 rfl (octet_In_Many_ok (zle hZ rfl rfl) (.inl z0) I.l hb9u hl10u ha11u (Nat.le_of_ble_eq_true rfl) (zpv rfl) h13u) (at_in (zpv rfl)) fun g16u v14u s17u I p15u => ?_
  obtain ⟨p15u, o18u⟩ := p15u
  obtain ⟨L19u, hb20u, hl21u, ha22u⟩ := o18u
  obtain rfl := p15u
  refine EWL.op rfl ?_
  refine s_mv ?_
  refine EW.block ?_
  refine EW.loop (b := (clerk_Load_b1 r12u)) (fun (s : ((List clerk_Wish) × Int × octet_In)) ρ w => ∃ (g28u : GW) (x31u : (List clerk_Wish)) (v32u : Value) (x36u : Int) (L38u : List Value) (x42u : octet_In), w = g28u.w ∧ Inv (or_ (no) (iv 3200 3300)) (or_ Z (iv 3200 3300)) g0 g28u ∧ (x31u, x36u, x42u) = s ∧ ρ 4 = .pointer (some ⟨b7u, 0, none⟩) ∧ ρ 5 = v32u ∧ Row 42 k_clerk_Wish g28u 3205 x31u v32u ∧ ρ 11 = .int .i64 r12u.1 ∧ ρ 12 = .int .i64 x36u ∧ Blk g28u b7u 3201 115 L38u ∧ L38u.length = 2 ∧ At k_octet_In g28u 0 x42u L38u 0) hF0 ⟨g16u, [], _, 0, _, r12u.2, rfl, I, rfl, rfl, rfl, Row.none, rfl, rfl, hb20u, hl21u, ha22u⟩ ?_
  · rintro s_ o43u ρ w ⟨g28u, x31u, v32u, x36u, L38u, x42u, rfl, I, eo, hr29u, hr30u, m33u, hr34u, hr35u, hb39u, hl41u, ha40u⟩ hF1 hr1
    subst eo
    unfold clerk_Load_b1 at hF1
    refine EW.re (up1 (up1 (up1 (up1 rfl hr29u) hr30u) hr34u) hr35u) ?_
    refine EW.seq ?_
    refine EW.region (by kernel_rfl) ?_
    refine EWL.op rfl ?_
    refine s_lss rfl rfl ?_
    refine EW.seq ?_
    refine EW.condS rfl rfl (fun hb44u => ?_) (fun hb44u => ?_)
    · replace hF1 := bif_t hb44u hF1
      refine EW.skip ?_
      refine EW.seq ?_
      refine EW.block ?_
      refine EW.seq ?_
      refine EW.region (by kernel_rfl) ?_
      refine EWL.op rfl ?_
      refine s_mv ?_
      refine EWL.op rfl ?_
      obtain ⟨r45u, h46u, hF1⟩ := bnd hF1
      refine s_cf I k22 rfl (deed_TakeOp_ok (zle hZ rfl rfl) (.inl z0) I.l hb39u hl41u ha40u (Nat.le_of_ble_eq_true rfl) (zpv rfl) h46u) (at_in (zpv rfl)) fun g49u v47u s50u I p48u => ?_
      obtain ⟨p48u, o51u⟩ := p48u
      obtain ⟨L52u, hb53u, hl54u, ha55u⟩ := o51u
      obtain ⟨cs56u, rfl, m57u⟩ := p48u
      refine EWL.op rfl ?_
      refine s_newK k_pact_Op 3202 I (zpv rfl) z39 rfl fun g63u b58u L62u s64u I hb59u hl61u ha60u => ?_
      refine EWL.opn rfl ?_
      have m65u : k_pact_Op.M g63u 0 r45u.1 _ := (Kd.upK rfl s64u no_ m57u)
      refine s_stK (kd := k_pact_Op) I t39 rfl rfl m65u rfl hb59u (ble_ hl61u rfl) (by decide) nc0 (zpv rfl) fun g66u L68u s67u I hb69u hu70u hn71u => ?_
      have ha72u := hn71u
      have hl73u := hu70u.1.trans hl61u
      obtain ⟨r76u, h77u, hF1⟩ := bnd hF1
      obtain ⟨l96u, h97u, hF1⟩ := bnd hF1
      refine EW.drawn [(5, 4, 3), (6, 5, 4)] [⟨SF.row 5 42 k_clerk_Wish rfl 3205 x31u, none, some 6⟩, ⟨SF.val 6 (.pointer (some ⟨b58u, 0, none⟩)), none, none⟩, ⟨SF.bx b58u 3202 39 k_pact_Op rfl r45u.1, none, none⟩, ⟨SF.val 4 (.pointer (some ⟨b7u, 0, none⟩)), none, none⟩, ⟨SF.bx b7u 3201 115 k_octet_In rfl r45u.2, none, some 3⟩, ⟨SF.val 11 (.int .i64 r12u.1), none, none⟩, ⟨SF.val 12 (.int .i64 x36u), none, none⟩, ⟨SF.row 16 42 k_clerk_Wish rfl 3205 x31u, some 0, some 6⟩, ⟨SF.agg 17 k_pact_Op rfl r45u.1, some 1, none⟩, ⟨SF.val 18 (.pointer (some ⟨b7u, 0, none⟩)), some 2, none⟩, ⟨SF.bx b7u 3201 115 k_octet_In rfl r76u.2, some 3, none⟩, ⟨SF.row 19 111 k_memo_Hop rfl 3203 r76u.1, some 3, some 4⟩, ⟨SF.agg 20 k_clerk_Wish rfl ({ op := r45u.1, trail := r76u.1 } : clerk_Wish), some 4, none⟩, ⟨SF.row 21 42 k_clerk_Wish rfl 3204 ([({ op := r45u.1, trail := r76u.1 } : clerk_Wish)] : List clerk_Wish), some 5, none⟩, ⟨SF.row 22 42 k_clerk_Wish rfl 3205 l96u, some 6, none⟩, ⟨SF.row 5 42 k_clerk_Wish rfl 3205 l96u, some 7, none⟩] [(3, at_ 3201), (4, at_ 3203), (6, at_ 3205)] (by kernel_rfl) (by kernel_rfl) (by kernel_rfl) ?_ I ?_ (dcons ?_ (dcons ?_ (dcons ?_ (dcons ?_ (dcons ?_ (dcons ?_ (dcons ?_ (dcons ?_ dnil)))))))) ?_
      · exact (And.intro (And.intro (Nat.ne_of_beq_eq_false rfl) (And.intro (And.intro (Nat.ne_of_beq_eq_false rfl) trivial) (And.intro trivial (And.intro (And.intro (Nat.ne_of_beq_eq_false rfl) trivial) (And.intro trivial (And.intro trivial (And.intro trivial (And.intro trivial (And.intro (And.intro (Nat.ne_of_beq_eq_false rfl) trivial) (And.intro trivial (And.intro trivial (And.intro trivial (And.intro trivial (And.intro trivial (And.intro trivial (And.intro trivial (And.intro trivial trivial))))))))))))))))) (And.intro (And.intro (Nat.ne_of_beq_eq_false rfl) (And.intro (And.intro (Nat.ne_of_beq_eq_false rfl) trivial) (And.intro trivial (And.intro (And.intro (Nat.ne_of_beq_eq_false rfl) trivial) (And.intro trivial (And.intro trivial (And.intro trivial (And.intro trivial (And.intro (And.intro (Nat.ne_of_beq_eq_false rfl) trivial) (And.intro trivial (And.intro trivial (And.intro (And.intro (Nat.ne_of_beq_eq_false rfl) trivial) (And.intro trivial (And.intro trivial (And.intro trivial (And.intro trivial (And.intro trivial trivial))))))))))))))))) (And.intro (And.intro (Nat.ne_of_beq_eq_false rfl) (And.intro trivial (And.intro trivial (And.intro (And.intro (Nat.ne_of_beq_eq_false rfl) trivial) (And.intro trivial (And.intro trivial (And.intro trivial (And.intro trivial (And.intro trivial (And.intro trivial (And.intro trivial (And.intro (And.intro (Nat.ne_of_beq_eq_false rfl) trivial) (And.intro trivial (And.intro trivial (And.intro (And.intro (Nat.ne_of_beq_eq_false rfl) trivial) (And.intro trivial (And.intro trivial trivial))))))))))))))))) trivial)))
      · exact (nwc (pf_row rfl rfl (Row.up rfl s67u (Nat.ne_of_beq_eq_false rfl) (Nat.ne_of_beq_eq_false rfl) (Row.up rfl s64u no_ no_ (Row.up rfl s50u (Nat.ne_of_beq_eq_false rfl) (Nat.ne_of_beq_eq_false rfl) m33u)))) (nwc (pf_val rfl) (nwc (pf_bx rfl hb69u hl73u ha72u) (nwc (pf_val rfl) (nwc (pf_bx rfl (Blk.up s67u (Nat.ne_of_beq_eq_false rfl) (Blk.up s64u no_ hb53u)) hl54u (At.up (At.up ha55u s64u no_ nc0) s67u (Nat.ne_of_beq_eq_false rfl) nc0)) (nwc (pf_val rfl) (nwc (pf_val rfl) nwn)))))))
      · intro ρ g I av
        obtain ⟨v117u, hr115u, m116u⟩ := av 0 _ rfl (by kernel_rfl)
        refine ddo (up1 rfl hr115u) rfl ?_
        refine s_mv ?_
        exact ⟨_, rfl, (Stp.refl _ _), I, (nwc (pf_row rfl rfl m116u) nwn)⟩
      · intro ρ g I av
        obtain ⟨L118u, hb119u, hl120u, ha121u⟩ := av 2 _ rfl (by kernel_rfl)
        have hr122u := av 1 _ rfl (by kernel_rfl)
        refine ddo (up1 rfl hr122u) rfl ?_
        refine s_ldK t39 rfl (Blk.cells hb119u) ha121u rfl rfl fun cs124u m125u => ?_
        exact ⟨_, rfl, (Stp.refl _ _), I, (nwc (pf_agg rfl rfl m125u) nwn)⟩
      · intro ρ g I av
        have hr126u := av 3 _ rfl (by kernel_rfl)
        refine ddo (up1 rfl hr126u) rfl ?_
        refine s_mv ?_
        exact ⟨_, rfl, (Stp.refl _ _), I, (nwc (pf_val rfl) nwn)⟩
      · intro ρ g I av
        obtain ⟨L128u, hb129u, hl130u, ha131u⟩ := av 4 _ rfl (by kernel_rfl)
        have hr132u := av 9 _ rfl (by kernel_rfl)
        refine ddo (up1 rfl hr132u) rfl ?_
        refine s_cf I k23 rfl (memo_TakeTrail_ok (zle hZ rfl rfl) (.inl z0) I.l 3203 (zpv rfl) hb129u hl130u ha131u (Nat.le_of_ble_eq_true rfl) (zpv rfl) h77u) (at_in (zpv rfl)) fun g136u v134u s137u I p135u => ?_
        obtain ⟨p135u, o138u⟩ := p135u
        obtain ⟨L139u, hb140u, hl141u, ha142u⟩ := o138u
        exact ⟨_, rfl, s137u, I, (nwc (pf_bx rfl hb140u hl141u ha142u) (nwc (pf_row rfl rfl p135u) nwn))⟩
      · intro ρ g I av
        obtain ⟨_, hr143u, m144u⟩ := av 8 _ rfl (by kernel_rfl)
        obtain ⟨v147u, hr145u, m146u⟩ := av 11 _ rfl (by kernel_rfl)
        refine ddo (up1 (up1 rfl hr143u) hr145u) rfl ?_
        have m148u := Row.rc rfl (by decide) m146u 0
        have s150u := Stp.rc1 g 3203 0
        replace I := I.to s150u (Lo.rc (d := 0) I.l (.inl z0)) (at_in (zpv rfl))
        obtain ⟨g149u, rc_⟩ : ∃ q, q = g.rc 3203 (3203 + 1) 0 := ⟨_, rfl⟩
        rw [← rc_] at m148u s150u I
        refine stp.wld (w := g149u.w) (by rw [rc_]; rfl) ?_
        clear rc_
        refine s_bldK (kd := k_clerk_Wish) (r := ({ op := r45u.1, trail := r76u.1 } : clerk_Wish)) (g := g149u) zs42 Z42 l42 P42 (And.intro (congrArg some (kl (d := k_pact_Op) (Kd.upK rfl s150u (Nat.ne_of_beq_eq_false rfl) m144u)).symm) (And.intro (congrArg some (kl (d := (kSl k_memo_Hop rfl)) (Sl.kdv rfl (Row.sl m148u))).symm) (trivial))) (SM.flat (fs := fs_clerk_Wish) tl_clerk_Wish (allc (Kd.upK rfl s150u (Nat.ne_of_beq_eq_false rfl) m144u) (allc (Sl.kdv rfl (Row.sl m148u)) alln))) fun cs151u m152u => ?_
        exact ⟨_, rfl, s150u, I, (nwc (pf_agg rfl rfl m152u) nwn)⟩
      · intro ρ g I av
        obtain ⟨_, hr153u, m154u⟩ := av 12 _ rfl (by kernel_rfl)
        refine ddo (up1 rfl hr153u) rfl ?_
        refine s_bslK (kd := k_clerk_Wish) (xs := ([({ op := r45u.1, trail := r76u.1 } : clerk_Wish)] : List clerk_Wish)) 3204 I s43 t42 z42 rfl rfl (by decide) rfl (by decide) (And.intro (congrArg some (kl (d := k_clerk_Wish) m154u).symm) (trivial)) (Seg.flat (d := k_clerk_Wish) (g := g) (alls m154u alle)) rfl (zpv rfl) fun g157u v155u s158u I m156u => ?_
        exact ⟨_, rfl, s158u, I, (nwc (pf_row rfl rfl m156u) nwn)⟩
      · intro ρ g I av
        obtain ⟨v161u, hr159u, m160u⟩ := av 7 _ rfl (by kernel_rfl)
        obtain ⟨v164u, hr162u, m163u⟩ := av 13 _ rfl (by kernel_rfl)
        refine ddo (up1 (up1 rfl hr159u) hr162u) rfl ?_
        refine s_app (kd := k_clerk_Wish) I s43 rfl s43 t42 z42 rfl m160u (Sl.rs (Row.sl m163u)) h97u (by decide) (zpv rfl) (zpv rfl) fun g167u v165u s168u I m166u => ?_
        exact ⟨_, rfl, s168u, I, (nwc (pf_row rfl rfl m166u) nwn)⟩
      · intro ρ g I av
        obtain ⟨v171u, hr169u, m170u⟩ := av 14 _ rfl (by kernel_rfl)
        refine ddo (up1 rfl hr169u) rfl ?_
        refine s_as ?_
        exact ⟨_, rfl, (Stp.refl _ _), I, (nwc (pf_row rfl rfl m170u) nwn)⟩
      · intro ρ g I av
        obtain ⟨L102u, hb103u, hl104u, ha105u⟩ := av 10 _ rfl rfl
        have hr106u := av 3 _ rfl rfl
        obtain ⟨v110u, hr108u, m109u⟩ := av 15 _ rfl rfl
        have hr111u := av 5 _ rfl rfl
        have hr113u := av 6 _ rfl rfl
        refine ⟨_, (up1 (up1 (up1 (up1 rfl hr106u) hr108u) hr111u) hr113u), ?_⟩
        refine EW.region (by kernel_rfl) ?_
        refine EWL.op rfl ?_
        refine s_add rfl rfl ?_
        refine EWL.op rfl ?_
        refine s_mv ?_
        exact ⟨_, (som hF1).symm, g, l96u, _, (IntKind.i64.wrap (x36u + 1)), _, r76u.2, rfl, I, rfl, rfl, rfl, m109u, rfl, rfl, hb103u, hl104u, ha105u⟩
    · replace hF1 := bif_f hb44u hF1
      refine EW.exit ?_
      have hF0 := out_ hF1 hr1
      refine EW.seq ?_
      refine EW.seq ?_
      refine EW.region (by kernel_rfl) ?_
      refine EWL.op rfl ?_
      refine s_mv ?_
      refine EWL.op rfl ?_
      obtain ⟨r172u, h173u, hF0⟩ := bnd hF0
      refine s_cf I k24 rfl (octet_In_End_ok (zle hZ rfl rfl) (.inl z0) I.l hb39u hl41u ha40u (Nat.le_of_ble_eq_true rfl) (zpv rfl) h173u) (at_in (zpv rfl)) fun g176u v174u s177u I p175u => ?_
      obtain ⟨p175u, o178u⟩ := p175u
      obtain ⟨L179u, hb180u, hl181u, ha182u⟩ := o178u
      obtain rfl := p175u
      refine EWL.op rfl ?_
      refine s_as ?_
      refine EW.seq ?_
      refine EW.region (by kernel_rfl) ?_
      refine EWL.op rfl ?_
      refine s_mv ?_
      refine EWL.op rfl ?_
      refine s_neq rfl rfl ?_
      refine EW.condS rfl rfl (fun hb183u => ?_) (fun hb183u => ?_)
      · replace hF0 := bif_t hb183u hF0
        refine EW.seq ?_
        refine EW.region (by kernel_rfl) ?_
        refine EWL.op rfl ?_
        refine s_mv ?_
        refine EWL.op rfl ?_
        refine s_as ?_
        refine EWL.op rfl ?_
        refine s_as ?_
        refine EW.ret ?_
        obtain rfl := som hF0
        refine ends2 (.inl rfl)  ?_
        exact ret_ (g := g176u) I lo hZ z0 rfl (mk2 Row.none rfl)
      · replace hF0 := bif_f hb183u hF0
        refine EW.skip ?_
        refine EW.seq ?_
        refine EW.region (by kernel_rfl) ?_
        refine EWL.op rfl ?_
        refine s_mv ?_
        refine EWL.op rfl ?_
        refine s_as ?_
        refine EWL.op rfl ?_
        refine s_as ?_
        refine EW.ret ?_
        obtain rfl := som hF0
        refine ends2 (.inl rfl)  ?_
        have m184u := Row.rc rfl (by decide) (Row.up rfl s177u (Nat.ne_of_beq_eq_false rfl) (Nat.ne_of_beq_eq_false rfl) m33u) rc0
        have s186u := Stp.rc1 g176u 3205 rc0
        replace I := I.to s186u (Lo.rc (d := rc0) I.l (.inl zrc0)) (at_in (zpv rfl))
        exact ret_ (g := (g176u.rc 3205 (3205 + 1) rc0)) I lo hZ z0 rfl (mk2 (Row.up rfl (Stp.rc (g176u.rc 3205 (3205 + 1) rc0) 3200 3300 0) fz (iv_z hZ rfl zrc0) m184u) rfl)
theorem ref01uIn_Raw_ok {g0 : GW} {Z : Nat → Prop} (hZ : ∀ c, Z c → c = 0 ∨ 3400 ≤ c) (z0 : Z 0) (lo : Lo Z g0) (rc0 : Nat) (zrc0 : Z rc0) {a0 : ref01uIn} {La0 : List Value} {ba0 i0 : Nat} {a1 : Int} (hba0 : Blk g0 ba0 i0 94 La0) (hla0 : La0.length = k_ref01uIn.sz) (ma0 : At k_ref01uIn g0 0 a0 La0 0) (hi0 : 3400 ≤ i0) (zi0 : Z i0) {r : ((List Int) × ref01uIn)} (hF0 : ref01uIn_Raw a0 a1 = some r) :
    Calls P 62 [.pointer (some ⟨ba0, 0, none⟩), .int .i64 a1].toArray g0.w (Rets (RR (at_ i0) Z g0 (PAnd ((fun h v => Row 5 (kInt .u8) h rc0 r.1 v)) (fun h => Ob0 94 k_ref01uIn h i0 ba0 r.2)))) := by
  refine calls_of Go.Proofs.Try.func62 rfl (Nat.le_of_ble_eq_true rfl) (by kernel_rfl) ?_
  have I : Inv (or_ (at_ i0) (iv 3300 3400)) (or_ Z (iv 3300 3400)) g0 g0 := Inv.start (lo.mono (fun _ h => .inl h))
  have fz : ¬ iv 3300 3400 0 := nz0 rfl
  unfold ref01uIn_Raw at hF0
  refine EW.seq ?_
  refine EW.region (by kernel_rfl) ?_
  refine EWL.op rfl ?_
  refine s_as ?_
  refine EW.seq ?_
  refine EW.seq ?_
  refine EW.region (by kernel_rfl) ?_
  refine EWL.op rfl ?_
  refine s_mv ?_
  refine EWL.op rfl ?_
  refine s_nil rfl ?_
  refine EWL.op rfl ?_
  refine s_fa f94u2 rfl ?_
  refine EWL.op rfl ?_
  refine s_ldS t3 rfl (Blk.cells hba0) (At.fld ma0 2 rfl) ?_
  refine EWL.op rfl ?_
  refine s_neq rfl rfl ?_
  refine EW.condS rfl rfl (fun hb1u => ?_) (fun hb1u => ?_)
  · replace hF0 := bif_t hb1u hF0
    refine EW.seq ?_
    refine EW.region (by kernel_rfl) ?_
    refine EWL.op rfl ?_
    refine s_as ?_
    refine EW.ret ?_
    obtain rfl := som hF0
    refine ends1 (.inl rfl)  ?_
    exact ret_ (g := g0) I lo hZ z0 rfl (And.intro Row.none ⟨_, Blk.up (Stp.rc g0 3300 3400 0) (iv_o hi0) hba0, hla0, At.up ma0 (Stp.rc g0 3300 3400 0) fz nc0⟩)
  · replace hF0 := bif_f hb1u hF0
    refine EW.skip ?_
    refine EW.seq ?_
    refine EW.seq ?_
    refine EW.drawn [] [⟨SF.val 1 (.int .i64 a1), none, none⟩, ⟨SF.val 0 (.pointer (some ⟨ba0, 0, none⟩)), none, none⟩, ⟨SF.bx ba0 i0 94 k_ref01uIn rfl a0, none, none⟩, ⟨SF.val 10 (.int .i64 a1), some 0, none⟩, ⟨SF.val 11 (.pointer (some ⟨ba0, 0, none⟩)), some 1, none⟩, ⟨SF.val 12 (.pointer (some ⟨ba0, 0, none⟩)), some 2, none⟩, ⟨SF.val 13 (.pointer (some ⟨ba0, 0 + 0, none⟩)), some 3, none⟩, ⟨SF.sl 14 (kInt .u8) rfl 0 a0.b, some 4, none⟩, ⟨SF.val 15 (.int .i64 (a0.b.length : Int)), some 5, none⟩, ⟨SF.val 16 (.pointer (some ⟨ba0, 0, none⟩)), some 6, none⟩, ⟨SF.val 17 (.pointer (some ⟨ba0, 0, none⟩)), some 7, none⟩, ⟨SF.val 18 (.pointer (some ⟨ba0, 0 + 1, none⟩)), some 8, none⟩, ⟨SF.val 19 (.int .i64 a0.at_), some 9, none⟩, ⟨SF.val 20 (.int .i64 (IntKind.i64.wrap ((a0.b.length : Int) - a0.at_))), some 10, none⟩, ⟨SF.val 21 (.bool (decide ((IntKind.i64.wrap ((a0.b.length : Int) - a0.at_)) < a1))), some 11, none⟩] [] (by kernel_rfl) (by kernel_rfl) (by kernel_rfl) ?_ I ?_ (dcons ?_ (dcons ?_ (dcons ?_ (dcons ?_ (dcons ?_ (dcons ?_ (dcons ?_ (dcons ?_ (dcons ?_ (dcons ?_ (dcons ?_ (dcons ?_ dnil)))))))))))) ?_
    · exact trivial
    · exact (nwc (pf_val rfl) (nwc (pf_val rfl) (nwc (pf_bx rfl hba0 hla0 ma0) nwn)))
    · intro ρ g I av
      have hr14u := av 0 _ rfl (by kernel_rfl)
      refine ddo (up1 rfl hr14u) rfl ?_
      refine s_mv ?_
      exact ⟨_, rfl, (Stp.refl _ _), I, (nwc (pf_val rfl) nwn)⟩
    · intro ρ g I av
      have hr16u := av 1 _ rfl (by kernel_rfl)
      refine ddo (up1 rfl hr16u) rfl ?_
      refine s_mv ?_
      exact ⟨_, rfl, (Stp.refl _ _), I, (nwc (pf_val rfl) nwn)⟩
    · intro ρ g I av
      have hr18u := av 4 _ rfl (by kernel_rfl)
      refine ddo (up1 rfl hr18u) rfl ?_
      refine s_nil rfl ?_
      exact ⟨_, rfl, (Stp.refl _ _), I, (nwc (pf_val rfl) nwn)⟩
    · intro ρ g I av
      have hr20u := av 5 _ rfl (by kernel_rfl)
      refine ddo (up1 rfl hr20u) rfl ?_
      refine s_fa f94u0 rfl ?_
      exact ⟨_, rfl, (Stp.refl _ _), I, (nwc (pf_val rfl) nwn)⟩
    · intro ρ g I av
      obtain ⟨L22u, hb23u, hl24u, ha25u⟩ := av 2 _ rfl (by kernel_rfl)
      have hr26u := av 6 _ rfl (by kernel_rfl)
      refine ddo (up1 rfl hr26u) rfl ?_
      refine s_ldSl t32 rfl (Blk.cells hb23u) (At.fld ha25u 0 rfl) fun v28u m29u => ?_
      exact ⟨_, rfl, (Stp.refl _ _), I, (nwc (pf_sl rfl rfl m29u) nwn)⟩
    · intro ρ g I av
      obtain ⟨v32u, hr30u, m31u⟩ := av 7 _ rfl (by kernel_rfl)
      refine ddo (up1 rfl hr30u) rfl ?_
      refine s_lenR (kd := (kInt .u8)) (xs := a0.b) s32 rfl (Sl.rs m31u) ?_
      exact ⟨_, rfl, (Stp.refl _ _), I, (nwc (pf_val rfl) nwn)⟩
    · intro ρ g I av
      have hr33u := av 1 _ rfl (by kernel_rfl)
      refine ddo (up1 rfl hr33u) rfl ?_
      refine s_mv ?_
      exact ⟨_, rfl, (Stp.refl _ _), I, (nwc (pf_val rfl) nwn)⟩
    · intro ρ g I av
      have hr35u := av 9 _ rfl (by kernel_rfl)
      refine ddo (up1 rfl hr35u) rfl ?_
      refine s_nil rfl ?_
      exact ⟨_, rfl, (Stp.refl _ _), I, (nwc (pf_val rfl) nwn)⟩
    · intro ρ g I av
      have hr37u := av 10 _ rfl (by kernel_rfl)
      refine ddo (up1 rfl hr37u) rfl ?_
      refine s_fa f94u1 rfl ?_
      exact ⟨_, rfl, (Stp.refl _ _), I, (nwc (pf_val rfl) nwn)⟩
    · intro ρ g I av
      obtain ⟨L39u, hb40u, hl41u, ha42u⟩ := av 2 _ rfl (by kernel_rfl)
      have hr43u := av 11 _ rfl (by kernel_rfl)
      refine ddo (up1 rfl hr43u) rfl ?_
      refine s_ldS t3 rfl (Blk.cells hb40u) (At.fld ha42u 1 rfl) ?_
      exact ⟨_, rfl, (Stp.refl _ _), I, (nwc (pf_val rfl) nwn)⟩
    · intro ρ g I av
      have hr45u := av 8 _ rfl (by kernel_rfl)
      have hr47u := av 12 _ rfl (by kernel_rfl)
      refine ddo (up1 (up1 rfl hr45u) hr47u) rfl ?_
      refine s_sub rfl rfl ?_
      exact ⟨_, rfl, (Stp.refl _ _), I, (nwc (pf_val rfl) nwn)⟩
    · intro ρ g I av
      have hr49u := av 3 _ rfl (by kernel_rfl)
      have hr51u := av 13 _ rfl (by kernel_rfl)
      refine ddo (up1 (up1 rfl hr49u) hr51u) rfl ?_
      refine s_gtr rfl rfl ?_
      exact ⟨_, rfl, (Stp.refl _ _), I, (nwc (pf_val rfl) nwn)⟩
    · intro ρ g I av
      obtain ⟨L4u, hb5u, hl6u, ha7u⟩ := av 2 _ rfl rfl
      have hr8u := av 1 _ rfl rfl
      have hr10u := av 0 _ rfl rfl
      have hr12u := av 14 _ rfl rfl
      refine ⟨_, (up1 (up1 (up1 rfl hr8u) hr10u) hr12u), ?_⟩
      refine EW.condS rfl rfl (fun hb53u => ?_) (fun hb53u => ?_)
      · replace hF0 := bif_t hb53u hF0
        refine EW.seq ?_
        refine EW.region (by kernel_rfl) ?_
        refine EWL.op rfl ?_
        refine s_mv ?_
        refine EWL.op rfl ?_
        refine s_nil rfl ?_
        refine EWL.op rfl ?_
        refine s_fa f94u2 rfl ?_
        refine EWL.opn rfl ?_
        have m54u : (kInt .i64).M g 0 9 _ := rfl
        refine s_stK (kd := (kInt .i64)) I t3 rfl rfl m54u rfl hb5u (ble_ hl6u rfl) (ne_od hi0 rfl) nc0 (.inl rfl) fun g55u L57u s56u I hb58u hu59u hn60u => ?_
        have ha61u := (At.setF (At.up ha7u s56u (Ne.symm (ne_od hi0 rfl)) nc0) 2 rfl (S94u2 _ _) hu59u (by decide) (by decide) hn60u)
        have hl62u := hu59u.1.trans hl6u
        refine EW.seq ?_
        refine EW.region (by kernel_rfl) ?_
        refine EWL.op rfl ?_
        refine s_as ?_
        refine EW.ret ?_
        obtain rfl := som hF0
        refine ends1 (.inl rfl)  ?_
        exact ret_ (g := g55u) I lo hZ z0 rfl (And.intro Row.none ⟨_, Blk.up (Stp.rc g55u 3300 3400 0) (iv_o hi0) hb58u, hl62u, At.up ha61u (Stp.rc g55u 3300 3400 0) fz nc0⟩)
      · replace hF0 := bif_f hb53u hF0
        refine EW.skip ?_
        refine EW.seq ?_
        refine EW.region (by kernel_rfl) ?_
        refine EWL.op rfl ?_
        refine s_mv ?_
        refine EWL.op rfl ?_
        refine s_mv ?_
        refine EWL.op rfl ?_
        refine s_nil rfl ?_
        refine EWL.op rfl ?_
        refine s_fa f94u1 rfl ?_
        refine EWL.op rfl ?_
        refine s_ldS t3 rfl (Blk.cells hb5u) (At.fld ha7u 1 rfl) ?_
        refine EWL.op rfl ?_
        refine s_mv ?_
        refine EWL.op rfl ?_
        refine s_add rfl rfl ?_
        refine EWL.op rfl ?_
        refine s_nil rfl ?_
        refine EWL.op rfl ?_
        refine s_fa f94u1 rfl ?_
        refine EWL.opn rfl ?_
        have m63u : (kInt .i64).M g 0 (IntKind.i64.wrap (a0.at_ + a1)) _ := rfl
        refine s_stK (kd := (kInt .i64)) I t3 rfl rfl m63u rfl hb5u (ble_ hl6u rfl) (ne_od hi0 rfl) nc0 (.inl rfl) fun g64u L66u s65u I hb67u hu68u hn69u => ?_
        have ha70u := (At.setF (At.up ha7u s65u (Ne.symm (ne_od hi0 rfl)) nc0) 1 rfl (S94u1 _ _) hu68u (by decide) (by decide) hn69u)
        have hl71u := hu68u.1.trans hl6u
        refine EW.seq ?_
        obtain ⟨l78u, h79u, hF0⟩ := bnd hF0
        obtain ⟨l82u, h83u, hF0⟩ := bnd hF0
        refine EW.drawn [] [⟨SF.val 0 (.pointer (some ⟨ba0, 0, none⟩)), none, none⟩, ⟨SF.bx ba0 i0 94 k_ref01uIn rfl { a0 with at_ := (IntKind.i64.wrap (a0.at_ + a1)) }, none, none⟩, ⟨SF.val 1 (.int .i64 a1), none, none⟩, ⟨SF.row 34 5 (kInt .u8) rfl 3301 ([] : List Int), some 0, some 16⟩, ⟨SF.val 35 (.pointer (some ⟨ba0, 0, none⟩)), some 1, none⟩, ⟨SF.val 36 (.pointer (some ⟨ba0, 0, none⟩)), some 2, none⟩, ⟨SF.val 37 (.pointer (some ⟨ba0, 0 + 0, none⟩)), some 3, none⟩, ⟨SF.sl 38 (kInt .u8) rfl 0 { a0 with at_ := (IntKind.i64.wrap (a0.at_ + a1)) }.b, some 4, none⟩, ⟨SF.val 39 (.pointer (some ⟨ba0, 0, none⟩)), some 5, none⟩, ⟨SF.val 40 (.pointer (some ⟨ba0, 0, none⟩)), some 6, none⟩, ⟨SF.val 41 (.pointer (some ⟨ba0, 0 + 1, none⟩)), some 7, none⟩, ⟨SF.val 42 (.int .i64 { a0 with at_ := (IntKind.i64.wrap (a0.at_ + a1)) }.at_), some 8, none⟩, ⟨SF.val 43 (.int .i64 a1), some 9, none⟩, ⟨SF.val 44 (.int .i64 (IntKind.i64.wrap ({ a0 with at_ := (IntKind.i64.wrap (a0.at_ + a1)) }.at_ - a1))), some 10, none⟩, ⟨SF.val 45 (.pointer (some ⟨ba0, 0, none⟩)), some 11, none⟩, ⟨SF.val 46 (.pointer (some ⟨ba0, 0, none⟩)), some 12, none⟩, ⟨SF.val 47 (.pointer (some ⟨ba0, 0 + 1, none⟩)), some 13, none⟩, ⟨SF.val 48 (.int .i64 { a0 with at_ := (IntKind.i64.wrap (a0.at_ + a1)) }.at_), some 14, none⟩, ⟨SF.sl 49 (kInt .u8) rfl 0 l78u, some 15, none⟩, ⟨SF.row 50 5 (kInt .u8) rfl 3301 l82u, some 16, none⟩, ⟨SF.row 4 5 (kInt .u8) rfl 3301 l82u, some 17, none⟩] [(16, at_ 3301)] (by kernel_rfl) (by kernel_rfl) (by kernel_rfl) ?_ I ?_ (dcons ?_ (dcons ?_ (dcons ?_ (dcons ?_ (dcons ?_ (dcons ?_ (dcons ?_ (dcons ?_ (dcons ?_ (dcons ?_ (dcons ?_ (dcons ?_ (dcons ?_ (dcons ?_ (dcons ?_ (dcons ?_ (dcons ?_ (dcons ?_ dnil)))))))))))))))))) ?_
        · exact (And.intro (And.intro (Nat.ne_of_beq_eq_false rfl) (And.intro trivial (And.intro (And.intro (ne_od hi0 rfl) trivial) (And.intro trivial (And.intro trivial (And.intro trivial (And.intro trivial (And.intro trivial (And.intro (And.intro (Nat.ne_of_beq_eq_false rfl) trivial) (And.intro trivial (And.intro trivial (And.intro trivial (And.intro trivial (And.intro trivial (And.intro trivial (And.intro trivial (And.intro trivial (And.intro trivial (And.intro trivial (And.intro (And.intro (Nat.ne_of_beq_eq_false rfl) trivial) (And.intro trivial (And.intro trivial trivial)))))))))))))))))))))) trivial)
        · exact (nwc (pf_val rfl) (nwc (pf_bx rfl hb67u hl71u ha70u) (nwc (pf_val rfl) nwn)))
        · intro ρ g I av
          refine ddo rfl rfl ?_
          refine s_bslK (kd := (kInt .u8)) (xs := ([] : List Int)) 3301 I s32 t5 z5 rfl rfl (by decide) rfl (by decide) (trivial) (Seg.flat (d := (kInt .u8)) (g := g) alle) rfl (zpv rfl) fun g97u v95u s98u I m96u => ?_
          exact ⟨_, rfl, s98u, I, (nwc (pf_row rfl rfl m96u) nwn)⟩
        · intro ρ g I av
          have hr99u := av 0 _ rfl (by kernel_rfl)
          refine ddo (up1 rfl hr99u) rfl ?_
          refine s_mv ?_
          exact ⟨_, rfl, (Stp.refl _ _), I, (nwc (pf_val rfl) nwn)⟩
        · intro ρ g I av
          have hr101u := av 4 _ rfl (by kernel_rfl)
          refine ddo (up1 rfl hr101u) rfl ?_
          refine s_nil rfl ?_
          exact ⟨_, rfl, (Stp.refl _ _), I, (nwc (pf_val rfl) nwn)⟩
        · intro ρ g I av
          have hr103u := av 5 _ rfl (by kernel_rfl)
          refine ddo (up1 rfl hr103u) rfl ?_
          refine s_fa f94u0 rfl ?_
          exact ⟨_, rfl, (Stp.refl _ _), I, (nwc (pf_val rfl) nwn)⟩
        · intro ρ g I av
          obtain ⟨L105u, hb106u, hl107u, ha108u⟩ := av 1 _ rfl (by kernel_rfl)
          have hr109u := av 6 _ rfl (by kernel_rfl)
          refine ddo (up1 rfl hr109u) rfl ?_
          refine s_ldSl t32 rfl (Blk.cells hb106u) (At.fld ha108u 0 rfl) fun v111u m112u => ?_
          exact ⟨_, rfl, (Stp.refl _ _), I, (nwc (pf_sl rfl rfl m112u) nwn)⟩
        · intro ρ g I av
          have hr113u := av 0 _ rfl (by kernel_rfl)
          refine ddo (up1 rfl hr113u) rfl ?_
          refine s_mv ?_
          exact ⟨_, rfl, (Stp.refl _ _), I, (nwc (pf_val rfl) nwn)⟩
        · intro ρ g I av
          have hr115u := av 8 _ rfl (by kernel_rfl)
          refine ddo (up1 rfl hr115u) rfl ?_
          refine s_nil rfl ?_
          exact ⟨_, rfl, (Stp.refl _ _), I, (nwc (pf_val rfl) nwn)⟩
        · intro ρ g I av
          have hr117u := av 9 _ rfl (by kernel_rfl)
          refine ddo (up1 rfl hr117u) rfl ?_
          refine s_fa f94u1 rfl ?_
          exact ⟨_, rfl, (Stp.refl _ _), I, (nwc (pf_val rfl) nwn)⟩
        · intro ρ g I av
          obtain ⟨L119u, hb120u, hl121u, ha122u⟩ := av 1 _ rfl (by kernel_rfl)
          have hr123u := av 10 _ rfl (by kernel_rfl)
          refine ddo (up1 rfl hr123u) rfl ?_
          refine s_ldS t3 rfl (Blk.cells hb120u) (At.fld ha122u 1 rfl) ?_
          exact ⟨_, rfl, (Stp.refl _ _), I, (nwc (pf_val rfl) nwn)⟩
        · intro ρ g I av
          have hr125u := av 2 _ rfl (by kernel_rfl)
          refine ddo (up1 rfl hr125u) rfl ?_
          refine s_mv ?_
          exact ⟨_, rfl, (Stp.refl _ _), I, (nwc (pf_val rfl) nwn)⟩
        · intro ρ g I av
          have hr127u := av 11 _ rfl (by kernel_rfl)
          have hr129u := av 12 _ rfl (by kernel_rfl)
          refine ddo (up1 (up1 rfl hr127u) hr129u) rfl ?_
          refine s_sub rfl rfl ?_
          exact ⟨_, rfl, (Stp.refl _ _), I, (nwc (pf_val rfl) nwn)⟩
        · intro ρ g I av
          have hr131u := av 0 _ rfl (by kernel_rfl)
          refine ddo (up1 rfl hr131u) rfl ?_
          refine s_mv ?_
          exact ⟨_, rfl, (Stp.refl _ _), I, (nwc (pf_val rfl) nwn)⟩
        · intro ρ g I av
          have hr133u := av 14 _ rfl (by kernel_rfl)
          refine ddo (up1 rfl hr133u) rfl ?_
          refine s_nil rfl ?_
          exact ⟨_, rfl, (Stp.refl _ _), I, (nwc (pf_val rfl) nwn)⟩
        · intro ρ g I av
          have hr135u := av 15 _ rfl (by kernel_rfl)
          refine ddo (up1 rfl hr135u) rfl ?_
          refine s_fa f94u1 rfl ?_
          exact ⟨_, rfl, (Stp.refl _ _), I, (nwc (pf_val rfl) nwn)⟩
        · intro ρ g I av
          obtain ⟨L137u, hb138u, hl139u, ha140u⟩ := av 1 _ rfl (by kernel_rfl)
          have hr141u := av 16 _ rfl (by kernel_rfl)
          refine ddo (up1 rfl hr141u) rfl ?_
          refine s_ldS t3 rfl (Blk.cells hb138u) (At.fld ha140u 1 rfl) ?_
          exact ⟨_, rfl, (Stp.refl _ _), I, (nwc (pf_val rfl) nwn)⟩
        · intro ρ g I av
          obtain ⟨v145u, hr143u, m144u⟩ := av 7 _ rfl (by kernel_rfl)
          have hr146u := av 13 _ rfl (by kernel_rfl)
          have hr148u := av 17 _ rfl (by kernel_rfl)
          refine ddo (up1 (up1 (up1 rfl hr143u) hr146u) hr148u) rfl ?_
          refine s_slcLH s32 t5 rfl m144u rfl rfl h79u fun v150u m151u => ?_
          exact ⟨_, rfl, (Stp.refl _ _), I, (nwc (pf_sl rfl rfl m151u) nwn)⟩
        · intro ρ g I av
          obtain ⟨v154u, hr152u, m153u⟩ := av 3 _ rfl (by kernel_rfl)
          obtain ⟨v157u, hr155u, m156u⟩ := av 18 _ rfl (by kernel_rfl)
          refine ddo (up1 (up1 rfl hr152u) hr155u) rfl ?_
          refine s_app (kd := (kInt .u8)) I s32 rfl s32 t5 z5 rfl m153u (Sl.rs m156u) h83u (by decide) (zpv rfl) (zpv rfl) fun g160u v158u s161u I m159u => ?_
          exact ⟨_, rfl, s161u, I, (nwc (pf_row rfl rfl m159u) nwn)⟩
        · intro ρ g I av
          obtain ⟨v164u, hr162u, m163u⟩ := av 19 _ rfl (by kernel_rfl)
          refine ddo (up1 rfl hr162u) rfl ?_
          refine s_as ?_
          exact ⟨_, rfl, (Stp.refl _ _), I, (nwc (pf_row rfl rfl m163u) nwn)⟩
        · intro ρ g I av
          obtain ⟨L88u, hb89u, hl90u, ha91u⟩ := av 1 _ rfl rfl
          obtain ⟨v94u, hr92u, m93u⟩ := av 20 _ rfl rfl
          refine ⟨_, (up1 rfl hr92u), ?_⟩
          refine EW.ret ?_
          obtain rfl := som hF0
          refine ends1 (.inl rfl)  ?_
          have m165u := Row.rc rfl (by decide) m93u rc0
          have s167u := Stp.rc1 g 3301 rc0
          replace I := I.to s167u (Lo.rc (d := rc0) I.l (.inl zrc0)) (at_in (zpv rfl))
          exact ret_ (g := (g.rc 3301 (3301 + 1) rc0)) I lo hZ z0 rfl (And.intro (Row.up rfl (Stp.rc (g.rc 3301 (3301 + 1) rc0) 3300 3400 0) fz (iv_z hZ rfl zrc0) m165u) ⟨_, Blk.up (Stp.rc (g.rc 3301 (3301 + 1) rc0) 3300 3400 0) (iv_o hi0) (Blk.up s167u (ne_od hi0 rfl) hb89u), hl90u, At.up (At.up ha91u s167u (Nat.ne_of_beq_eq_false rfl) nc0) (Stp.rc (g.rc 3301 (3301 + 1) rc0) 3300 3400 0) fz nc0⟩)
theorem ref01uIn_Num_ok {g0 : GW} {Z : Nat → Prop} (hZ : ∀ c, Z c → c = 0 ∨ 3500 ≤ c) (z0 : Z 0) (lo : Lo Z g0)  {a0 : ref01uIn} {La0 : List Value} {ba0 i0 : Nat} {a1 : Int} (hba0 : Blk g0 ba0 i0 94 La0) (hla0 : La0.length = k_ref01uIn.sz) (ma0 : At k_ref01uIn g0 0 a0 La0 0) (hi0 : 3500 ≤ i0) (zi0 : Z i0) {r : (Int × ref01uIn)} (hF0 : ref01uIn_Num a0 a1 = some r) :
    Calls P 48 [.pointer (some ⟨ba0, 0, none⟩), .int .i64 a1].toArray g0.w (Rets (RR (at_ i0) Z g0 (PAnd (PEq (.int .u64 r.1)) (fun h => Ob0 94 k_ref01uIn h i0 ba0 r.2)))) := by
  refine calls_of Go.Proofs.Try.func48 rfl (Nat.le_of_ble_eq_true rfl) (by kernel_rfl) ?_
  have I : Inv (or_ (at_ i0) (iv 3400 3500)) (or_ Z (iv 3400 3500)) g0 g0 := Inv.start (lo.mono (fun _ h => .inl h))
  have fz : ¬ iv 3400 3500 0 := nz0 rfl
  unfold ref01uIn_Num at hF0
  refine EW.seq ?_
  refine EW.region (by kernel_rfl) ?_
  refine EWL.op rfl ?_
  refine s_as ?_
  refine EW.seq ?_
  refine EW.region (by kernel_rfl) ?_
  refine EWL.op rfl ?_
  refine s_mv ?_
  refine EWL.op rfl ?_
  refine s_mv ?_
  refine EWL.op rfl ?_
  obtain ⟨r1u, h2u, hF0⟩ := bnd hF0
  refine s_cf I k62 rfl (ref01uIn_Raw_ok (zle hZ rfl rfl) (.inl z0) I.l 3401 (zpv rfl) hba0 hla0 ma0 (le_b rfl hi0) (.inl zi0) h2u) (at_in (.inl rfl)) fun g5u v3u s6u I p4u => ?_
  obtain ⟨p4u, o7u⟩ := p4u
  obtain ⟨L8u, hb9u, hl10u, ha11u⟩ := o7u
  refine EWL.op rfl ?_
  refine s_as ?_
  refine EW.seq ?_
  refine EW.region (by kernel_rfl) ?_
  refine EWL.op rfl ?_
  refine s_as ?_
  refine EW.seq ?_
  refine EW.seq ?_
  refine EW.region (by kernel_rfl) ?_
  refine EWL.op rfl ?_
  refine s_as ?_
  refine EW.block ?_
  refine EW.loop (b := (ref01uIn_Num_b1 r1u)) (fun (s : (Int × Int)) ρ w => ∃ (g16u : GW) (v18u : Value) (x21u : Int) (x23u : Int) (L25u : List Value), w = g16u.w ∧ Inv (or_ (at_ i0) (iv 3400 3500)) (or_ Z (iv 3400 3500)) g0 g16u ∧ (x21u, x23u) = s ∧ ρ 5 = v18u ∧ Row 5 (kInt .u8) g16u 3401 r1u.1 v18u ∧ ρ 6 = .int .u64 x21u ∧ ρ 7 = .int .i64 x23u ∧ Blk g16u ba0 i0 94 L25u ∧ L25u.length = 3 ∧ At k_ref01uIn g16u 0 r1u.2 L25u 0) hF0 ⟨g5u, _, 0, 0, _, rfl, I, rfl, rfl, p4u, rfl, rfl, hb9u, hl10u, ha11u⟩ ?_
  · rintro s_ o29u ρ w ⟨g16u, v18u, x21u, x23u, L25u, rfl, I, eo, hr17u, m19u, hr20u, hr22u, hb26u, hl28u, ha27u⟩ hF1 hr1
    subst eo
    unfold ref01uIn_Num_b1 at hF1
    refine EW.re (up1 (up1 (up1 rfl hr17u) hr20u) hr22u) ?_
    refine EW.seq ?_
    refine EW.seq ?_
    refine EW.region (by kernel_rfl) ?_
    refine EWL.op rfl ?_
    refine s_mv ?_
    refine EWL.op rfl ?_
    refine s_mv ?_
    refine EWL.op rfl ?_
    refine s_lenR (kd := (kInt .u8)) (xs := r1u.1) s32 rfl (Sl.rs (Row.sl m19u)) ?_
    refine EWL.op rfl ?_
    refine s_lss rfl rfl ?_
    refine EW.condS rfl rfl (fun hb30u => ?_) (fun hb30u => ?_)
    · replace hF1 := bif_t hb30u hF1
      refine EW.skip ?_
      refine EW.seq ?_
      refine EW.block ?_
      refine EW.region (by kernel_rfl) ?_
      refine EWL.op rfl ?_
      refine s_mv ?_
      refine EWL.op rfl ?_
      refine s_mul rfl rfl ?_
      refine EWL.op rfl ?_
      refine s_mv ?_
      refine EWL.op rfl ?_
      refine s_mv ?_
      refine EWL.op rfl ?_
      obtain ⟨x31u, h32u, hF1⟩ := bnd hF1
      refine s_idxR s32 t5 m19u rfl h32u fun b33u _ _ lk34u => ?_
      obtain ⟨L35u, hb36u, ha37u, cl38u⟩ := Row.opn m19u lk34u h32u rfl
      refine EWL.op rfl ?_
      refine s_ldS t5 rfl (Imm.cells (Blk.imm hb36u)) ha37u ?_
      refine EWL.op rfl ?_
      refine s_cvt u5 n23 rfl ?_
      refine EWL.op rfl ?_
      refine s_add rfl rfl ?_
      refine EWL.op rfl ?_
      refine s_as ?_
      refine EW.region (by kernel_rfl) ?_
      refine EWL.op rfl ?_
      refine s_mv ?_
      refine EWL.op rfl ?_
      refine s_add rfl rfl ?_
      refine EWL.op rfl ?_
      refine s_as ?_
      exact ⟨_, (som hF1).symm, g16u, _, (IntKind.u64.wrap ((IntKind.u64.wrap (x21u * 256)) + (IntKind.u64.wrap x31u))), (IntKind.i64.wrap (x23u + 1)), _, rfl, I, rfl, rfl, m19u, rfl, rfl, hb26u, hl28u, ha27u⟩
    · replace hF1 := bif_f hb30u hF1
      refine EW.exit ?_
      have hF0 := out_ hF1 hr1
      refine EW.seq ?_
      refine EW.region (by kernel_rfl) ?_
      refine EWL.op rfl ?_
      refine s_mv ?_
      refine EWL.op rfl ?_
      refine s_as ?_
      refine EW.ret ?_
      obtain rfl := som hF0
      refine ends1 (.inl rfl)  ?_
      exact ret_ (g := g16u) I lo hZ z0 rfl (And.intro rfl ⟨_, Blk.up (Stp.rc g16u 3400 3500 0) (iv_o hi0) hb26u, hl28u, At.up ha27u (Stp.rc g16u 3400 3500 0) fz nc0⟩)
theorem ref01uIn_Many_ok {g0 : GW} {Z : Nat → Prop} (hZ : ∀ c, Z c → c = 0 ∨ 3600 ≤ c) (z0 : Z 0) (lo : Lo Z g0)  {a0 : ref01uIn} {La0 : List Value} {ba0 i0 : Nat} {a1 : Int} (hba0 : Blk g0 ba0 i0 94 La0) (hla0 : La0.length = k_ref01uIn.sz) (ma0 : At k_ref01uIn g0 0 a0 La0 0) (hi0 : 3600 ≤ i0) (zi0 : Z i0) {r : (Int × ref01uIn)} (hF0 : ref01uIn_Many a0 a1 = some r) :
    Calls P 25 [.pointer (some ⟨ba0, 0, none⟩), .int .i64 a1].toArray g0.w (Rets (RR (at_ i0) Z g0 (PAnd (PEq (.int .i64 r.1)) (fun h => Ob0 94 k_ref01uIn h i0 ba0 r.2)))) := by
  refine calls_of Go.Proofs.Try.func25 rfl (Nat.le_of_ble_eq_true rfl) (by kernel_rfl) ?_
  have I : Inv (or_ (at_ i0) (iv 3500 3600)) (or_ Z (iv 3500 3600)) g0 g0 := Inv.start (lo.mono (fun _ h => .inl h))
  have fz : ¬ iv 3500 3600 0 := nz0 rfl
  unfold ref01uIn_Many at hF0
  refine EW.seq ?_
  refine EW.region (by kernel_rfl) ?_
  refine EWL.op rfl ?_
  refine s_as ?_
  refine EW.seq ?_
  refine EW.region (by kernel_rfl) ?_
  refine EWL.op rfl ?_
  refine s_mv ?_
  refine EWL.op rfl ?_
  obtain ⟨r1u, h2u, hF0⟩ := bnd hF0
  refine s_cf I k48 rfl (ref01uIn_Num_ok (zle hZ rfl rfl) (.inl z0) I.l hba0 hla0 ma0 (le_b rfl hi0) (.inl zi0) h2u) (at_in (.inl rfl)) fun g5u v3u s6u I p4u => ?_
  obtain ⟨p4u, o7u⟩ := p4u
  obtain ⟨L8u, hb9u, hl10u, ha11u⟩ := o7u
  obtain rfl := p4u
  refine EWL.op rfl ?_
  refine s_cvt u23 n3 rfl ?_
  refine EWL.op rfl ?_
  refine s_as ?_
  refine EW.seq ?_
  refine EW.seq ?_
  refine EW.region (by kernel_rfl) ?_
  refine EWL.op rfl ?_
  refine s_mv ?_
  refine EWL.op rfl ?_
  refine s_mv ?_
  refine EWL.op rfl ?_
  refine s_gtr rfl rfl ?_
  refine EW.condS rfl rfl (fun hb12u => ?_) (fun hb12u => ?_)
  · replace hF0 := bif_t hb12u hF0
    refine EW.seqJ (fun ρ w => ∃ (g13u : GW) (L15u : List Value) (x19u : ref01uIn), w = g13u.w ∧ Inv (or_ (at_ i0) (iv 3500 3600)) (or_ Z (iv 3500 3600)) g0 g13u ∧ ref01uIn_Many_j1 x19u = some r ∧ Blk g13u ba0 i0 94 L15u ∧ L15u.length = 3 ∧ At k_ref01uIn g13u 0 x19u L15u 0) ?_ ?_
    · rintro ρ w ⟨g13u, L15u, x19u, rfl, I, hF0, hb16u, hl18u, ha17u⟩
      unfold ref01uIn_Many_j1 at hF0
      refine EW.seq ?_
      refine EW.region (by kernel_rfl) ?_
      refine EWL.op rfl ?_
      refine s_as ?_
      refine EW.ret ?_
      obtain rfl := som hF0
      refine ends1 (.inl rfl)  ?_
      exact ret_ (g := g13u) I lo hZ z0 rfl (And.intro rfl ⟨_, Blk.up (Stp.rc g13u 3500 3600 0) (iv_o hi0) hb16u, hl18u, At.up ha17u (Stp.rc g13u 3500 3600 0) fz nc0⟩)
    · refine EW.seq ?_
      refine EW.region (by kernel_rfl) ?_
      refine EWL.op rfl ?_
      refine s_mv ?_
      refine EWL.op rfl ?_
      refine s_nil rfl ?_
      refine EWL.op rfl ?_
      refine s_fa f94u2 rfl ?_
      refine EWL.op rfl ?_
      refine s_ldS t3 rfl (Blk.cells hb9u) (At.fld ha11u 2 rfl) ?_
      refine EWL.op rfl ?_
      refine s_eql rfl rfl ?_
      refine EW.condS rfl rfl (fun hb20u => ?_) (fun hb20u => ?_)
      · replace hF0 := bif_t hb20u hF0
        refine EW.region (by kernel_rfl) ?_
        refine EWL.op rfl ?_
        refine s_mv ?_
        refine EWL.op rfl ?_
        refine s_nil rfl ?_
        refine EWL.op rfl ?_
        refine s_fa f94u2 rfl ?_
        refine EWL.opn rfl ?_
        have m21u : (kInt .i64).M g5u 0 8 _ := rfl
        refine s_stK (kd := (kInt .i64)) I t3 rfl rfl m21u rfl hb9u (ble_ hl10u rfl) (ne_od hi0 rfl) nc0 (.inl rfl) fun g22u L24u s23u I hb25u hu26u hn27u => ?_
        have ha28u := (At.setF (At.up ha11u s23u (Ne.symm (ne_od hi0 rfl)) nc0) 2 rfl (S94u2 _ _) hu26u (by decide) (by decide) hn27u)
        have hl29u := hu26u.1.trans hl10u
        exact ⟨g22u, _, { r1u.2 with bad := 8 }, rfl, I, hF0, hb25u, hl29u, ha28u⟩
      · replace hF0 := bif_f hb20u hF0
        refine EW.skip ?_
        exact ⟨g5u, _, r1u.2, rfl, I, hF0, hb9u, hl10u, ha11u⟩
  · replace hF0 := bif_f hb12u hF0
    refine EW.skip ?_
    refine EW.seq ?_
    refine EW.region (by kernel_rfl) ?_
    refine EWL.op rfl ?_
    refine s_mv ?_
    refine EWL.op rfl ?_
    refine s_as ?_
    refine EW.ret ?_
    obtain rfl := som hF0
    refine ends1 (.inl rfl)  ?_
    exact ret_ (g := g5u) I lo hZ z0 rfl (And.intro rfl ⟨_, Blk.up (Stp.rc g5u 3500 3600 0) (iv_o hi0) hb9u, hl10u, At.up ha11u (Stp.rc g5u 3500 3600 0) fz nc0⟩)
theorem ref01uIn_Sum_ok {g0 : GW} {Z : Nat → Prop} (hZ : ∀ c, Z c → c = 0 ∨ 3700 ≤ c) (z0 : Z 0) (lo : Lo Z g0)  {a0 : ref01uIn} {La0 : List Value} {ba0 i0 : Nat} (hba0 : Blk g0 ba0 i0 94 La0) (hla0 : La0.length = k_ref01uIn.sz) (ma0 : At k_ref01uIn g0 0 a0 La0 0) (hi0 : 3700 ≤ i0) (zi0 : Z i0) {r : ((List Int) × ref01uIn)} (hF0 : ref01uIn_Sum a0 = some r) :
    Calls P 63 [.pointer (some ⟨ba0, 0, none⟩)].toArray g0.w (Rets (RR (at_ i0) Z g0 (PAnd (PAg (kNums .u8 32) r.1) (fun h => Ob0 94 k_ref01uIn h i0 ba0 r.2)))) := by
  refine calls_of Go.Proofs.Try.func63 rfl (Nat.le_of_ble_eq_true rfl) (by kernel_rfl) ?_
  have I : Inv (or_ (at_ i0) (iv 3600 3700)) (or_ Z (iv 3600 3700)) g0 g0 := Inv.start (lo.mono (fun _ h => .inl h))
  have fz : ¬ iv 3600 3700 0 := nz0 rfl
  unfold ref01uIn_Sum at hF0
  refine EW.seq ?_
  refine EW.region (by kernel_rfl) ?_
  refine EWL.op rfl ?_
  refine s_newK (kNums .u8 32) 3601 I (zpv rfl) z24 rfl fun g6u b1u L5u s7u I hb2u hl4u ha3u => ?_
  refine EW.seq ?_
  refine EW.region (by kernel_rfl) ?_
  refine EWL.op rfl ?_
  refine s_newK (kNums .u8 32) 3602 I (zpv rfl) z24 rfl fun g13u b8u L12u s14u I hb9u hl11u ha10u => ?_
  refine EW.seq ?_
  refine EW.region (by kernel_rfl) ?_
  refine EWL.op rfl ?_
  refine s_mv ?_
  refine EWL.op rfl ?_
  obtain ⟨r15u, h16u, hF0⟩ := bnd hF0
  refine s_cf I k62 rfl (ref01uIn_Raw_ok (zle hZ rfl rfl) (.inl z0) I.l 3603 (zpv rfl) (Blk.up s14u no_ (Blk.up s7u no_ hba0)) hla0 (At.up (At.up ma0 s7u no_ nc0) s14u no_ nc0) (le_b rfl hi0) (.inl zi0) h16u) (at_in (.inl rfl)) fun g19u v17u s20u I p18u => ?_
  obtain ⟨p18u, o21u⟩ := p18u
  obtain ⟨L22u, hb23u, hl24u, ha25u⟩ := o21u
  refine EWL.op rfl ?_
  refine s_as ?_
  refine EW.seq ?_
  refine EW.seq ?_
  refine EW.region (by kernel_rfl) ?_
  refine EWL.op rfl ?_
  refine s_as ?_
  refine EW.block ?_
  refine EW.loop (b := (ref01uIn_Sum_b1 r15u)) (fun (s : (Int × (List Int))) ρ w => ∃ (g29u : GW) (v33u : Value) (x36u : Int) (L38u : List Value) (L43u : List Value) (L48u : List Value) (x52u : (List Int)), w = g29u.w ∧ Inv (or_ (at_ i0) (iv 3600 3700)) (or_ Z (iv 3600 3700)) g0 g29u ∧ (x36u, x52u) = s ∧ ρ 2 = .pointer (some ⟨b1u, 0, none⟩) ∧ ρ 3 = .pointer (some ⟨b8u, 0, none⟩) ∧ ρ 4 = v33u ∧ Row 5 (kInt .u8) g29u 3603 r15u.1 v33u ∧ ρ 5 = .int .i64 x36u ∧ Blk g29u ba0 i0 94 L38u ∧ L38u.length = 3 ∧ At k_ref01uIn g29u 0 r15u.2 L38u 0 ∧ Blk g29u b1u 3601 24 L43u ∧ L43u.length = 32 ∧ At (kNums .u8 32) g29u 0 (List.replicate 32 0) L43u 0 ∧ Blk g29u b8u 3602 24 L48u ∧ L48u.length = 32 ∧ At (kNums .u8 32) g29u 0 x52u L48u 0) hF0 ⟨g19u, _, 0, _, _, _, (List.replicate 32 0), rfl, I, rfl, rfl, rfl, rfl, p18u, rfl, hb23u, hl24u, ha25u, (Blk.up s20u (Ne.symm (ne_od hi0 rfl)) (Blk.up s14u no_ hb2u)), hl4u, (At.up (At.up ha3u s14u no_ nc0) s20u (Ne.symm (ne_od hi0 rfl)) nc0), (Blk.up s20u (Ne.symm (ne_od hi0 rfl)) hb9u), hl11u, (At.up ha10u s20u (Ne.symm (ne_od hi0 rfl)) nc0)⟩ ?_
  · rintro s_ o53u ρ w ⟨g29u, v33u, x36u, L38u, L43u, L48u, x52u, rfl, I, eo, hr30u, hr31u, hr32u, m34u, hr35u, hb39u, hl41u, ha40u, hb44u, hl46u, ha45u, hb49u, hl51u, ha50u⟩ hF1 hr1
    subst eo
    unfold ref01uIn_Sum_b1 at hF1
    refine EW.re (up1 (up1 (up1 (up1 rfl hr30u) hr31u) hr32u) hr35u) ?_
    refine EW.seq ?_
    refine EW.seq ?_
    refine EW.region (by kernel_rfl) ?_
    refine EWL.op rfl ?_
    refine s_mv ?_
    refine EWL.op rfl ?_
    refine s_mv ?_
    refine EWL.op rfl ?_
    refine s_lenR (kd := (kInt .u8)) (xs := r15u.1) s32 rfl (Sl.rs (Row.sl m34u)) ?_
    refine EWL.op rfl ?_
    refine s_lss rfl rfl ?_
    refine EW.condS rfl rfl (fun hb54u => ?_) (fun hb54u => ?_)
    · replace hF1 := bif_t hb54u hF1
      refine EW.skip ?_
      refine EW.seq ?_
      refine EW.block ?_
      refine EW.region (by kernel_rfl) ?_
      refine EWL.op rfl ?_
      refine s_mv ?_
      refine EWL.op rfl ?_
      refine s_mv ?_
      refine EWL.op rfl ?_
      refine s_mv ?_
      refine EWL.op rfl ?_
      obtain ⟨x55u, h56u, hF1⟩ := bnd hF1
      refine s_idxR s32 t5 m34u rfl h56u fun b57u _ _ lk58u => ?_
      obtain ⟨L59u, hb60u, ha61u, cl62u⟩ := Row.opn m34u lk58u h56u rfl
      refine EWL.op rfl ?_
      refine s_ldS t5 rfl (Imm.cells (Blk.imm hb60u)) ha61u ?_
      refine EWL.op rfl ?_
      obtain ⟨x63u, h64u, hF1⟩ := bnd hF1
      have hl65u := ixA (At.nlen ha50u) h64u
      refine s_iaA ar24 t5 rfl rfl hl65u.1 hl65u.2.2 ?_
      refine EWL.opn rfl ?_
      have m66u : (kInt .u8).M g29u 0 x55u _ := rfl
      refine s_stP (kd := (kInt .u8)) I t5 rfl rfl m66u rfl hb49u (At.fits (At.numAt ha50u h64u) (by decide)) (by decide) nc0 (zpv rfl) fun g67u L69u s68u I hb70u hu71u hn72u => ?_
      have ha73u := (At.setNI (At.up ha50u s68u (Nat.ne_of_beq_eq_false rfl) nc0) h64u hu71u hn72u)
      have hl74u := hu71u.1.trans hl51u
      refine EW.region (by kernel_rfl) ?_
      refine EWL.op rfl ?_
      refine s_mv ?_
      refine EWL.op rfl ?_
      refine s_add rfl rfl ?_
      refine EWL.op rfl ?_
      refine s_as ?_
      exact ⟨_, (som hF1).symm, g67u, _, (IntKind.i64.wrap (x36u + 1)), _, _, _, (upd x52u x36u x55u), rfl, I, rfl, rfl, rfl, rfl, (Row.up rfl s68u (Nat.ne_of_beq_eq_false rfl) (Nat.ne_of_beq_eq_false rfl) m34u), rfl, (Blk.up s68u (ne_od hi0 rfl) hb39u), hl41u, (At.up ha40u s68u (Nat.ne_of_beq_eq_false rfl) nc0), (Blk.up s68u (Nat.ne_of_beq_eq_false rfl) hb44u), hl46u, (At.up ha45u s68u (Nat.ne_of_beq_eq_false rfl) nc0), hb70u, hl74u, ha73u⟩
    · replace hF1 := bif_f hb54u hF1
      refine EW.exit ?_
      have hF0 := out_ hF1 hr1
      refine EW.seq ?_
      refine EW.region (by kernel_rfl) ?_
      refine EWL.op rfl ?_
      refine s_ldK t24 rfl (Blk.cells hb49u) ha50u rfl rfl fun cs75u m76u => ?_
      refine EWL.opn rfl ?_
      have m77u : (kNums .u8 32).M g29u 0 x52u _ := m76u
      refine s_stK (kd := (kNums .u8 32)) I t24 rfl rfl m77u rfl hb44u (ble_ hl46u rfl) (by decide) nc0 (zpv rfl) fun g78u L80u s79u I hb81u hu82u hn83u => ?_
      have ha84u := hn83u
      have hl85u := hu82u.1.trans hl46u
      refine EW.ret ?_
      obtain rfl := som hF0
      refine endsC (.inl rfl) rfl (run_lvA t24 (Blk.cells hb81u) (At.fits ha84u (by decide))) ?_
      exact ret_ (g := g78u) I lo hZ z0 rfl (And.intro ⟨_, rfl, Kd.upK rfl (Stp.rc g78u 3600 3700 0) fz ha84u⟩ ⟨_, Blk.up (Stp.rc g78u 3600 3700 0) (iv_o hi0) (Blk.up s79u (ne_od hi0 rfl) hb39u), hl41u, At.up (At.up ha40u s79u (Nat.ne_of_beq_eq_false rfl) nc0) (Stp.rc g78u 3600 3700 0) fz nc0⟩)
theorem ref13uTakeCond_ok {g0 : GW} {Z : Nat → Prop} (hZ : ∀ c, Z c → c = 0 ∨ 3800 ≤ c) (z0 : Z 0) (lo : Lo Z g0)  {a0 : ref01uIn} {La0 : List Value} {ba0 i0 : Nat} (hba0 : Blk g0 ba0 i0 94 La0) (hla0 : La0.length = k_ref01uIn.sz) (ma0 : At k_ref01uIn g0 0 a0 La0 0) (hi0 : 3800 ≤ i0) (zi0 : Z i0) {r : (ref10uCond × ref01uIn)} (hF0 : ref13uTakeCond a0 = some r) :
    Calls P 49 [.pointer (some ⟨ba0, 0, none⟩)].toArray g0.w (Rets (RR (at_ i0) Z g0 (PAnd (PAg k_ref10uCond r.1) (fun h => Ob0 94 k_ref01uIn h i0 ba0 r.2)))) := by
  refine calls_of Go.Proofs.Try.func49 rfl (Nat.le_of_ble_eq_true rfl) (by kernel_rfl) ?_
  have I : Inv (or_ (at_ i0) (iv 3700 3800)) (or_ Z (iv 3700 3800)) g0 g0 := Inv.start (lo.mono (fun _ h => .inl h))
  have fz : ¬ iv 3700 3800 0 := nz0 rfl
  unfold ref13uTakeCond at hF0
  refine EW.seq ?_
  refine EW.region (by kernel_rfl) ?_
  refine EWL.op rfl ?_
  refine s_newK k_ref10uCond 3701 I (zpv rfl) z26 rfl fun g6u b1u L5u s7u I hb2u hl4u ha3u => ?_
  refine EW.seq ?_
  refine EW.region (by kernel_rfl) ?_
  refine EWL.op rfl ?_
  refine s_newK k_ref10uCond 3702 I (zpv rfl) z26 rfl fun g13u b8u L12u s14u I hb9u hl11u ha10u => ?_
  refine EW.seq ?_
  refine EW.region (by kernel_rfl) ?_
  refine EWL.op rfl ?_
  refine s_mv ?_
  refine EWL.op rfl ?_
  obtain ⟨r15u, h16u, hF0⟩ := bnd hF0
  refine s_cf I k48 rfl (ref01uIn_Num_ok (zle hZ rfl rfl) (.inl z0) I.l (Blk.up s14u no_ (Blk.up s7u no_ hba0)) hla0 (At.up (At.up ma0 s7u no_ nc0) s14u no_ nc0) (le_b rfl hi0) (.inl zi0) h16u) (at_in (.inl rfl)) fun g19u v17u s20u I p18u => ?_
  obtain ⟨p18u, o21u⟩ := p18u
  obtain ⟨L22u, hb23u, hl24u, ha25u⟩ := o21u
  obtain rfl := p18u
  refine EWL.op rfl ?_
  refine s_fa f26u0 rfl ?_
  refine EWL.opn rfl ?_
  have m26u : (kInt .u64).M g19u 0 r15u.1 _ := rfl
  refine s_stK (kd := (kInt .u64)) I t23 rfl rfl m26u rfl (Blk.up s20u (Ne.symm (ne_od hi0 rfl)) hb9u) (ble_ hl11u rfl) (by decide) nc0 (zpv rfl) fun g27u L29u s28u I hb30u hu31u hn32u => ?_
  have ha33u := (At.setF (At.up (At.up ha10u s20u (Ne.symm (ne_od hi0 rfl)) nc0) s28u (Nat.ne_of_beq_eq_false rfl) nc0) 0 rfl (S26u0 _ _) hu31u (by decide) (by decide) hn32u)
  have hl34u := hu31u.1.trans hl11u
  refine EW.seq ?_
  refine EW.region (by kernel_rfl) ?_
  refine EWL.op rfl ?_
  refine s_mv ?_
  refine EWL.op rfl ?_
  obtain ⟨r35u, h36u, hF0⟩ := bnd hF0
  refine s_cf I k48 rfl (ref01uIn_Num_ok (zle hZ rfl rfl) (.inl z0) I.l (Blk.up s28u (ne_od hi0 rfl) hb23u) hl24u (At.up ha25u s28u (Nat.ne_of_beq_eq_false rfl) nc0) (le_b rfl hi0) (.inl zi0) h36u) (at_in (.inl rfl)) fun g39u v37u s40u I p38u => ?_
  obtain ⟨p38u, o41u⟩ := p38u
  obtain ⟨L42u, hb43u, hl44u, ha45u⟩ := o41u
  obtain rfl := p38u
  refine EWL.op rfl ?_
  refine s_cvt u23 n3 rfl ?_
  refine EWL.op rfl ?_
  refine s_fa f26u1 rfl ?_
  refine EWL.opn rfl ?_
  have m46u : (kInt .i64).M g39u 0 (IntKind.i64.wrap r35u.1) _ := rfl
  refine s_stK (kd := (kInt .i64)) I t3 rfl rfl m46u rfl (Blk.up s40u (Ne.symm (ne_od hi0 rfl)) hb30u) (ble_ hl34u rfl) (by decide) nc0 (zpv rfl) fun g47u L49u s48u I hb50u hu51u hn52u => ?_
  have ha53u := (At.setF (At.up (At.up ha33u s40u (Ne.symm (ne_od hi0 rfl)) nc0) s48u (Nat.ne_of_beq_eq_false rfl) nc0) 1 rfl (S26u1 _ _) hu51u (by decide) (by decide) hn52u)
  have hl54u := hu51u.1.trans hl34u
  refine EW.seq ?_
  refine EW.region (by kernel_rfl) ?_
  refine EWL.op rfl ?_
  refine s_mv ?_
  refine EWL.op rfl ?_
  obtain ⟨r55u, h56u, hF0⟩ := bnd hF0
  refine s_cf I k48 rfl (ref01uIn_Num_ok (zle hZ rfl rfl) (.inl z0) I.l (Blk.up s48u (ne_od hi0 rfl) hb43u) hl44u (At.up ha45u s48u (Nat.ne_of_beq_eq_false rfl) nc0) (le_b rfl hi0) (.inl zi0) h56u) (at_in (.inl rfl)) fun g59u v57u s60u I p58u => ?_
  obtain ⟨p58u, o61u⟩ := p58u
  obtain ⟨L62u, hb63u, hl64u, ha65u⟩ := o61u
  obtain rfl := p58u
  refine EWL.op rfl ?_
  refine s_fa f26u2 rfl ?_
  refine EWL.opn rfl ?_
  have m66u : (kInt .u64).M g59u 0 r55u.1 _ := rfl
  refine s_stK (kd := (kInt .u64)) I t23 rfl rfl m66u rfl (Blk.up s60u (Ne.symm (ne_od hi0 rfl)) hb50u) (ble_ hl54u rfl) (by decide) nc0 (zpv rfl) fun g67u L69u s68u I hb70u hu71u hn72u => ?_
  have ha73u := (At.setF (At.up (At.up ha53u s60u (Ne.symm (ne_od hi0 rfl)) nc0) s68u (Nat.ne_of_beq_eq_false rfl) nc0) 2 rfl (S26u2 _ _) hu71u (by decide) (by decide) hn72u)
  have hl74u := hu71u.1.trans hl54u
  refine EW.seq ?_
  refine EW.region (by kernel_rfl) ?_
  refine EWL.op rfl ?_
  refine s_mv ?_
  refine EWL.op rfl ?_
  obtain ⟨r75u, h76u, hF0⟩ := bnd hF0
  refine s_cf I k63 rfl (ref01uIn_Sum_ok (zle hZ rfl rfl) (.inl z0) I.l (Blk.up s68u (ne_od hi0 rfl) hb63u) hl64u (At.up ha65u s68u (Nat.ne_of_beq_eq_false rfl) nc0) (le_b rfl hi0) (.inl zi0) h76u) (at_in (.inl rfl)) fun g79u v77u s80u I p78u => ?_
  obtain ⟨p78u, o81u⟩ := p78u
  obtain ⟨L82u, hb83u, hl84u, ha85u⟩ := o81u
  obtain ⟨cs86u, rfl, m87u⟩ := p78u
  refine EWL.op rfl ?_
  refine s_fa f26u3 rfl ?_
  refine EWL.opn rfl ?_
  have m88u : (kNums .u8 32).M g79u 0 r75u.1 _ := m87u
  refine s_stK (kd := (kNums .u8 32)) I t24 rfl rfl m88u rfl (Blk.up s80u (Ne.symm (ne_od hi0 rfl)) hb70u) (ble_ hl74u rfl) (by decide) nc0 (zpv rfl) fun g89u L91u s90u I hb92u hu93u hn94u => ?_
  have ha95u := (At.setF (At.up (At.up ha73u s80u (Ne.symm (ne_od hi0 rfl)) nc0) s90u (Nat.ne_of_beq_eq_false rfl) nc0) 3 rfl (S26u3 _ _) hu93u (by decide) (by decide) hn94u)
  have hl96u := hu93u.1.trans hl74u
  refine EW.seq ?_
  refine EW.region (by kernel_rfl) ?_
  refine EWL.op rfl ?_
  refine s_mv ?_
  refine EWL.op rfl ?_
  obtain ⟨r97u, h98u, hF0⟩ := bnd hF0
  refine s_cf I k48 rfl (ref01uIn_Num_ok (zle hZ rfl rfl) (.inl z0) I.l (Blk.up s90u (ne_od hi0 rfl) hb83u) hl84u (At.up ha85u s90u (Nat.ne_of_beq_eq_false rfl) nc0) (le_b rfl hi0) (.inl zi0) h98u) (at_in (.inl rfl)) fun g101u v99u s102u I p100u => ?_
  obtain ⟨p100u, o103u⟩ := p100u
  obtain ⟨L104u, hb105u, hl106u, ha107u⟩ := o103u
  obtain rfl := p100u
  refine EWL.op rfl ?_
  refine s_fa f26u4 rfl ?_
  refine EWL.opn rfl ?_
  have m108u : (kInt .u64).M g101u 0 r97u.1 _ := rfl
  refine s_stK (kd := (kInt .u64)) I t23 rfl rfl m108u rfl (Blk.up s102u (Ne.symm (ne_od hi0 rfl)) hb92u) (ble_ hl96u rfl) (by decide) nc0 (zpv rfl) fun g109u L111u s110u I hb112u hu113u hn114u => ?_
  have ha115u := (At.setF (At.up (At.up ha95u s102u (Ne.symm (ne_od hi0 rfl)) nc0) s110u (Nat.ne_of_beq_eq_false rfl) nc0) 4 rfl (S26u4 _ _) hu113u (by decide) (by decide) hn114u)
  have hl116u := hu113u.1.trans hl96u
  refine EW.seqJ (fun ρ w => ∃ (g117u : GW) (L121u : List Value) (x125u : ref01uIn) (L127u : List Value) (L132u : List Value), w = g117u.w ∧ Inv (or_ (at_ i0) (iv 3700 3800)) (or_ Z (iv 3700 3800)) g0 g117u ∧ ref13uTakeCond_j1 r15u r35u r55u r75u r97u x125u = some r ∧ ρ 2 = .pointer (some ⟨b1u, 0, none⟩) ∧ ρ 3 = .pointer (some ⟨b8u, 0, none⟩) ∧ Blk g117u ba0 i0 94 L121u ∧ L121u.length = 3 ∧ At k_ref01uIn g117u 0 x125u L121u 0 ∧ Blk g117u b1u 3701 26 L127u ∧ L127u.length = 36 ∧ At k_ref10uCond g117u 0 ref10uCond.zero L127u 0 ∧ Blk g117u b8u 3702 26 L132u ∧ L132u.length = 36 ∧ At k_ref10uCond g117u 0 ({ id := r15u.1, by_ := (IntKind.i64.wrap r35u.1), amount := r55u.1, hash := r75u.1, expiry := r97u.1 } : ref10uCond) L132u 0) ?_ ?_
  · rintro ρ w ⟨g117u, L121u, x125u, L127u, L132u, rfl, I, hF0, hr118u, hr119u, hb122u, hl124u, ha123u, hb128u, hl130u, ha129u, hb133u, hl135u, ha134u⟩
    refine EW.re (up1 (up1 rfl hr118u) hr119u) ?_
    unfold ref13uTakeCond_j1 at hF0
    refine EW.seq ?_
    refine EW.region (by kernel_rfl) ?_
    refine EWL.op rfl ?_
    refine s_ldK t26 rfl (Blk.cells hb133u) ha134u rfl rfl fun cs136u m137u => ?_
    refine EWL.opn rfl ?_
    have m138u : k_ref10uCond.M g117u 0 ({ id := r15u.1, by_ := (IntKind.i64.wrap r35u.1), amount := r55u.1, hash := r75u.1, expiry := r97u.1 } : ref10uCond) _ := m137u
    refine s_stK (kd := k_ref10uCond) I t26 rfl rfl m138u rfl hb128u (ble_ hl130u rfl) (by decide) nc0 (zpv rfl) fun g139u L141u s140u I hb142u hu143u hn144u => ?_
    have ha145u := hn144u
    have hl146u := hu143u.1.trans hl130u
    refine EW.ret ?_
    obtain rfl := som hF0
    refine endsC (.inl rfl) rfl (run_lvA t26 (Blk.cells hb142u) (At.fits ha145u (by decide))) ?_
    exact ret_ (g := g139u) I lo hZ z0 rfl (And.intro ⟨_, rfl, Kd.upK rfl (Stp.rc g139u 3700 3800 0) fz ha145u⟩ ⟨_, Blk.up (Stp.rc g139u 3700 3800 0) (iv_o hi0) (Blk.up s140u (ne_od hi0 rfl) hb122u), hl124u, At.up (At.up ha123u s140u (Nat.ne_of_beq_eq_false rfl) nc0) (Stp.rc g139u 3700 3800 0) fz nc0⟩)
  · refine EW.seq ?_
    refine EW.region (by kernel_rfl) ?_
    refine EWL.op rfl ?_
    refine s_fa f26u1 rfl ?_
    refine EWL.op rfl ?_
    refine s_ldS t3 rfl (Blk.cells hb112u) (At.fld ha115u 1 rfl) ?_
    refine EWL.op rfl ?_
    refine s_gtr rfl rfl ?_
    refine EWL.op rfl ?_
    refine s_mv ?_
    rcases Bool.eq_false_or_eq_true (decide (1 < (IntKind.i64.wrap r35u.1))) with hb147u | hb147u
    · replace hF0 := bif_t hb147u hF0
      refine EWL.op (want_of rfl rfl (beq_ hb147u)) ?_
      refine s_mv ?_
      refine EWL.op (want_of rfl rfl (beq_ hb147u)) ?_
      refine s_nil rfl ?_
      refine EWL.op (want_of rfl rfl (beq_ hb147u)) ?_
      refine s_fa f94u2 rfl ?_
      refine EWL.op (want_of rfl rfl (beq_ hb147u)) ?_
      refine s_ldS t3 rfl (Blk.cells (Blk.up s110u (ne_od hi0 rfl) hb105u)) (At.fld (At.up ha107u s110u (Nat.ne_of_beq_eq_false rfl) nc0) 2 rfl) ?_
      refine EWL.op (want_of rfl rfl (beq_ hb147u)) ?_
      refine s_eql rfl rfl ?_
      refine EWL.op rfl ?_
      refine s_pT rfl hb147u ?_
      refine EW.condS rfl rfl (fun hb148u => ?_) (fun hb148u => ?_)
      · replace hF0 := bif_t hb148u hF0
        refine EW.region (by kernel_rfl) ?_
        refine EWL.op rfl ?_
        refine s_mv ?_
        refine EWL.op rfl ?_
        refine s_nil rfl ?_
        refine EWL.op rfl ?_
        refine s_fa f94u2 rfl ?_
        refine EWL.opn rfl ?_
        have m149u : (kInt .i64).M g109u 0 10 _ := rfl
        refine s_stK (kd := (kInt .i64)) I t3 rfl rfl m149u rfl (Blk.up s110u (ne_od hi0 rfl) hb105u) (ble_ hl106u rfl) (ne_od hi0 rfl) nc0 (.inl rfl) fun g150u L152u s151u I hb153u hu154u hn155u => ?_
        have ha156u := (At.setF (At.up (At.up ha107u s110u (Nat.ne_of_beq_eq_false rfl) nc0) s151u (Ne.symm (ne_od hi0 rfl)) nc0) 2 rfl (S94u2 _ _) hu154u (by decide) (by decide) hn155u)
        have hl157u := hu154u.1.trans hl106u
        exact ⟨g150u, _, { r97u.2 with bad := 10 }, _, _, rfl, I, hF0, rfl, rfl, hb153u, hl157u, ha156u, (Blk.up s151u (Ne.symm (ne_od hi0 rfl)) (Blk.up s110u (Nat.ne_of_beq_eq_false rfl) (Blk.up s102u (Ne.symm (ne_od hi0 rfl)) (Blk.up s90u (Nat.ne_of_beq_eq_false rfl) (Blk.up s80u (Ne.symm (ne_od hi0 rfl)) (Blk.up s68u (Nat.ne_of_beq_eq_false rfl) (Blk.up s60u (Ne.symm (ne_od hi0 rfl)) (Blk.up s48u (Nat.ne_of_beq_eq_false rfl) (Blk.up s40u (Ne.symm (ne_od hi0 rfl)) (Blk.up s28u (Nat.ne_of_beq_eq_false rfl) (Blk.up s20u (Ne.symm (ne_od hi0 rfl)) (Blk.up s14u no_ hb2u)))))))))))), hl4u, (At.up (At.up (At.up (At.up (At.up (At.up (At.up (At.up (At.up (At.up (At.up (At.up ha3u s14u no_ nc0) s20u (Ne.symm (ne_od hi0 rfl)) nc0) s28u (Nat.ne_of_beq_eq_false rfl) nc0) s40u (Ne.symm (ne_od hi0 rfl)) nc0) s48u (Nat.ne_of_beq_eq_false rfl) nc0) s60u (Ne.symm (ne_od hi0 rfl)) nc0) s68u (Nat.ne_of_beq_eq_false rfl) nc0) s80u (Ne.symm (ne_od hi0 rfl)) nc0) s90u (Nat.ne_of_beq_eq_false rfl) nc0) s102u (Ne.symm (ne_od hi0 rfl)) nc0) s110u (Nat.ne_of_beq_eq_false rfl) nc0) s151u (Ne.symm (ne_od hi0 rfl)) nc0), (Blk.up s151u (Ne.symm (ne_od hi0 rfl)) hb112u), hl116u, (At.up ha115u s151u (Ne.symm (ne_od hi0 rfl)) nc0)⟩
      · replace hF0 := bif_f hb148u hF0
        refine EW.skip ?_
        exact ⟨g109u, _, r97u.2, _, _, rfl, I, hF0, rfl, rfl, (Blk.up s110u (ne_od hi0 rfl) hb105u), hl106u, (At.up ha107u s110u (Nat.ne_of_beq_eq_false rfl) nc0), (Blk.up s110u (Nat.ne_of_beq_eq_false rfl) (Blk.up s102u (Ne.symm (ne_od hi0 rfl)) (Blk.up s90u (Nat.ne_of_beq_eq_false rfl) (Blk.up s80u (Ne.symm (ne_od hi0 rfl)) (Blk.up s68u (Nat.ne_of_beq_eq_false rfl) (Blk.up s60u (Ne.symm (ne_od hi0 rfl)) (Blk.up s48u (Nat.ne_of_beq_eq_false rfl) (Blk.up s40u (Ne.symm (ne_od hi0 rfl)) (Blk.up s28u (Nat.ne_of_beq_eq_false rfl) (Blk.up s20u (Ne.symm (ne_od hi0 rfl)) (Blk.up s14u no_ hb2u))))))))))), hl4u, (At.up (At.up (At.up (At.up (At.up (At.up (At.up (At.up (At.up (At.up (At.up ha3u s14u no_ nc0) s20u (Ne.symm (ne_od hi0 rfl)) nc0) s28u (Nat.ne_of_beq_eq_false rfl) nc0) s40u (Ne.symm (ne_od hi0 rfl)) nc0) s48u (Nat.ne_of_beq_eq_false rfl) nc0) s60u (Ne.symm (ne_od hi0 rfl)) nc0) s68u (Nat.ne_of_beq_eq_false rfl) nc0) s80u (Ne.symm (ne_od hi0 rfl)) nc0) s90u (Nat.ne_of_beq_eq_false rfl) nc0) s102u (Ne.symm (ne_od hi0 rfl)) nc0) s110u (Nat.ne_of_beq_eq_false rfl) nc0), hb112u, hl116u, ha115u⟩
    · replace hF0 := bif_f hb147u hF0
      refine EWL.pass (want_of rfl rfl (beq_ hb147u)) ?_
      refine EWL.pass (want_of rfl rfl (beq_ hb147u)) ?_
      refine EWL.pass (want_of rfl rfl (beq_ hb147u)) ?_
      refine EWL.pass (want_of rfl rfl (beq_ hb147u)) ?_
      refine EWL.pass (want_of rfl rfl (beq_ hb147u)) ?_
      refine EWL.op rfl ?_
      refine s_pF rfl hb147u ?_
      refine EW.condS rfl rfl (fun hb => (tf_ hb rfl).elim) (fun hb => ?_)
      refine EW.skip ?_
      exact ⟨g109u, _, r97u.2, _, _, rfl, I, hF0, rfl, rfl, (Blk.up s110u (ne_od hi0 rfl) hb105u), hl106u, (At.up ha107u s110u (Nat.ne_of_beq_eq_false rfl) nc0), (Blk.up s110u (Nat.ne_of_beq_eq_false rfl) (Blk.up s102u (Ne.symm (ne_od hi0 rfl)) (Blk.up s90u (Nat.ne_of_beq_eq_false rfl) (Blk.up s80u (Ne.symm (ne_od hi0 rfl)) (Blk.up s68u (Nat.ne_of_beq_eq_false rfl) (Blk.up s60u (Ne.symm (ne_od hi0 rfl)) (Blk.up s48u (Nat.ne_of_beq_eq_false rfl) (Blk.up s40u (Ne.symm (ne_od hi0 rfl)) (Blk.up s28u (Nat.ne_of_beq_eq_false rfl) (Blk.up s20u (Ne.symm (ne_od hi0 rfl)) (Blk.up s14u no_ hb2u))))))))))), hl4u, (At.up (At.up (At.up (At.up (At.up (At.up (At.up (At.up (At.up (At.up (At.up ha3u s14u no_ nc0) s20u (Ne.symm (ne_od hi0 rfl)) nc0) s28u (Nat.ne_of_beq_eq_false rfl) nc0) s40u (Ne.symm (ne_od hi0 rfl)) nc0) s48u (Nat.ne_of_beq_eq_false rfl) nc0) s60u (Ne.symm (ne_od hi0 rfl)) nc0) s68u (Nat.ne_of_beq_eq_false rfl) nc0) s80u (Ne.symm (ne_od hi0 rfl)) nc0) s90u (Nat.ne_of_beq_eq_false rfl) nc0) s102u (Ne.symm (ne_od hi0 rfl)) nc0) s110u (Nat.ne_of_beq_eq_false rfl) nc0), hb112u, hl116u, ha115u⟩
theorem ref13uTakeOp_ok {g0 : GW} {Z : Nat → Prop} (hZ : ∀ c, Z c → c = 0 ∨ 3900 ≤ c) (z0 : Z 0) (lo : Lo Z g0)  {a0 : ref01uIn} {La0 : List Value} {ba0 i0 : Nat} (hba0 : Blk g0 ba0 i0 94 La0) (hla0 : La0.length = k_ref01uIn.sz) (ma0 : At k_ref01uIn g0 0 a0 La0 0) (hi0 : 3900 ≤ i0) (zi0 : Z i0) {r : (ref12uOp × ref01uIn)} (hF0 : ref13uTakeOp a0 = some r) :
    Calls P 26 [.pointer (some ⟨ba0, 0, none⟩)].toArray g0.w (Rets (RR (at_ i0) Z g0 (PAnd (PAg k_ref12uOp r.1) (fun h => Ob0 94 k_ref01uIn h i0 ba0 r.2)))) := by
  refine calls_of Go.Proofs.Try.func26 rfl (Nat.le_of_ble_eq_true rfl) (by kernel_rfl) ?_
  have I : Inv (or_ (at_ i0) (iv 3800 3900)) (or_ Z (iv 3800 3900)) g0 g0 := Inv.start (lo.mono (fun _ h => .inl h))
  have fz : ¬ iv 3800 3900 0 := nz0 rfl
  unfold ref13uTakeOp at hF0
  refine EW.seq ?_
  refine EW.region (by kernel_rfl) ?_
  refine EWL.op rfl ?_
  refine s_newK k_ref12uOp 3801 I (zpv rfl) z28 rfl fun g6u b1u L5u s7u I hb2u hl4u ha3u => ?_
  refine EW.seq ?_
  refine EW.region (by kernel_rfl) ?_
  refine EWL.op rfl ?_
  refine s_newK k_ref12uOp 3802 I (zpv rfl) z28 rfl fun g13u b8u L12u s14u I hb9u hl11u ha10u => ?_
  refine EW.seq ?_
  refine EW.region (by kernel_rfl) ?_
  refine EWL.op rfl ?_
  refine s_mv ?_
  refine EWL.op rfl ?_
  obtain ⟨r15u, h16u, hF0⟩ := bnd hF0
  refine s_cf I k48 rfl (ref01uIn_Num_ok (zle hZ rfl rfl) (.inl z0) I.l (Blk.up s14u no_ (Blk.up s7u no_ hba0)) hla0 (At.up (At.up ma0 s7u no_ nc0) s14u no_ nc0) (le_b rfl hi0) (.inl zi0) h16u) (at_in (.inl rfl)) fun g19u v17u s20u I p18u => ?_
  obtain ⟨p18u, o21u⟩ := p18u
  obtain ⟨L22u, hb23u, hl24u, ha25u⟩ := o21u
  obtain rfl := p18u
  refine EWL.op rfl ?_
  refine s_cvt u23 n3 rfl ?_
  refine EWL.op rfl ?_
  refine s_fa f28u0 rfl ?_
  refine EWL.opn rfl ?_
  have m26u : (kInt .i64).M g19u 0 (IntKind.i64.wrap r15u.1) _ := rfl
  refine s_stK (kd := (kInt .i64)) I t3 rfl rfl m26u rfl (Blk.up s20u (Ne.symm (ne_od hi0 rfl)) hb9u) (ble_ hl11u rfl) (by decide) nc0 (zpv rfl) fun g27u L29u s28u I hb30u hu31u hn32u => ?_
  have ha33u := (At.setF (At.up (At.up ha10u s20u (Ne.symm (ne_od hi0 rfl)) nc0) s28u (Nat.ne_of_beq_eq_false rfl) nc0) 0 rfl (S28u0 _ _) hu31u (by decide) (by decide) hn32u)
  have hl34u := hu31u.1.trans hl11u
  refine EW.seq ?_
  refine EW.region (by kernel_rfl) ?_
  refine EWL.op rfl ?_
  refine s_mv ?_
  refine EWL.op rfl ?_
  obtain ⟨r35u, h36u, hF0⟩ := bnd hF0
  refine s_cf I k48 rfl (ref01uIn_Num_ok (zle hZ rfl rfl) (.inl z0) I.l (Blk.up s28u (ne_od hi0 rfl) hb23u) hl24u (At.up ha25u s28u (Nat.ne_of_beq_eq_false rfl) nc0) (le_b rfl hi0) (.inl zi0) h36u) (at_in (.inl rfl)) fun g39u v37u s40u I p38u => ?_
  obtain ⟨p38u, o41u⟩ := p38u
  obtain ⟨L42u, hb43u, hl44u, ha45u⟩ := o41u
  obtain rfl := p38u
  refine EWL.op rfl ?_
  refine s_fa f28u1 rfl ?_
  refine EWL.opn rfl ?_
  have m46u : (kInt .u64).M g39u 0 r35u.1 _ := rfl
  refine s_stK (kd := (kInt .u64)) I t23 rfl rfl m46u rfl (Blk.up s40u (Ne.symm (ne_od hi0 rfl)) hb30u) (ble_ hl34u rfl) (by decide) nc0 (zpv rfl) fun g47u L49u s48u I hb50u hu51u hn52u => ?_
  have ha53u := (At.setF (At.up (At.up ha33u s40u (Ne.symm (ne_od hi0 rfl)) nc0) s48u (Nat.ne_of_beq_eq_false rfl) nc0) 1 rfl (S28u1 _ _) hu51u (by decide) (by decide) hn52u)
  have hl54u := hu51u.1.trans hl34u
  refine EW.seq ?_
  refine EW.region (by kernel_rfl) ?_
  refine EWL.op rfl ?_
  refine s_mv ?_
  refine EWL.op rfl ?_
  obtain ⟨r55u, h56u, hF0⟩ := bnd hF0
  refine s_cf I k48 rfl (ref01uIn_Num_ok (zle hZ rfl rfl) (.inl z0) I.l (Blk.up s48u (ne_od hi0 rfl) hb43u) hl44u (At.up ha45u s48u (Nat.ne_of_beq_eq_false rfl) nc0) (le_b rfl hi0) (.inl zi0) h56u) (at_in (.inl rfl)) fun g59u v57u s60u I p58u => ?_
  obtain ⟨p58u, o61u⟩ := p58u
  obtain ⟨L62u, hb63u, hl64u, ha65u⟩ := o61u
  obtain rfl := p58u
  refine EWL.op rfl ?_
  refine s_fa f28u3 rfl ?_
  refine EWL.opn rfl ?_
  have m66u : (kInt .u64).M g59u 0 r55u.1 _ := rfl
  refine s_stK (kd := (kInt .u64)) I t23 rfl rfl m66u rfl (Blk.up s60u (Ne.symm (ne_od hi0 rfl)) hb50u) (ble_ hl54u rfl) (by decide) nc0 (zpv rfl) fun g67u L69u s68u I hb70u hu71u hn72u => ?_
  have ha73u := (At.setF (At.up (At.up ha53u s60u (Ne.symm (ne_od hi0 rfl)) nc0) s68u (Nat.ne_of_beq_eq_false rfl) nc0) 3 rfl (S28u3 _ _) hu71u (by decide) (by decide) hn72u)
  have hl74u := hu71u.1.trans hl54u
  refine EW.seq ?_
  refine EW.region (by kernel_rfl) ?_
  refine EWL.op rfl ?_
  refine s_mv ?_
  refine EWL.op rfl ?_
  obtain ⟨r75u, h76u, hF0⟩ := bnd hF0
  refine s_cf I k49 rfl (ref13uTakeCond_ok (zle hZ rfl rfl) (.inl z0) I.l (Blk.up s68u (ne_od hi0 rfl) hb63u) hl64u (At.up ha65u s68u (Nat.ne_of_beq_eq_false rfl) nc0) (le_b rfl hi0) (.inl zi0) h76u) (at_in (.inl rfl)) fun g79u v77u s80u I p78u => ?_
  obtain ⟨p78u, o81u⟩ := p78u
  obtain ⟨L82u, hb83u, hl84u, ha85u⟩ := o81u
  obtain ⟨cs86u, rfl, m87u⟩ := p78u
  refine EWL.op rfl ?_
  refine s_fa f28u2 rfl ?_
  refine EWL.opn rfl ?_
  have m88u : k_ref10uCond.M g79u 0 r75u.1 _ := m87u
  refine s_stK (kd := k_ref10uCond) I t26 rfl rfl m88u rfl (Blk.up s80u (Ne.symm (ne_od hi0 rfl)) hb70u) (ble_ hl74u rfl) (by decide) nc0 (zpv rfl) fun g89u L91u s90u I hb92u hu93u hn94u => ?_
  have ha95u := (At.setF (At.up (At.up ha73u s80u (Ne.symm (ne_od hi0 rfl)) nc0) s90u (Nat.ne_of_beq_eq_false rfl) nc0) 2 rfl (S28u2 _ _) hu93u (by decide) (by decide) hn94u)
  have hl96u := hu93u.1.trans hl74u
  refine EW.seq ?_
  refine EW.seq ?_
  refine EW.region (by kernel_rfl) ?_
  refine EWL.op rfl ?_
  refine s_mv ?_
  refine EWL.op rfl ?_
  refine s_nil rfl ?_
  refine EWL.op rfl ?_
  refine s_fa f94u2 rfl ?_
  refine EWL.op rfl ?_
  refine s_ldS t3 rfl (Blk.cells (Blk.up s90u (ne_od hi0 rfl) hb83u)) (At.fld (At.up ha85u s90u (Nat.ne_of_beq_eq_false rfl) nc0) 2 rfl) ?_
  refine EWL.op rfl ?_
  refine s_neq rfl rfl ?_
  refine EW.condS rfl rfl (fun hb97u => ?_) (fun hb97u => ?_)
  · replace hF0 := bif_t hb97u hF0
    refine EW.seq ?_
    refine EW.region (by kernel_rfl) ?_
    refine EWL.op rfl ?_
    refine s_bldK (kd := k_ref12uOp) (r := ({ kind := 0, amount := 0, cond := ref10uCond.zero, id := 0 } : ref12uOp)) (g := g89u) zs28 Z28 l28 P28 (trivial) (SM.flat (fs := fs_ref12uOp) tl_ref12uOp (allc rfl (allc rfl (allc (Kd.zk (i := 0) k_ref10uCond rfl) (allc rfl alln))))) fun cs98u m99u => ?_
    refine EWL.opn rfl ?_
    have m100u : k_ref12uOp.M g89u 0 ({ kind := 0, amount := 0, cond := ref10uCond.zero, id := 0 } : ref12uOp) _ := m99u
    refine s_stK (kd := k_ref12uOp) I t28 rfl rfl m100u rfl (Blk.up s90u (Nat.ne_of_beq_eq_false rfl) (Blk.up s80u (Ne.symm (ne_od hi0 rfl)) (Blk.up s68u (Nat.ne_of_beq_eq_false rfl) (Blk.up s60u (Ne.symm (ne_od hi0 rfl)) (Blk.up s48u (Nat.ne_of_beq_eq_false rfl) (Blk.up s40u (Ne.symm (ne_od hi0 rfl)) (Blk.up s28u (Nat.ne_of_beq_eq_false rfl) (Blk.up s20u (Ne.symm (ne_od hi0 rfl)) (Blk.up s14u no_ hb2u))))))))) (ble_ hl4u rfl) (by decide) nc0 (zpv rfl) fun g101u L103u s102u I hb104u hu105u hn106u => ?_
    have ha107u := hn106u
    have hl108u := hu105u.1.trans hl4u
    refine EW.ret ?_
    obtain rfl := som hF0
    refine endsC (.inl rfl) rfl (run_lvA t28 (Blk.cells hb104u) (At.fits ha107u (by decide))) ?_
    exact ret_ (g := g101u) I lo hZ z0 rfl (And.intro ⟨_, rfl, Kd.upK rfl (Stp.rc g101u 3800 3900 0) fz ha107u⟩ ⟨_, Blk.up (Stp.rc g101u 3800 3900 0) (iv_o hi0) (Blk.up s102u (ne_od hi0 rfl) (Blk.up s90u (ne_od hi0 rfl) hb83u)), hl84u, At.up (At.up (At.up ha85u s90u (Nat.ne_of_beq_eq_false rfl) nc0) s102u (Nat.ne_of_beq_eq_false rfl) nc0) (Stp.rc g101u 3800 3900 0) fz nc0⟩)
  · replace hF0 := bif_f hb97u hF0
    refine EW.skip ?_
    refine EW.seq ?_
    refine EW.region (by kernel_rfl) ?_
    refine EWL.op rfl ?_
    refine s_ldK t28 rfl (Blk.cells hb92u) ha95u rfl rfl fun cs109u m110u => ?_
    refine EWL.opn rfl ?_
    have m111u : k_ref12uOp.M g89u 0 ({ kind := (IntKind.i64.wrap r15u.1), amount := r35u.1, cond := r75u.1, id := r55u.1 } : ref12uOp) _ := m110u
    refine s_stK (kd := k_ref12uOp) I t28 rfl rfl m111u rfl (Blk.up s90u (Nat.ne_of_beq_eq_false rfl) (Blk.up s80u (Ne.symm (ne_od hi0 rfl)) (Blk.up s68u (Nat.ne_of_beq_eq_false rfl) (Blk.up s60u (Ne.symm (ne_od hi0 rfl)) (Blk.up s48u (Nat.ne_of_beq_eq_false rfl) (Blk.up s40u (Ne.symm (ne_od hi0 rfl)) (Blk.up s28u (Nat.ne_of_beq_eq_false rfl) (Blk.up s20u (Ne.symm (ne_od hi0 rfl)) (Blk.up s14u no_ hb2u))))))))) (ble_ hl4u rfl) (by decide) nc0 (zpv rfl) fun g112u L114u s113u I hb115u hu116u hn117u => ?_
    have ha118u := hn117u
    have hl119u := hu116u.1.trans hl4u
    refine EW.ret ?_
    obtain rfl := som hF0
    refine endsC (.inl rfl) rfl (run_lvA t28 (Blk.cells hb115u) (At.fits ha118u (by decide))) ?_
    exact ret_ (g := g112u) I lo hZ z0 rfl (And.intro ⟨_, rfl, Kd.upK rfl (Stp.rc g112u 3800 3900 0) fz ha118u⟩ ⟨_, Blk.up (Stp.rc g112u 3800 3900 0) (iv_o hi0) (Blk.up s113u (ne_od hi0 rfl) (Blk.up s90u (ne_od hi0 rfl) hb83u)), hl84u, At.up (At.up (At.up ha85u s90u (Nat.ne_of_beq_eq_false rfl) nc0) s113u (Nat.ne_of_beq_eq_false rfl) nc0) (Stp.rc g112u 3800 3900 0) fz nc0⟩)
theorem ref18uTakeTrail_ok {g0 : GW} {Z : Nat → Prop} (hZ : ∀ c, Z c → c = 0 ∨ 4000 ≤ c) (z0 : Z 0) (lo : Lo Z g0) (rc0 : Nat) (zrc0 : Z rc0) {a0 : ref01uIn} {La0 : List Value} {ba0 i0 : Nat} (hba0 : Blk g0 ba0 i0 94 La0) (hla0 : La0.length = k_ref01uIn.sz) (ma0 : At k_ref01uIn g0 0 a0 La0 0) (hi0 : 4000 ≤ i0) (zi0 : Z i0) {r : ((List ref18uHop) × ref01uIn)} (hF0 : ref18uTakeTrail a0 = some r) :
    Calls P 27 [.pointer (some ⟨ba0, 0, none⟩)].toArray g0.w (Rets (RR (at_ i0) Z g0 (PAnd ((fun h v => Row 99 k_ref18uHop h rc0 r.1 v)) (fun h => Ob0 94 k_ref01uIn h i0 ba0 r.2)))) := by
  refine calls_of Go.Proofs.Try.func27 rfl (Nat.le_of_ble_eq_true rfl) (by kernel_rfl) ?_
  have I : Inv (or_ (at_ i0) (iv 3900 4000)) (or_ Z (iv 3900 4000)) g0 g0 := Inv.start (lo.mono (fun _ h => .inl h))
  have fz : ¬ iv 3900 4000 0 := nz0 rfl
  unfold ref18uTakeTrail at hF0
  refine EW.seq ?_
  refine EW.region (by kernel_rfl) ?_
  refine EWL.op rfl ?_
  refine s_as ?_
  refine EW.seq ?_
  refine EW.region (by kernel_rfl) ?_
  refine EWL.op rfl ?_
  refine s_as ?_
  refine EW.seq ?_
  refine EW.region (by kernel_rfl) ?_
  refine EWL.op rfl ?_
  refine s_mv ?_
  refine EWL.op rfl ?_
  obtain ⟨r1u, h2u, hF0⟩ := bnd hF0
  refine s_cf I k25 rfl (ref01uIn_Many_ok (zle hZ rfl rfl) (.inl z0) I.l hba0 hla0 ma0 (le_b rfl hi0) (.inl zi0) h2u) (at_in (.inl rfl)) fun g5u v3u s6u I p4u => ?_
  obtain ⟨p4u, o7u⟩ := p4u
  obtain ⟨L8u, hb9u, hl10u, ha11u⟩ := o7u
  obtain rfl := p4u
  refine EWL.op rfl ?_
  refine s_as ?_
  refine EW.seq ?_
  refine EW.seq ?_
  refine EW.region (by kernel_rfl) ?_
  refine EWL.op rfl ?_
  refine s_as ?_
  refine EW.block ?_
  refine EW.loop (b := (ref18uTakeTrail_b1 r1u)) (fun (s : ((List ref18uHop) × Int × ref01uIn)) ρ w => ∃ (g17u : GW) (x20u : (List ref18uHop)) (v21u : Value) (x25u : Int) (L27u : List Value) (x31u : ref01uIn), w = g17u.w ∧ Inv (or_ (at_ i0) (iv 3900 4000)) (or_ Z (iv 3900 4000)) g0 g17u ∧ (x20u, x25u, x31u) = s ∧ ρ 0 = .pointer (some ⟨ba0, 0, none⟩) ∧ ρ 3 = v21u ∧ Row 99 k_ref18uHop g17u 3903 x20u v21u ∧ ρ 4 = .int .i64 r1u.1 ∧ ρ 5 = .int .i64 x25u ∧ Blk g17u ba0 i0 94 L27u ∧ L27u.length = 3 ∧ At k_ref01uIn g17u 0 x31u L27u 0) hF0 ⟨g5u, [], _, 0, _, r1u.2, rfl, I, rfl, rfl, rfl, Row.none, rfl, rfl, hb9u, hl10u, ha11u⟩ ?_
  · rintro s_ o32u ρ w ⟨g17u, x20u, v21u, x25u, L27u, x31u, rfl, I, eo, hr18u, hr19u, m22u, hr23u, hr24u, hb28u, hl30u, ha29u⟩ hF1 hr1
    subst eo
    unfold ref18uTakeTrail_b1 at hF1
    refine EW.re (up1 (up1 (up1 (up1 rfl hr18u) hr19u) hr23u) hr24u) ?_
    refine EW.seq ?_
    refine EW.seq ?_
    refine EW.region (by kernel_rfl) ?_
    refine EWL.op rfl ?_
    refine s_mv ?_
    refine EWL.op rfl ?_
    refine s_mv ?_
    refine EWL.op rfl ?_
    refine s_lss rfl rfl ?_
    refine EW.condS rfl rfl (fun hb33u => ?_) (fun hb33u => ?_)
    · replace hF1 := bif_t hb33u hF1
      refine EW.skip ?_
      refine EW.seq ?_
      refine EW.block ?_
      refine EW.seq ?_
      refine EW.region (by kernel_rfl) ?_
      refine EWL.op rfl ?_
      refine s_newK k_ref18uHop 3901 I (zpv rfl) z99 rfl fun g39u b34u L38u s40u I hb35u hl37u ha36u => ?_
      refine EW.seq ?_
      refine EW.region (by kernel_rfl) ?_
      refine EWL.op rfl ?_
      refine s_mv ?_
      refine EWL.op rfl ?_
      obtain ⟨r41u, h42u, hF1⟩ := bnd hF1
      refine s_cf I k48 rfl (ref01uIn_Num_ok (zle hZ rfl rfl) (.inl z0) I.l (Blk.up s40u no_ hb28u) hl30u (At.up ha29u s40u no_ nc0) (le_b rfl hi0) (.inl zi0) h42u) (at_in (.inl rfl)) fun g45u v43u s46u I p44u => ?_
      obtain ⟨p44u, o47u⟩ := p44u
      obtain ⟨L48u, hb49u, hl50u, ha51u⟩ := o47u
      obtain rfl := p44u
      refine EWL.op rfl ?_
      refine s_cvt u23 n65 rfl ?_
      refine EWL.op rfl ?_
      refine s_fa f99u0 rfl ?_
      refine EWL.opn rfl ?_
      have m52u : (kInt .u32).M g45u 0 (IntKind.u32.wrap r41u.1) _ := rfl
      refine s_stK (kd := (kInt .u32)) I t65 rfl rfl m52u rfl (Blk.up s46u (Ne.symm (ne_od hi0 rfl)) hb35u) (ble_ hl37u rfl) (by decide) nc0 (zpv rfl) fun g53u L55u s54u I hb56u hu57u hn58u => ?_
      have ha59u := (At.setF (At.up (At.up ha36u s46u (Ne.symm (ne_od hi0 rfl)) nc0) s54u (Nat.ne_of_beq_eq_false rfl) nc0) 0 rfl (S99u0 _ _) hu57u (by decide) (by decide) hn58u)
      have hl60u := hu57u.1.trans hl37u
      refine EW.seq ?_
      refine EW.region (by kernel_rfl) ?_
      refine EWL.op rfl ?_
      refine s_mv ?_
      refine EWL.op rfl ?_
      obtain ⟨r61u, h62u, hF1⟩ := bnd hF1
      refine s_cf I k48 rfl (ref01uIn_Num_ok (zle hZ rfl rfl) (.inl z0) I.l (Blk.up s54u (ne_od hi0 rfl) hb49u) hl50u (At.up ha51u s54u (Nat.ne_of_beq_eq_false rfl) nc0) (le_b rfl hi0) (.inl zi0) h62u) (at_in (.inl rfl)) fun g65u v63u s66u I p64u => ?_
      obtain ⟨p64u, o67u⟩ := p64u
      obtain ⟨L68u, hb69u, hl70u, ha71u⟩ := o67u
      obtain rfl := p64u
      refine EWL.op rfl ?_
      refine s_fa f99u1 rfl ?_
      refine EWL.opn rfl ?_
      have m72u : (kInt .u64).M g65u 0 r61u.1 _ := rfl
      refine s_stK (kd := (kInt .u64)) I t23 rfl rfl m72u rfl (Blk.up s66u (Ne.symm (ne_od hi0 rfl)) hb56u) (ble_ hl60u rfl) (by decide) nc0 (zpv rfl) fun g73u L75u s74u I hb76u hu77u hn78u => ?_
      have ha79u := (At.setF (At.up (At.up ha59u s66u (Ne.symm (ne_od hi0 rfl)) nc0) s74u (Nat.ne_of_beq_eq_false rfl) nc0) 1 rfl (S99u1 _ _) hu77u (by decide) (by decide) hn78u)
      have hl80u := hu77u.1.trans hl60u
      refine EW.seq ?_
      refine EW.region (by kernel_rfl) ?_
      refine EWL.op rfl ?_
      refine s_mv ?_
      refine EWL.op rfl ?_
      obtain ⟨r81u, h82u, hF1⟩ := bnd hF1
      refine s_cf I k48 rfl (ref01uIn_Num_ok (zle hZ rfl rfl) (.inl z0) I.l (Blk.up s74u (ne_od hi0 rfl) hb69u) hl70u (At.up ha71u s74u (Nat.ne_of_beq_eq_false rfl) nc0) (le_b rfl hi0) (.inl zi0) h82u) (at_in (.inl rfl)) fun g85u v83u s86u I p84u => ?_
      obtain ⟨p84u, o87u⟩ := p84u
      obtain ⟨L88u, hb89u, hl90u, ha91u⟩ := o87u
      obtain rfl := p84u
      refine EWL.op rfl ?_
      refine s_fa f99u2 rfl ?_
      refine EWL.opn rfl ?_
      have m92u : (kInt .u64).M g85u 0 r81u.1 _ := rfl
      refine s_stK (kd := (kInt .u64)) I t23 rfl rfl m92u rfl (Blk.up s86u (Ne.symm (ne_od hi0 rfl)) hb76u) (ble_ hl80u rfl) (by decide) nc0 (zpv rfl) fun g93u L95u s94u I hb96u hu97u hn98u => ?_
      have ha99u := (At.setF (At.up (At.up ha79u s86u (Ne.symm (ne_od hi0 rfl)) nc0) s94u (Nat.ne_of_beq_eq_false rfl) nc0) 2 rfl (S99u2 _ _) hu97u (by decide) (by decide) hn98u)
      have hl100u := hu97u.1.trans hl80u
      refine EW.region (by kernel_rfl) ?_
      refine EWL.op rfl ?_
      refine s_mv ?_
      refine EWL.op rfl ?_
      refine s_ldK t99 rfl (Blk.cells hb96u) ha99u rfl rfl fun cs101u m102u => ?_
      refine EWL.op rfl ?_
      refine s_bslK (kd := k_ref18uHop) (xs := ([({ channel := (IntKind.u32.wrap r41u.1), amount := r61u.1, id := r81u.1 } : ref18uHop)] : List ref18uHop)) 3902 I s29 t99 z99 rfl rfl (by decide) rfl (by decide) (And.intro (congrArg some (kl (d := k_ref18uHop) m102u).symm) (trivial)) (Seg.flat (d := k_ref18uHop) (g := g93u) (alls m102u alle)) rfl (zpv rfl) fun g105u v103u s106u I m104u => ?_
      refine EWL.op rfl ?_
      obtain ⟨l107u, h108u, hF1⟩ := bnd hF1
      refine s_app (kd := k_ref18uHop) I s29 rfl s29 t99 z99 rfl (Row.up rfl s106u no_ no_ (Row.up rfl s94u (Nat.ne_of_beq_eq_false rfl) (Nat.ne_of_beq_eq_false rfl) (Row.up rfl s86u (Ne.symm (ne_od hi0 rfl)) (Ne.symm (ne_od hi0 rfl)) (Row.up rfl s74u (Nat.ne_of_beq_eq_false rfl) (Nat.ne_of_beq_eq_false rfl) (Row.up rfl s66u (Ne.symm (ne_od hi0 rfl)) (Ne.symm (ne_od hi0 rfl)) (Row.up rfl s54u (Nat.ne_of_beq_eq_false rfl) (Nat.ne_of_beq_eq_false rfl) (Row.up rfl s46u (Ne.symm (ne_od hi0 rfl)) (Ne.symm (ne_od hi0 rfl)) (Row.up rfl s40u no_ no_ m22u)))))))) (Sl.rs (Row.sl m104u)) h108u (by decide) (zpv rfl) (zpv rfl) fun g111u v109u s112u I m110u => ?_
      refine EWL.op rfl ?_
      refine s_as ?_
      refine EW.region (by kernel_rfl) ?_
      refine EWL.op rfl ?_
      refine s_mv ?_
      refine EWL.op rfl ?_
      refine s_add rfl rfl ?_
      refine EWL.op rfl ?_
      refine s_as ?_
      exact ⟨_, (som hF1).symm, g111u, l107u, _, (IntKind.i64.wrap (x25u + 1)), _, r81u.2, rfl, I, rfl, rfl, rfl, m110u, rfl, rfl, (Blk.up s112u (ne_od hi0 rfl) (Blk.up s106u no_ (Blk.up s94u (ne_od hi0 rfl) hb89u))), hl90u, (At.up (At.up (At.up ha91u s94u (Nat.ne_of_beq_eq_false rfl) nc0) s106u no_ nc0) s112u (Nat.ne_of_beq_eq_false rfl) nc0)⟩
    · replace hF1 := bif_f hb33u hF1
      refine EW.exit ?_
      have hF0 := out_ hF1 hr1
      refine EW.seq ?_
      refine EW.seq ?_
      refine EW.region (by kernel_rfl) ?_
      refine EWL.op rfl ?_
      refine s_mv ?_
      refine EWL.op rfl ?_
      refine s_nil rfl ?_
      refine EWL.op rfl ?_
      refine s_fa f94u2 rfl ?_
      refine EWL.op rfl ?_
      refine s_ldS t3 rfl (Blk.cells hb28u) (At.fld ha29u 2 rfl) ?_
      refine EWL.op rfl ?_
      refine s_neq rfl rfl ?_
      refine EW.condS rfl rfl (fun hb113u => ?_) (fun hb113u => ?_)
      · replace hF0 := bif_t hb113u hF0
        refine EW.seq ?_
        refine EW.region (by kernel_rfl) ?_
        refine EWL.op rfl ?_
        refine s_as ?_
        refine EW.ret ?_
        obtain rfl := som hF0
        refine ends1 (.inl rfl)  ?_
        exact ret_ (g := g17u) I lo hZ z0 rfl (And.intro Row.none ⟨_, Blk.up (Stp.rc g17u 3900 4000 0) (iv_o hi0) hb28u, hl30u, At.up ha29u (Stp.rc g17u 3900 4000 0) fz nc0⟩)
      · replace hF0 := bif_f hb113u hF0
        refine EW.skip ?_
        refine EW.seq ?_
        refine EW.region (by kernel_rfl) ?_
        refine EWL.op rfl ?_
        refine s_mv ?_
        refine EWL.op rfl ?_
        refine s_as ?_
        refine EW.ret ?_
        obtain rfl := som hF0
        refine ends1 (.inl rfl)  ?_
        have m114u := Row.rc rfl (by decide) m22u rc0
        have s116u := Stp.rc1 g17u 3903 rc0
        replace I := I.to s116u (Lo.rc (d := rc0) I.l (.inl zrc0)) (at_in (zpv rfl))
        exact ret_ (g := (g17u.rc 3903 (3903 + 1) rc0)) I lo hZ z0 rfl (And.intro (Row.up rfl (Stp.rc (g17u.rc 3903 (3903 + 1) rc0) 3900 4000 0) fz (iv_z hZ rfl zrc0) m114u) ⟨_, Blk.up (Stp.rc (g17u.rc 3903 (3903 + 1) rc0) 3900 4000 0) (iv_o hi0) (Blk.up s116u (ne_od hi0 rfl) hb28u), hl30u, At.up (At.up ha29u s116u (Nat.ne_of_beq_eq_false rfl) nc0) (Stp.rc (g17u.rc 3903 (3903 + 1) rc0) 3900 4000 0) fz nc0⟩)
end Go.Tl
