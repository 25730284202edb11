/- ClerkLists: the pure law, whole. -/
import Derived.Test.YtdbfbeckhccchaaRPw
import Derived.Test.YtdbfbeckhccchaaRRd
namespace Go.Tl
open Go
set_option linter.unusedVariables false
set_option linter.unusedSimpArgs false
theorem wfU {x : Int} (h : (Lit.int .u64 x).wf = true) : U x := by
  simp [Lit.wf, IntKind.min, IntKind.max, IntKind.signed, IntKind.bits] at h
  exact ⟨h.1, by omega⟩
theorem wfB {x : Int} (h : (Lit.int .u8 x).wf = true) : 0 ≤ x ∧ x < 256 := by
  simp [Lit.wf, IntKind.min, IntKind.max, IntKind.signed, IntKind.bits] at h
  exact ⟨h.1, by omega⟩
theorem okV {w : ref20uWish} (h : ok_ref20uWish w) (ht : w.trail.length ≤ 100) : Vw w :=
  ⟨⟨wfU h.1.2.1, wfU h.1.2.2.2.1, ⟨wfU h.1.2.2.1.1, wfU h.1.2.2.1.2.2.1, wfU h.1.2.2.1.2.2.2.2.1, h.1.2.2.1.2.2.2.1.1⟩⟩, fun x hx => ⟨wfU (h.2.1 x hx).2.1, wfU (h.2.1 x hx).2.2.1⟩, ht⟩
theorem smc {l : List ref20uWish} (h : Sm l) : Smc (l.map wsh) := ⟨by simpa using h.1, fun w hw => by
  obtain ⟨x, hx, rfl⟩ := List.mem_map.1 hw
  simpa [wsh] using h.2 x hx⟩
theorem back {l : List ref20uWish} (h : Sm l) : law20uFrom (l.map wsh) = some l := by rw [from_ _ (smc h), map_wshr]
theorem clerkLists (a0 : List ref20uWish) (a1 : ref20uWish) (a2 : List Int) (k0 : okp_22 a0) (k1 : okp_31 a1) (k2 : okp_32 a2) : law20uClerkLists a0 a1 a2 = some true := by
  unfold law20uClerkLists
  by_cases g1 : (300 : Int) < a0.length
  · rw [dlt_t g1, bif_true, awake20, Option.bind_some]
  rw [dlt_f g1, bif_false]
  by_cases g2 : (20000 : Int) < a2.length
  · rw [dlt_t g2, bif_true, awake20, Option.bind_some]
  rw [dlt_f g2, bif_false]
  by_cases g3 : (60 : Int) < a1.trail.length
  · rw [dlt_t g3, bif_true, awake20, Option.bind_some]
  rw [dlt_f g3, bif_false]
  obtain ⟨r, hr, rfl⟩ := loop_tot (b := law20uClerkLists_b1 a0 a1 a2) (fun i => 0 ≤ i ∧ i ≤ a0.length ∧ ∀ (j : Nat) (h : j < a0.length), (j : Int) < i → a0[j].trail.length ≤ 60) (fun i => ((a0.length : Int) - i).toNat) (fun r => r = true) (by
    rintro i ⟨h0, h1, h2⟩
    obtain ⟨i, rfl⟩ := Int.eq_ofNat_of_zero_le h0
    simp only [law20uClerkLists_b1]
    by_cases hi : i < a0.length
    · rw [dlt_t (by omega), bif_true, ix_nat hi, Option.bind_some]
      by_cases ht : (60 : Int) < a0[i].trail.length
      · left; rw [dlt_t ht, bif_true, awake20, Option.bind_some]; exact ⟨_, rfl, rfl⟩
      · right; rw [dlt_f ht, bif_false, wrap_s (by omega)]
        refine ⟨_, rfl, ⟨by omega, by omega, fun j hj hji => ?_⟩, by omega⟩
        by_cases e : j = i
        · subst e; omega
        · exact h2 j hj (by omega)
    · left
      have hall : ∀ w ∈ a0, w.trail.length ≤ 60 := fun w hw => by
        obtain ⟨j, hj, rfl⟩ := List.mem_iff_getElem.1 hw
        exact h2 j hj (by omega)
      have s0 : Sm a0 := ⟨by omega, fun w hw => by have := hall w hw; omega⟩
      have s1 : Sm [a1] := ⟨by simp, fun w hw => by simp at hw; subst hw; omega⟩
      have v0 : ∀ w ∈ a0, Vw w := fun w hw => okV (k0 w hw) (by have := hall w hw; omega)
      obtain ⟨l, e, l1, l2, l3⟩ := load a2 (by omega) (fun v hv => wfB (k2 v hv))
      have sX : Sm (bif a0.any (fun x => sameB x.op a1.op) then a0 else a0 ++ [a1]) := by
        cases a0.any (fun x => sameB x.op a1.op) with
        | true => exact s0
        | false => exact ⟨by simp; omega, fun w hw => by
            rcases List.mem_append.1 hw with h | h
            · exact s0.2 w h
            · exact s1.2 w h⟩
      have tw : clerk_Wish_Twin (wsh a1) = some (wsh a1) := by
        unfold clerk_Wish_Twin slices_Clone_memo_Hop_memo_Hop
        rw [app_ok (by simp [wsh]; omega), Option.bind_some, Option.bind_some, List.nil_append]
      have m1 : ([wsh a1] : List clerk_Wish) = [a1].map wsh := rfl
      rw [dlt_f (by omega), bif_false, wishes _ s1, Option.bind_some]
      rw [← m1, ix_0, Option.bind_some, l1, Option.bind_some, l2, Option.bind_some, wishes _ s0, Option.bind_some, clAdd _ _ (by omega) (by omega), Option.bind_some, back sX, Option.bind_some, refAdd _ _ (by omega), Option.bind_some, alike _ sX, Option.bind_some]
      rw [show (!true) = false from rfl, bif_false, Option.bind_some, clSave _ v0 (by omega), Option.bind_some, refSave _ v0 (by omega), Option.bind_some]
      rw [show decide (strOfNums (saveB (a0.take 255)) ≠ strOfNums (saveB (a0.take 255))) = false by simp, bif_false]
      simp only
      rw [show decide (e ≠ e) = false by simp, bif_false, back l3, Option.bind_some, alike _ l3, Option.bind_some]
      rw [show (!true) = false from rfl, bif_false, tw, Option.bind_some, m1, back s1, Option.bind_some, alike _ s1, Option.bind_some]
      rw [show (!true) = false from rfl, bif_false]
      obtain ⟨r, hr, rfl⟩ := loop_tot (b := law20uClerkLists_b2 a0) (fun (i, w, x) => 0 ≤ i ∧ i ≤ a0.length ∧ w = a1 ∧ x = wsh a1) (fun (i, _, _) => ((a0.length : Int) - i).toNat) (fun r => r = true) (by
        rintro ⟨i, w, x⟩ ⟨h0, h1, rfl, rfl⟩
        obtain ⟨i, rfl⟩ := Int.eq_ofNat_of_zero_le h0
        simp only [law20uClerkLists_b2]
        by_cases hi : i < a0.length
        · right
          rw [dlt_t (by omega), bif_true, ix_nat hi, Option.bind_some, law12, Option.bind_some]
          rw [show clerk_Wish_Same (wsh w) (opc a0[i].op) = some (sameB w.op a0[i].op) from clSame _ _ _, Option.bind_some, refSame, Option.bind_some]
          rw [show (sameB w.op a0[i].op != sameB w.op a0[i].op) = false by simp, bif_false, wrap_s (by omega)]
          exact ⟨_, rfl, ⟨by omega, by omega, rfl, rfl⟩, by simp only; omega⟩
        · left; rw [dlt_f (by omega), bif_false, awake20, Option.bind_some]; exact ⟨_, rfl, rfl⟩) (0, a1, wsh a1) ⟨by omega, by omega, rfl, rfl⟩
      rw [hr]
      exact ⟨_, rfl, rfl⟩) 0 ⟨by omega, by omega, fun j hj h => by omega⟩
  exact hr
end Go.Tl
