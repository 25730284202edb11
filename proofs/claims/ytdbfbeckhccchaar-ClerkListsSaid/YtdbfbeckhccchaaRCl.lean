/- The statement ClerkListsSaid is proved: tollhouselaw20.ClerkLists returns true for every input, and its arguments read behind the call as before. Conditions: those that the statement itself bears; none is added. -/
import Derived.Test.YtdbfbeckhccchaaRRows
import Derived.Test.YtdbfbeckhccchaaRWv
import Derived.Test.YtdbfbeckhccchaaRRd
import Derived.Test.YtdbfbeckhccchaaRPz
import Derived.ProofKit
namespace Go.Tl
open Go Go.ChangeShapes Go.WideShapes Go.RowKit
set_option maxRecDepth 100000 in
theorem lifted (pure_ : ∀ a0 a1 a2, okp_22 a0 → okp_31 a1 → okp_32 a2 → law20uClerkLists a0 a1 a2 = some true) (os : Os) (started : os.Started) (H : Type) (enc : TypeId × Value → H) :
    ReturnsInHanded {} Go.Proofs.Try.checked os 3 .any (Go.Proofs.YtdbfbeckhccchaaR.Rows.clerkListsSpec.pre6 enc P Go.Proofs.Try.f3 Go.Proofs.YtdbfbeckhccchaaR.Rows.clerkListsRow.domain false)
      (Go.Proofs.YtdbfbeckhccchaaR.Rows.clerkListsSpec.post enc P Go.Proofs.Try.f3 false true false false) := by
  refine returnsInHanded_of_change (C := Go.Proofs.Try.checked) (by kernel_rfl) started (by kernel_rfl) Go.Proofs.Try.func3
    (ChangeSpec.witness6 (enc := enc) (C := Go.Proofs.Try.checked) false ⟨#[], #[.slice none 0 0, .agg k_ref20uWish.zc.toArray, .slice none 0 0], []⟩ 8 (by kernel_rfl) (by kernel_rfl) (by kernel_rfl) (by kernel_rfl)) ?_
  intro W base args ds gs before hval0 hW _ _
  have hval : ∀ (j : Nat) t v, Go.Proofs.Try.f3.params[j]? = some t → args[j]? = some v → Value.okWide P W .any base t v := hval0
  have hW' := hW
  obtain ⟨p, q, hA0, hV, rfl, hfz, hnd⟩ := hW
  have hA : DataW.TrodAll enc P W 0 (fun _ => true) true Go.Proofs.Try.f3.params.toList args.toList ds p := hA0
  obtain ⟨v0, v1, v2, d0, d1, d2, p0, p1, p2, rfl, rfl, rfl, h0, h1, h2⟩ := trodAll_three hA
  obtain ⟨rfl, rfl⟩ := trodVars_none hV
  obtain ⟨a0, m0, k0⟩ := open_sl (e := 31) (by kernel_rfl) rdp_22 (hval 0 22 v0 rfl rfl) h0
  obtain ⟨a1, c1, rfl, m1, k1⟩ := open_ag (f := true) (by kernel_rfl) rdp_31 (hval 1 31 v1 rfl rfl) h1
  obtain ⟨a2, m2, k2⟩ := open_sl (e := 5) (by kernel_rfl) rdp_32 (hval 2 32 v2 rfl rfl) h2
  refine Calls.mono (law20uClerkLists_ok (g0 := R0 W) (Z := fun c => c = 0) R0.z rfl (R0.lo W) m0 (.inl rfl) m1 m2 (pure_ a0 a1 a2 k0 k1 k2)) ?_
  rintro e w' ⟨v, rfl, h, rfl, s, _, rfl⟩
  exact ⟨_, rfl, post_true (by kernel_rfl) (by kernel_rfl) rfl (by kernel_rfl) rfl hW' rfl s⟩
end Go.Tl
namespace Go.Proofs.YtdbfbeckhccchaaR
/-- ClerkLists returns true, whatever its arguments are; and they read as they did. -/
theorem clerkLists_holds : Rows.ClerkListsSaid :=
  OpenClaim.holds_of_wide 3 Go.Proofs.Try.f3 rfl rfl rfl rfl rfl rfl rfl ⟨rfl, rfl, rfl, rfl, rfl⟩ rfl rfl rfl rfl rfl (by kernel_rfl) Go.Proofs.Try.func3 (by kernel_rfl)
    (of_decide_eq_true (by kernel_rfl)) (by unfold Func.isWrapper; first | (rw [if_pos (by decide +kernel)]; kernel_rfl) | (rw [if_neg (by decide +kernel)]; exact ⟨rfl, rfl⟩))
    (fun os started H enc _ => Go.Tl.lifted Go.Tl.clerkLists os started H enc)
#print axioms clerkLists_holds
end Go.Proofs.YtdbfbeckhccchaaR
