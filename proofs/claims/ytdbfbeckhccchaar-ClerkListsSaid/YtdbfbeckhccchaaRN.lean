/- Plain laws of the pure side's words: loops over lists, elements, bounds. -/
import Derived.Test.YtdbfbeckhccchaaRP
namespace Go.Tl
open Go
set_option linter.unusedVariables false
set_option linter.unusedSimpArgs false

theorem wrap_id {k : IntKind} {n : Int} (h : (Lit.int k n).wf = true) : k.wrap n = n := by
  cases k <;> simp [Lit.wf, IntKind.wrap, IntKind.min, IntKind.max, IntKind.signed, IntKind.bits] at h ⊢ <;> omega
theorem wrap_i64 {n : Int} (h0 : -9223372036854775808 ≤ n) (h1 : n < 9223372036854775808) : IntKind.i64.wrap n = n := wrap_id (by simp [Lit.wf, IntKind.min, IntKind.max, IntKind.signed, IntKind.bits]; omega)
theorem wrap_s {i : Nat} (h : i < 4611686018427387904) : IntKind.i64.wrap ((i : Int) + 1) = ((i + 1 : Nat) : Int) := by rw [wrap_i64 (by omega) (by omega)]; omega
theorem ix_nat {α : Type} {xs : List α} {i : Nat} (h : i < xs.length) : ix xs (i : Int) = some xs[i] := by
  unfold ix; rw [if_pos (by omega)]; simp [h]
theorem ix_0 {α : Type} {x : α} {xs : List α} : ix (x :: xs) 0 = some x := rfl
theorem ix_ex {α : Type} {xs : List α} {i : Int} (h0 : 0 ≤ i) (h1 : i < xs.length) : ∃ y, ix xs i = some y := by
  obtain ⟨n, rfl⟩ := Int.eq_ofNat_of_zero_le h0
  exact ⟨_, ix_nat (by omega)⟩
theorem upd_nat {α : Type} {xs : List α} {i : Nat} {y : α} : upd xs (i : Int) y = xs.set i y := by simp [upd]
theorem app_ok {α : Type} {xs ys : List α} (h : xs.length + ys.length ≤ 4294967296) : app xs ys = some (xs ++ ys) := by unfold app LIM; rw [if_pos h]
theorem dlt_t {a b : Int} (h : a < b) : decide (a < b) = true := decide_eq_true h
theorem dlt_f {a b : Int} (h : ¬ a < b) : decide (a < b) = false := decide_eq_false h
theorem bif_true {α : Type} {x y : α} : (bif true then x else y) = x := rfl
theorem bif_false {α : Type} {x y : α} : (bif false then x else y) = y := rfl

/-- A loop that ends: by an invariant and a measure. -/
theorem loop_tot {S R : Type} {b : S → Option (S ⊕ R)} (I : S → Prop) (m : S → Nat) (Q : R → Prop) (h : ∀ s, I s → (∃ r, b s = some (.inr r) ∧ Q r) ∨ (∃ s', b s = some (.inl s') ∧ I s' ∧ m s' < m s)) : ∀ s, I s → ∃ r, loop b s = some r ∧ Q r := by
  have key : ∀ n s, m s ≤ n → I s → ∃ r, loop b s = some r ∧ Q r := by
    intro n
    induction n with
    | zero =>
      intro s hs hI
      rcases h s hI with ⟨r, hr, hq⟩ | ⟨s', hs', hI', hm⟩
      · exact ⟨r, loop_end hr, hq⟩
      · omega
    | succ n ih =>
      intro s hs hI
      rcases h s hI with ⟨r, hr, hq⟩ | ⟨s', hs', hI', hm⟩
      · exact ⟨r, loop_end hr, hq⟩
      · rw [loop_go hs']; exact ih s' (by omega) hI'
  exact fun s => key (m s) s (Nat.le_refl _)
/-- 'for each': no way out but the end. -/
theorem loop_fold {S R α σ : Type} {b : S → Option (S ⊕ R)} (xs : List α) (mk : Nat → σ → S) (f : σ → α → σ) (I : Nat → σ → Prop) (g : σ → Option R)
    (hI : ∀ i (h : i < xs.length) s, I i s → b (mk i s) = some (.inl (mk (i + 1) (f s xs[i]))) ∧ I (i + 1) (f s xs[i]))
    (hfin : ∀ s, I xs.length s → b (mk xs.length s) = (g s).map .inr) : ∀ s, I 0 s → loop b (mk 0 s) = g (xs.foldl f s) := by
  have key : ∀ n k s, k + n = xs.length → I k s → loop b (mk k s) = g ((xs.drop k).foldl f s) := by
    intro n
    induction n with
    | zero =>
      intro k s hk hi
      obtain rfl : k = xs.length := by omega
      rw [loop_eq, hfin s hi]
      have e : xs.drop xs.length = [] := by simp
      rw [e, List.foldl_nil]
      cases g s with
      | none => rfl
      | some r => rfl
    | succ n ih =>
      intro k s hk hi
      have hlt : k < xs.length := by omega
      obtain ⟨h1, h2⟩ := hI k hlt s hi
      rw [loop_go h1, ih (k + 1) _ (by omega) h2, List.drop_eq_getElem_cons hlt]
      rfl
  intro s hs
  have := key xs.length 0 s (by omega) hs
  simpa using this
/-- 'for each', with ways out. -/
def runL {α σ R : Type} (step : α → σ → σ ⊕ R) (fin : σ → R) : List α → σ → R
  | [], s => fin s
  | x :: xs, s => match step x s with
    | .inl s' => runL step fin xs s'
    | .inr r => r
theorem loop_run {S R α σ : Type} {b : S → Option (S ⊕ R)} (xs : List α) (mk : Nat → σ → S) (step : α → σ → σ ⊕ R) (fin : σ → R) (I : Nat → σ → Prop)
    (hI : ∀ i (h : i < xs.length) s, I i s → b (mk i s) = some (match step xs[i] s with | .inl s' => .inl (mk (i + 1) s') | .inr r => .inr r) ∧ ∀ s', step xs[i] s = .inl s' → I (i + 1) s')
    (hfin : ∀ s, I xs.length s → b (mk xs.length s) = some (.inr (fin s))) : ∀ s, I 0 s → loop b (mk 0 s) = some (runL step fin xs s) := by
  have key : ∀ n k s, k + n = xs.length → I k s → loop b (mk k s) = some (runL step fin (xs.drop k) s) := by
    intro n
    induction n with
    | zero =>
      intro k s hk hi
      obtain rfl : k = xs.length := by omega
      rw [loop_end (hfin s hi)]; simp [runL]
    | succ n ih =>
      intro k s hk hi
      have hlt : k < xs.length := by omega
      obtain ⟨h1, h2⟩ := hI k hlt s hi
      rw [List.drop_eq_getElem_cons hlt]
      simp only [runL]
      cases hs : step xs[k] s with
      | inl s' =>
        rw [hs] at h1
        rw [loop_go h1]
        exact ih (k + 1) s' (by omega) (h2 s' hs)
      | inr r =>
        rw [hs] at h1
        exact loop_end h1
  intro s hs
  have := key xs.length 0 s (by omega) hs
  simpa using this
theorem foldl_snoc {α β : Type} (f : α → β) : ∀ (xs : List α) (s : List β), xs.foldl (fun s x => s ++ [f x]) s = s ++ xs.map f
  | [], s => by simp
  | x :: xs, s => by rw [List.foldl_cons, foldl_snoc f xs]; simp
theorem foldl_app {α β : Type} (f : α → List β) : ∀ (xs : List α) (s : List β), xs.foldl (fun s x => s ++ f x) s = s ++ (xs.map f).flatten
  | [], s => by simp
  | x :: xs, s => by rw [List.foldl_cons, foldl_app f xs]; simp
end Go.Tl
