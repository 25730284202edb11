/- What the pure side of a proof is told in: loops, elements, sums on machine numbers. Plain definitions; no memory in sight. -/
import GoSem.Core.View
import Derived.Laws.BytesArg
namespace Go.Tl
open Go
set_option linter.unusedVariables false

/-! ### Loops, as the pure side tells them -/
def loopN {σ R : Type} (b : σ → Option (σ ⊕ R)) : Nat → σ → Option R
  | 0, _ => none
  | k + 1, s => match b s with
    | some (.inl s') => loopN b k s'
    | some (.inr r) => some r
    | none => none
theorem loopN_mono {σ R : Type} {b : σ → Option (σ ⊕ R)} : ∀ {k : Nat} {s : σ} {r : R}, loopN b k s = some r → ∀ {k'}, k ≤ k' → loopN b k' s = some r
  | 0, _, _, h, _, _ => by cases h
  | k + 1, s, r, h, k' + 1, hk => by
    simp only [loopN] at h ⊢
    cases hb : b s with
    | none => rw [hb] at h; cases h
    | some x =>
      rw [hb] at h
      cases x with
      | inl s' => exact loopN_mono h (Nat.le_of_succ_le_succ hk)
      | inr r' => exact h
open Classical in
/-- The answer of a loop whose rounds are 'b'; none: it dies, or never ends. -/
noncomputable def loop {σ R : Type} (b : σ → Option (σ ⊕ R)) (s : σ) : Option R :=
  if h : ∃ k r, loopN b k s = some r then loopN b (Classical.choose h) s else none
theorem loop_of {σ R : Type} {b : σ → Option (σ ⊕ R)} {k : Nat} {s : σ} {r : R} (h : loopN b k s = some r) : loop b s = some r := by
  unfold loop
  have hx : ∃ k r, loopN b k s = some r := ⟨k, r, h⟩
  rw [dif_pos hx]
  obtain ⟨r', hr'⟩ := Classical.choose_spec hx
  rcases Nat.le_total k (Classical.choose hx) with hle | hle
  · exact loopN_mono h hle
  · rw [hr']; rw [← h, loopN_mono hr' hle]
theorem loop_some {σ R : Type} {b : σ → Option (σ ⊕ R)} {s : σ} {r : R} (h : loop b s = some r) : ∃ k, loopN b k s = some r := by
  unfold loop at h
  split at h
  · exact ⟨_, h⟩
  · cases h
theorem loop_eq {σ R : Type} (b : σ → Option (σ ⊕ R)) (s : σ) : loop b s = match b s with
    | some (.inl s') => loop b s'
    | some (.inr r) => some r
    | none => none := by
  cases hb : b s with
  | none =>
    cases h : loop b s with
    | none => rfl
    | some r =>
      obtain ⟨k, hk⟩ := loop_some h
      cases k with
      | zero => cases hk
      | succ k => simp [loopN, hb] at hk
  | some x =>
    cases x with
    | inr r => exact loop_of (k := 1) (by simp [loopN, hb])
    | inl s' =>
      simp only []
      cases h : loop b s' with
      | some r =>
        obtain ⟨k, hk⟩ := loop_some h
        exact loop_of (k := k + 1) (by simp [loopN, hb, hk])
      | none =>
        cases h2 : loop b s with
        | none => rfl
        | some r =>
          obtain ⟨k, hk⟩ := loop_some h2
          cases k with
          | zero => cases hk
          | succ k =>
            simp only [loopN, hb] at hk
            rw [loop_of hk] at h
            cases h
theorem loop_go {σ R : Type} {b : σ → Option (σ ⊕ R)} {s s' : σ} (h : b s = some (.inl s')) : loop b s = loop b s' := by rw [loop_eq, h]
theorem loop_end {σ R : Type} {b : σ → Option (σ ⊕ R)} {s : σ} {r : R} (h : b s = some (.inr r)) : loop b s = some r := by rw [loop_eq, h]

/-! ### Numbers -/
def band (k : IntKind) (m n : Int) : Int := k.wrap (BitVec.ofInt k.bits m &&& BitVec.ofInt k.bits n).toNat
def bor (k : IntKind) (m n : Int) : Int := k.wrap (BitVec.ofInt k.bits m ||| BitVec.ofInt k.bits n).toNat
def bxor (k : IntKind) (m n : Int) : Int := k.wrap (BitVec.ofInt k.bits m ^^^ BitVec.ofInt k.bits n).toNat
def bclr (k : IntKind) (m n : Int) : Int := k.wrap (BitVec.ofInt k.bits m &&& ~~~BitVec.ofInt k.bits n).toNat
def shl (k : IntKind) (m n : Int) : Int := k.wrap (m * 2 ^ min n.toNat k.bits)
def shr (k : IntKind) (m n : Int) : Int := m.fdiv (2 ^ min n.toNat k.bits)
def bnot (k : IntKind) (m : Int) : Int := bxor k (if k.signed then -1 else k.max) m
/-- The builtins over two whole numbers. -/
def mx (a b : Int) : Int := if a < b then b else a
def mn (a b : Int) : Int := if b < a then b else a

/-! ### Lists -/
/-- Element i, if there is one. -/
def ix {α : Type} (xs : List α) (i : Int) : Option α := if 0 ≤ i then xs[i.toNat]? else none
theorem ix_some {α : Type} {xs : List α} {i : Int} {y : α} (h : ix xs i = some y) : 0 ≤ i ∧ ∃ h : i.toNat < xs.length, xs[i.toNat] = y := by
  unfold ix at h
  split at h
  · rename_i h0
    obtain ⟨h1, h2⟩ := List.getElem?_eq_some_iff.1 h
    exact ⟨h0, h1, h2⟩
  · cases h
/-- Element i set. -/
def upd {α : Type} (xs : List α) (i : Int) (y : α) : List α := xs.set i.toNat y
/-- Most that a slice grows to here. -/
def LIM : Nat := 4294967296
def app {α : Type} (xs ys : List α) : Option (List α) := if xs.length + ys.length ≤ LIM then some (xs ++ ys) else none
def mk {α : Type} (n : Int) (z : α) : Option (List α) := if 0 ≤ n ∧ n ≤ LIM then some (List.replicate n.toNat z) else none

def slc {α : Type} (xs : List α) (lo hi : Int) : Option (List α) := if 0 ≤ lo ∧ lo ≤ hi ∧ hi ≤ xs.length then some ((xs.take hi.toNat).drop lo.toNat) else none
/-- copy's outcome: the first of ys, then what was there. -/
def cpy {α : Type} (xs ys : List α) : List α := ys.take xs.length ++ xs.drop ys.length
end Go.Tl
