/- Fields that hold what is told apart from them: rows of one's own, pointers. -/
import Derived.Test.YtdbfbeckhccchaaRK
namespace Go.Tl
open Go
set_option linter.unusedVariables false
set_option linter.unusedSimpArgs false

/-- A cell that holds a value; what it leads to is told elsewhere. -/
def kFix {α : Type} (v : Value) (z : α) : Kd α where
  sz := 1
  nc := 0
  M := fun _ _ _ cs => cs = [v] ∧ v.oneCell' = true
  z := z
  zc := [v]
  len := by rintro _ _ _ _ ⟨rfl, _⟩; rfl
  one := by rintro _ _ _ _ ⟨rfl, h⟩ u hu; simp at hu; subst hu; exact h
  up := fun _ _ _ h => h
  ind := fun _ _ _ _ _ h _ => h
  zok := v.oneCell'
  zk := fun h => ⟨rfl, h⟩
section
variable {α β : Type} {g h : GW} {i j o : Nat} {L L' : List Value} {x y : α} {v : Value} {e : TypeId} {d : Kd β} {c : Nat} {xs : List β}
theorem Row.fix {z r : List β} (k : Row e d g c xs v) : (kFix v z).M h i r (cv v) := by
  have h1 : v.oneCell' = true := by
    rcases k.shape with ⟨rfl, _⟩ | ⟨_, _, _, rfl, _⟩ <;> rfl
  exact ⟨cv_one h1, h1⟩
theorem Sl.fix {z r : List β} (k : Sl d g c xs v) : (kFix v z).M h i r (cv v) := by
  have h1 : v.oneCell' = true := by obtain ⟨_, _, rfl, _⟩ := k; rfl
  exact ⟨cv_one h1, h1⟩
theorem At.fix {z r : α} (k : At (kFix v z) g i r L o) : L[o]? = some v := seg1 k.1
theorem Row.one' (k : Row e d g c xs v) : v.oneCell' = true := by
  rcases k.shape with ⟨rfl, _⟩ | ⟨_, _, _, rfl, _⟩ <;> rfl
/-- Two lists of fields that differ at one place; two data that differ there. -/
def Dif (x y : α) : Nat → List (Fd α) → List (Fd α) → Prop
  | _, [], [] => True
  | 0, _ :: r, _ :: r' => Dif x y (r.length + 1) r r'
  | j + 1, f :: r, f' :: r' => (f' = f ∧ f.eqv x y) ∧ Dif x y j r r'
  | _, _, _ => False
theorem Dif.get : ∀ {fs fs' : List (Fd α)} {j : Nat}, Dif x y j fs fs' → ∀ (k : Nat) (f : Fd α), fs'[k]? = some f → k ≠ j → fs[k]? = some f ∧ f.eqv x y
  | _, [], _, _, k, f, hf, _ => by simp at hf
  | [], f' :: r', 0, h, _, _, _, _ => h.elim
  | [], f' :: r', j + 1, h, _, _, _, _ => h.elim
  | f :: r, f' :: r', 0, h, 0, f1, hf, hk => absurd rfl hk
  | f :: r, f' :: r', 0, h, k + 1, f1, hf, hk => by
    have h : Dif x y (r.length + 1) r r' := h
    by_cases e : k = r.length + 1
    · subst e
      have := difl h
      simp at hf
      have := (List.getElem?_eq_some_iff.1 hf).1
      omega
    · simpa using Dif.get h k f1 (by simpa using hf) e
  | f :: r, f' :: r', j + 1, h, 0, f1, hf, hk => by
    have h : (f' = f ∧ f.eqv x y) ∧ Dif x y j r r' := h
    simp at hf; subst hf
    obtain ⟨⟨rfl, h2⟩, _⟩ := h
    exact ⟨by simp, h2⟩
  | f :: r, f' :: r', j + 1, h, k + 1, f1, hf, hk => by
    have h : (f' = f ∧ f.eqv x y) ∧ Dif x y j r r' := h
    simpa using Dif.get h.2 k f1 (by simpa using hf) (by omega)
where
  difl : ∀ {fs fs' : List (Fd α)} {j : Nat}, Dif x y j fs fs' → fs'.length = fs.length
  | [], [], _, _ => rfl
  | f :: r, [], 0, h => h.elim
  | f :: r, [], j + 1, h => h.elim
  | [], f :: r, 0, h => h.elim
  | [], f :: r, j + 1, h => h.elim
  | f :: r, f' :: r', 0, h => by have h : Dif x y (r.length + 1) r r' := h; simp [difl h]
  | f :: r, f' :: r', j + 1, h => by have h : (f' = f ∧ f.eqv x y) ∧ Dif x y j r r' := h; simp [difl h.2]
theorem At.setG {n nc nc' : Nat} {fs fs' : List (Fd α)} {z z' : α} {ht : tiles n nc 0 0 fs = true} {hz : fs.all (·.zok) = true → AllZ z fs} {ht' : tiles n nc' 0 0 fs' = true} {hz' : fs'.all (·.zok) = true → AllZ z' fs'} {off co co' a m : Nat} {d0 d : Kd β} {p p' : α → β}
    (k : At (kSt n nc fs z ht hz) g i x L o) (j : Nat) (hj : fs[j]? = some (fd off co' d0 p')) (hj' : fs'[j]? = some (fd off co d p)) (hs : Dif x y j fs fs') (hd : d0.sz = d.sz) (hu : Upd L L' a m) (h1 : o + off ≤ a) (h2 : a + m ≤ o + off + d.sz)
    (h' : At d g (i + co) (p y) L' (o + off)) : At (kSt n nc' fs' z' ht' hz') g i y L' o := by
  have hle := (tiles_le ht').2.2 _ (List.mem_of_getElem? hj')
  have hk : SM n fs g i x ((L.drop o).take n) := k
  show SM n fs' g i y ((L'.drop o).take n)
  refine ⟨by have := hk.1; simp at this ⊢; rw [hu.1]; exact this, fun f' hf' => ?_⟩
  obtain ⟨q, hq⟩ := List.mem_iff_getElem?.1 hf'
  have hf'l := (tiles_le ht').2.2 _ hf'
  rw [seg_seg (by omega)]
  by_cases e : q = j
  · subst e
    rw [hj'] at hq
    injection hq with hq
    subst hq
    exact h'
  · obtain ⟨hq0, heq⟩ := hs.get q f' hq e
    have h3 := hk.2 f' (List.mem_of_getElem? hq0)
    rw [seg_seg (by omega)] at h3
    have hap : f'.off + f'.sz ≤ off ∨ off + d.sz ≤ f'.off := by
      rcases Nat.lt_or_gt_of_ne e with hlt | hgt
      · left; exact (tiles_apart ht' q j f' _ hq hj' hlt).1
      · right; exact (tiles_apart ht' j q _ f' hj' hq hgt).1
    rw [hu.seg (by omega)]
    exact f'.ext heq h3
/-- The same cells, told in other kinds. -/
def Rel2 (g h : GW) (i j : Nat) (x y : α) (cs : List Value) : List (Fd α) → List (Fd α) → Prop
  | [], [] => True
  | f :: r, f' :: r' => (f'.off = f.off ∧ f'.sz = f.sz ∧ (f.M g i x ((cs.drop f.off).take f.sz) → f'.M h j y ((cs.drop f.off).take f.sz))) ∧ Rel2 g h i j x y cs r r'
  | _, _ => False
theorem SM.re {n : Nat} {cs : List Value} : ∀ {fs fs' : List (Fd α)}, Rel2 g h i j x y cs fs fs' → (∀ f ∈ fs, f.M g i x ((cs.drop f.off).take f.sz)) → ∀ f ∈ fs', f.M h j y ((cs.drop f.off).take f.sz)
  | [], [], _, _, f, hf => by cases hf
  | f :: r, f' :: r', hr, hk, f1, hf1 => by
    have hr : (f'.off = f.off ∧ f'.sz = f.sz ∧ (f.M g i x ((cs.drop f.off).take f.sz) → f'.M h j y ((cs.drop f.off).take f.sz))) ∧ Rel2 g h i j x y cs r r' := hr
    rcases List.mem_cons.1 hf1 with rfl | hf1
    · have := hr.1.2.2 (hk f (by simp))
      rwa [← hr.1.1, ← hr.1.2.1] at this
    · exact SM.re (n := n) hr.2 (fun f hf => hk f (by simp [hf])) f1 hf1
theorem At.re {n nc nc' : Nat} {fs fs' : List (Fd α)} {z z' : α} {ht : tiles n nc 0 0 fs = true} {hz : fs.all (·.zok) = true → AllZ z fs} {ht' : tiles n nc' 0 0 fs' = true} {hz' : fs'.all (·.zok) = true → AllZ z' fs'}
    (k : At (kSt n nc fs z ht hz) g i x L o) (hr : Rel2 g h i j x y ((L.drop o).take n) fs fs') : At (kSt n nc' fs' z' ht' hz') h j y L o :=
  ⟨k.1, SM.re (n := n) hr k.2⟩
theorem rck {cs : List Value} {r r' : List (Fd α)} {off co co' : Nat} {p : α → β} (h0 : d.nc = 0) (he : p y = p x) (k : Rel2 g g i j x y cs r r') : Rel2 g g i j x y cs (fd off co d p :: r) (fd off co' d p :: r') :=
  ⟨⟨rfl, rfl, fun h => by show d.M g (j + co') (p y) _; rw [he]; exact d.ind h0 h _⟩, k⟩
/-- A slot that holds a slice, told by its contents. -/
theorem rcs {cs : List Value} {r r' : List (Fd α)} {off co co' : Nat} {p : α → List β} {h0 : d.nc = 0} {z : List β} (hs : Sl d g 0 (p y) v) (k : Rel2 g g i j x y cs r r') : Rel2 g g i j x y cs (fd off co (kFix v z) p :: r) (fd off co' (kSl d h0) p :: r') :=
  ⟨⟨rfl, rfl, fun h => by
    have h : (cs.drop off).take 1 = [v] ∧ v.oneCell' = true := h
    show (kSl d h0).M g (j + co') (p y) ((cs.drop off).take 1)
    rw [h.1]; exact Sl.kd h0 hs⟩, k⟩
theorem rcf {γ : Type} {cs : List Value} {r r' : List (Fd α)} {off co co' : Nat} {d : Kd γ} {p : α → γ} {z : γ} (hd : d.sz = 1) (hv : (cs.drop off).take 1 = [v]) (h1 : v.oneCell' = true) (k : Rel2 g g i j x y cs r r') : Rel2 g g i j x y cs (fd off co d p :: r) (fd off co' (kFix v z) p :: r') :=
  ⟨⟨rfl, hd.symm, fun h => by
    show (kFix v z).M g (j + co') (p y) ((cs.drop off).take d.sz)
    rw [hd, hv]; exact ⟨rfl, h1⟩⟩, k⟩
theorem rcn {cs : List Value} : Rel2 g g i j x y cs ([] : List (Fd α)) [] := trivial
end
section
variable {P : Program} {ρ : Env} {w : World} {K : Value → World → Prop} {d : Option Nat} {T T' : TypeId} {ps : String} {af : Array Edge} {gd : Option (Nat × Bool)} {x : Operand} {b o s by_ i : Nat} {L : List Value} {v : Value} {α : Type} {g : GW} {r z : α}
theorem s_bE {t T2 : TypeId} {y : Operand} {a b : Bool} (hu : P.underlying t = some .bool) (hx : ρ.ev x = .bool a) (hy : ρ.ev y = .bool b) (k : K (.bool (a == b)) w) : stp P ⟨d, .binOp .eql t x y T2, T', ps, af, gd⟩ ρ w K := by
  refine stp_run ?_ k
  have hg : (eqGuard .eql t x y (.bool a) (.bool b)).run P w = .ok () w := by unfold eqGuard; rfl
  simp only [execOp, hx, hy, Sem.run_bind, hg, Result.andThen_ok]
  simp [binOp, Op.equal, Op.maxDepth, run_equalIn_bool' w 9999 t a b hu]
theorem s_bNe {t T2 : TypeId} {y : Operand} {a b : Bool} (hu : P.underlying t = some .bool) (hx : ρ.ev x = .bool a) (hy : ρ.ev y = .bool b) (k : K (.bool (a != b)) w) : stp P ⟨d, .binOp .neq t x y T2, T', ps, af, gd⟩ ρ w K := by
  refine stp_run ?_ k
  have hg : (eqGuard .neq t x y (.bool a) (.bool b)).run P w = .ok () w := by unfold eqGuard; rfl
  simp only [execOp, hx, hy, Sem.run_bind, hg, Result.andThen_ok]
  simp [binOp, Op.equal, Op.maxDepth, run_equalIn_bool' w 9999 t a b hu, bne]
theorem s_ldFix (ht : tinf P T = some (false, s, by_)) (hx : ρ.ev x = .pointer (some ⟨b, o, none⟩)) (hc : Cells w b L) (a : At (kFix v z) g i r L o) (k : K v w) : stp P ⟨d, .load T x, T', ps, af, gd⟩ ρ w K := s_ld1 ht hx hc a.fix k
end
end Go.Tl
