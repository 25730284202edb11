/- '==' of structs and arrays. -/
import Derived.Test.YtdbfbeckhccchaaRJ
import Derived.ChangeKeysEq
namespace Go.Tl
open Go
set_option linter.unusedVariables false
set_option linter.unusedSimpArgs false
set_option linter.unusedSectionVars false

/-- The value that some cells are. -/
def pv (a : Bool) (cs : List Value) : Value := bif a then .agg cs.toArray else cs.headD undef
/-- '==' of a type tells whether the data are the same. -/
def EqQ (P : Program) {α : Type} (t : TypeId) (a : Bool) (M : GW → Nat → α → List Value → Prop) (n : Nat) (q : α → α → Bool) : Prop :=
  ∀ (g h : GW) (i j : Nat) (x y : α) (cs ds : List Value) (w : World), M g i x cs → M h j y ds → ∀ m, n ≤ m → (Op.equalIn m t (pv a cs) (pv a ds)).run P w = .ok (q x y) w
def EqK (P : Program) {α : Type} [DecidableEq α] (t : TypeId) (a : Bool) (d : Kd α) (n : Nat) : Prop := EqQ P t a d.M n fun x y => decide (x = y)
section
variable {P : Program} {α : Type} [DecidableEq α] {t e : TypeId} {n : Nat} {a : Bool}
theorem EqQ.mono {M : GW → Nat → α → List Value → Prop} {q : α → α → Bool} {n m : Nat} (h : EqQ P t a M n q) (hm : n ≤ m) : EqQ P t a M m q := fun g h' i j x y cs ds w hx hy k hk => h g h' i j x y cs ds w hx hy k (Nat.le_trans hm hk)
theorem eqInt {k : IntKind} (hu : tint P t = some k) : EqK P t false (kInt k) 1 := by
  rintro g h i j x y _ _ w rfl rfl m hm
  obtain ⟨m, rfl⟩ : ∃ k, m = k + 1 := ⟨m - 1, by omega⟩
  have hu' : P.underlying t = some (.int k) := by
    unfold tint at hu
    split at hu
    · rename_i k' he; cases hu; exact he
    · cases hu
  show (Op.equalIn (m + 1) t (.int k x) (.int k y)).run P w = _
  rw [run_equalIn_int w m t k k x y hu']
  by_cases h : x = y <;> simp [h]
theorem eqBool (hu : P.underlying t = some .bool) : EqK P t false kBool 1 := by
  rintro g h i j x y _ _ w rfl rfl m hm
  obtain ⟨m, rfl⟩ : ∃ k, m = k + 1 := ⟨m - 1, by omega⟩
  show (Op.equalIn (m + 1) t (.bool x) (.bool y)).run P w = _
  rw [run_equalIn_bool' w m t x y hu]
  cases x <;> cases y <;> rfl
theorem eqStr (hu : P.underlying t = some .string) : EqK P t false kStr 1 := by
  rintro g h i j x y _ _ w rfl rfl m hm
  obtain ⟨m, rfl⟩ : ∃ k, m = k + 1 := ⟨m - 1, by omega⟩
  show (Op.equalIn (m + 1) t (.string x) (.string y)).run P w = _
  rw [run_equalIn_string w m t x y hu, str_eq]
/-- A part of a row of cells. -/
theorem run_part {cs : List Value} {o s by_ : Nat} {w : World} (ht : tinf P t = some (a, s, by_)) (hl : o + s ≤ cs.length) (h0 : 0 < s) : (part t cs.toArray o).run P w = .ok (pv a ((cs.drop o).take s)) w := by
  cases a with
  | true => simp [part, run_agg ht, run_size ht, pv]
  | false =>
    have : cs[o]? = some (cs[o]'(by omega)) := List.getElem?_eq_getElem (by omega)
    simp only [part, Sem.run_bind, run_agg ht, Result.andThen_ok]
    simp [pv, this]
    obtain ⟨s, rfl⟩ : ∃ k, s = k + 1 := ⟨s - 1, by omega⟩
    rw [List.drop_eq_getElem_cons (by omega)]
    rfl
theorem eqf_cons {d : Nat} {xs ys : Array Value} {f : Field} {fs : List Field} {u v : Value} {r s : Bool} {w : World} (hn : (f.name == "_") = false) (ha : (part f.type xs f.offset).run P w = .ok u w) (hb : (part f.type ys f.offset).run P w = .ok v w) (he : (Op.equalIn d f.type u v).run P w = .ok r w) (hr : (Op.eqFields d xs ys fs).run P w = .ok s w) : (Op.eqFields d xs ys (f :: fs)).run P w = .ok (r && s) w := by
  have hn' : f.name ≠ "_" := by simpa using hn
  rw [Op.eqFields]
  simp only [if_pos hn', Sem.run_bind, ha, hb, he, Result.andThen_ok]
  cases r
  · simp
  · simpa using hr
/-- The fields of a struct type, as a list tells them: offset, type, whether of several cells, size. -/
def fchk1 (P : Program) : List Field → List (Nat × Nat × Bool × Nat) → Bool
  | [], [] => true
  | f :: fl, (o, t, a, s) :: r => !(f.name == "_") && Nat.beq f.offset o && Nat.beq f.type t && (match tinf P t with | some (a', s', _) => (a' == a) && Nat.beq s' s | none => false) && fchk1 P fl r
  | _, _ => false
def fchk (P : Program) (t : TypeId) (l : List (Nat × Nat × Bool × Nat)) : Bool :=
  match P.underlying t with
  | some (.struct fs) => fchk1 P fs.toList l && !(P.stoodInHeld t)
  | _ => false
def EqL (P : Program) (n : Nat) : List (Nat × Nat × Bool × Nat) → List (Fd α) → (α → α → Bool) → Prop
  | [], [], r => ∀ x y, r x y = true
  | (o, t, a, s) :: l, f :: fs, r => (f.off = o ∧ f.sz = s ∧ 0 < s) ∧ ∃ q r', EqQ P t a f.M n q ∧ EqL P n l fs r' ∧ ∀ x y, r x y = (q x y && r' x y)
  | _, _, _ => False
theorem eqFs {N : Nat} : ∀ {fl : List Field} {l : List (Nat × Nat × Bool × Nat)} {fs : List (Fd α)} {r : α → α → Bool}, fchk1 P fl l = true → EqL P n l fs r → ∀ (g h : GW) (i j : Nat) (x y : α) (cs ds : List Value) (w : World),
    cs.length = N → ds.length = N → (∀ f ∈ fs, f.off + f.sz ≤ N) → (∀ f ∈ fs, f.M g i x ((cs.drop f.off).take f.sz)) → (∀ f ∈ fs, f.M h j y ((ds.drop f.off).take f.sz)) → ∀ m, n ≤ m → (Op.eqFields m cs.toArray ds.toArray fl).run P w = .ok (r x y) w
  | [], [], [], r, _, he, g, h, i, j, x, y, cs, ds, w => fun _ _ _ _ _ m _ => by
    have he : ∀ x y, r x y = true := he
    rw [he]; simp [Op.eqFields]
  | f :: fl, (o, t, a, s) :: l, d :: fs, r, hc, he, g, h, i, j, x, y, cs, ds, w => fun h1 h2 h3 hx hy m hm => by
    obtain ⟨⟨e1, e2, e3⟩, q, r', hq, hl, hr⟩ := he
    simp only [fchk1, Bool.and_eq_true, Bool.not_eq_true'] at hc
    obtain ⟨⟨⟨⟨hn, ho⟩, ht⟩, hi⟩, hc⟩ := hc
    have ho := Nat.eq_of_beq_eq_true ho
    have ht := Nat.eq_of_beq_eq_true ht
    subst e1; subst e2; subst ht
    split at hi
    · rename_i a' s' b hti
      simp only [Bool.and_eq_true, beq_iff_eq] at hi
      obtain ⟨rfl, hs⟩ := hi
      have hs := Nat.eq_of_beq_eq_true hs
      subst hs
      have hd := h3 d (by simp)
      have p1 := run_part (P := P) (w := w) (o := d.off) hti (by rw [h1]; exact hd) e3
      have p2 := run_part (P := P) (w := w) (o := d.off) hti (by rw [h2]; exact hd) e3
      rw [hr]
      exact eqf_cons (by simpa using hn) (by rw [ho]; exact p1) (by rw [ho]; exact p2) (hq g h i j x y _ _ w (hx d (by simp)) (hy d (by simp)) m hm)
        (eqFs hc hl g h i j x y cs ds w h1 h2 (fun f hf => h3 f (by simp [hf])) (fun f hf => hx f (by simp [hf])) (fun f hf => hy f (by simp [hf])) m hm)
    · cases hi
theorem eqSt {N nc : Nat} {fs : List (Fd α)} {z : α} {ht : tiles N nc 0 0 fs = true} {hz : fs.all (·.zok) = true → AllZ z fs} {l : List (Nat × Nat × Bool × Nat)} (hc : fchk P t l = true) {r : α → α → Bool} (he : EqL P n l fs r) (hr : ∀ x y, r x y = decide (x = y)) : EqK P t true (kSt N nc fs z ht hz) (n + 1) := by
  intro g h i j x y cs ds w hx hy m hm
  obtain ⟨m, rfl⟩ : ∃ k, m = k + 1 := ⟨m - 1, by omega⟩
  unfold fchk at hc
  split at hc
  · rename_i fl hu
    simp only [Bool.and_eq_true, Bool.not_eq_true'] at hc
    have hf : P.fieldsOf t = fl := by simp [Program.fieldsOf, hu]
    show (Op.equalIn (m + 1) t (.agg cs.toArray) (.agg ds.toArray)).run P w = _
    rw [run_equalIn_struct (P := P) w m t cs.toArray ds.toArray (by rw [hf]; exact hu) hc.2, hf]
    show _ = Result.ok (decide (x = y)) w
    rw [← hr]
    have hx : SM N fs g i x cs := hx
    have hy : SM N fs h j y ds := hy
    exact eqFs hc.1 he g h i j x y cs ds w hx.1 hy.1 (fun f hf => ((tiles_le ht).2.2 f hf).2.1) hx.2 hy.2 m (by omega)
  · cases hc
theorem elc {β : Type} [DecidableEq β] {o s off co : Nat} {l : List (Nat × Nat × Bool × Nat)} {fs : List (Fd α)} {d : Kd β} {p : α → β} {r' : α → α → Bool} {n' : Nat} (h : EqK P t a d n') (hn : Nat.ble n' n = true) (ho : off = o) (hs : d.sz = s) (h0 : Nat.blt 0 s = true) (k : EqL P n l fs r') : EqL P n ((o, t, a, s) :: l) (fd off co d p :: fs) (fun x y => decide (p x = p y) && r' x y) :=
  ⟨⟨ho, hs, by simp [Nat.blt] at h0; exact h0⟩, _, _, fun g h' i j x y cs ds w hx hy m hm => h g h' _ _ (p x) (p y) cs ds w hx hy m (Nat.le_trans (Nat.le_of_ble_eq_true hn) hm), k, fun _ _ => rfl⟩
theorem eln : EqL P n [] ([] : List (Fd α)) (fun _ _ => true) := fun _ _ => rfl
/-- Arrays. -/
theorem eqIs {d : Kd α} {N k q : Nat} (hE : EqK P e a d n) (hi : tinf P e = some (a, d.sz, q)) (h0 : 0 < d.sz) {g h : GW} {xs ys : List α} {cs ds : List Value} {w : World} (hx : Seg d g xs cs) (hy : Seg d h ys ds) (hl : xs.length = N) (hl' : ys.length = N) (m : Nat) (hm : n ≤ m) :
    ∀ (is : List Nat), (∀ i ∈ is, i < N) → (Op.eqItems m e d.sz cs.toArray ds.toArray is).run P w = .ok (is.all fun i => decide (xs[i]? = ys[i]?)) w
  | [], _ => by simp [Op.eqItems]
  | i :: is, hI => by
    have h1 : i < N := hI i (by simp)
    have hfit : i * d.sz + d.sz ≤ N * d.sz := by rw [← Nat.succ_mul]; exact Nat.mul_le_mul_right _ h1
    have p1 := run_part (P := P) (w := w) (o := i * d.sz) (cs := cs) hi (by rw [hx.1, hl]; exact hfit) h0
    have p2 := run_part (P := P) (w := w) (o := i * d.sz) (cs := ds) hi (by rw [hy.1, hl']; exact hfit) h0
    have p3 := hE g h 0 0 _ _ _ _ w (hx.2 i (by omega)) (hy.2 i (by omega)) m hm
    have ih := eqIs (k := k) (w := w) hE hi h0 hx hy hl hl' m hm is (fun j hj => hI j (by simp [hj]))
    have hd : decide (xs[i]? = ys[i]?) = decide (xs[i]'(by omega) = ys[i]'(by omega)) := by
      rw [List.getElem?_eq_getElem (by omega), List.getElem?_eq_getElem (by omega)]; simp
    rw [List.all_cons, hd]
    simp only [Op.eqItems, Sem.run_bind, p1, p2, p3, Result.andThen_ok]
    cases hb : decide (xs[i]'(by omega) = ys[i]'(by omega)) with
    | false => simp
    | true => simpa using ih
theorem all_eq {xs ys : List α} {N : Nat} (hl : xs.length = N) (hl' : ys.length = N) : ((List.range N).all fun i => decide (xs[i]? = ys[i]?)) = decide (xs = ys) := by
  by_cases h : xs = ys
  · subst h; simp
  · rw [decide_eq_false h, List.all_eq_false]
    have : ∃ i : Nat, xs[i]? ≠ ys[i]? := by
      by_cases hh : ∃ i : Nat, xs[i]? ≠ ys[i]?
      · exact hh
      · exact absurd (List.ext_getElem? fun i => by by_cases e : xs[i]? = ys[i]?; exact e; exact absurd ⟨i, e⟩ hh) h
    obtain ⟨i, hi⟩ := this
    refine ⟨i, ?_, by simpa using hi⟩
    rw [List.mem_range]
    rcases Nat.lt_or_ge i N with h | h
    · exact h
    · exact absurd (by rw [List.getElem?_eq_none (by omega), List.getElem?_eq_none (by omega)]) hi
theorem eqArr {d : Kd α} {N q : Nat} {h0 : d.nc = 0} (hu : tarr P t = some (N, e)) (hE : EqK P e a d n) (hi : tinf P e = some (a, d.sz, q)) (hp : Nat.blt 0 d.sz = true) : EqK P t true (kArr N d h0) (n + 1) := by
  rintro g h i j x y cs ds w ⟨hl, hx⟩ ⟨hl', hy⟩ m hm
  obtain ⟨m, rfl⟩ : ∃ k, m = k + 1 := ⟨m - 1, by omega⟩
  obtain ⟨ti, D, hti, hD, hag, hsz, hby⟩ := tinf_info hi
  show (Op.equalIn (m + 1) t (.agg cs.toArray) (.agg ds.toArray)).run P w = _
  have hc : P.cellsOf e = d.sz := by simp [Program.cellsOf, hti, hsz]
  rw [run_equalIn_array w m cs.toArray ds.toArray (tarr_und hu) hti, hc, eqIs (k := 0) hE hi (by simp [Nat.blt] at hp; exact hp) hx hy hl hl' m (by omega) _ (fun i hi => List.mem_range.1 hi), all_eq hl hl']
theorem eqNums {k : IntKind} {N q : Nat} (hu : tarr P t = some (N, e)) (he : tint P e = some k) (hi : tinf P e = some (false, 1, q)) : EqK P t true (kNums k N) 2 := by
  rintro g h i j x y cs ds w ⟨hl, rfl⟩ ⟨hl', rfl⟩ m hm
  have seg : ∀ (z : List Int) (g : GW), Seg (kInt k) g z (z.map (.int k)) := fun z g => ⟨by simp [kInt, kScal], fun j hj => by
    show ((z.map (Value.int k)).drop (j * 1)).take 1 = [.int k z[j]]
    rw [Nat.mul_one, List.drop_eq_getElem_cons (by simpa using hj)]; simp⟩
  exact eqArr (h0 := rfl) hu (eqInt he) hi rfl g h i j x y _ _ w ⟨hl, seg x g⟩ ⟨hl', seg y h⟩ m (by omega)
end
section
variable {P : Program} {ρ : Env} {w : World} {g : GW} {K : Value → World → Prop} {d : Option Nat} {T T' T2 : TypeId} {ps : String} {af : Array Edge} {gd : Option (Nat × Bool)} {x y : Operand} {α : Type} [DecidableEq α] {kd : Kd α} {n : Nat} {t : TypeId}
theorem s_eqA {cs ds : List Value} {i j : Nat} {u v : α} (hE : EqK P t true kd n) (hn : Nat.ble n 10000 = true) (hm : P.eqGuardType P.depth t = false) (hx : ρ.ev x = .agg cs.toArray) (hy : ρ.ev y = .agg ds.toArray) (h1 : kd.M g i u cs) (h2 : kd.M g j v ds) (k : K (.bool (decide (u = v))) w) : stp P ⟨d, .binOp .eql t x y T2, T', ps, af, gd⟩ ρ w K := by
  refine stp_run ?_ k
  have h := hE g g i j u v cs ds w h1 h2 10000 (Nat.le_of_ble_eq_true hn)
  simp only [execOp, hx, hy, Sem.run_bind, run_eqGuard_agg w .eql t x y _ _ hm, Result.andThen_ok, run_eql_struct]
  have h : (Op.equalIn 10000 t (.agg cs.toArray) (.agg ds.toArray)).run P w = .ok (decide (u = v)) w := h
  simp [h]
theorem s_neA {cs ds : List Value} {i j : Nat} {u v : α} (hE : EqK P t true kd n) (hn : Nat.ble n 10000 = true) (hm : P.eqGuardType P.depth t = false) (hx : ρ.ev x = .agg cs.toArray) (hy : ρ.ev y = .agg ds.toArray) (h1 : kd.M g i u cs) (h2 : kd.M g j v ds) (k : K (.bool (decide (u ≠ v))) w) : stp P ⟨d, .binOp .neq t x y T2, T', ps, af, gd⟩ ρ w K := by
  refine stp_run ?_ k
  have h := hE g g i j u v cs ds w h1 h2 10000 (Nat.le_of_ble_eq_true hn)
  simp only [execOp, hx, hy, Sem.run_bind, run_eqGuard_agg w .neq t x y _ _ hm, Result.andThen_ok, run_neq_struct]
  have h : (Op.equalIn 10000 t (.agg cs.toArray) (.agg ds.toArray)).run P w = .ok (decide (u = v)) w := h
  simp [h]
end
end Go.Tl
