/- The claim's end: what a reading says of a value, in kinds; what a function owes behind its call. -/
import Derived.Test.YtdbfbeckhccchaaRL
import Derived.Carry
import Derived.OpenShut
import Derived.Deep.Slices
namespace Go.Tl
open Go Go.RowKit Go.ChangeShapes
set_option linter.unusedVariables false
set_option linter.unusedSimpArgs false

/-- A world of which nothing is one's own. -/
def R0 (W : World) : GW := ⟨W, fun _ => 0⟩
theorem R0.lo (W : World) : Lo (fun c => c = 0) (R0 W) := fun _ _ => rfl
theorem R0.z {B : Nat} : ∀ c, (fun c => c = 0) c → c = 0 ∨ B ≤ c := fun _ h => .inl h
theorem Stp.below {W : World} {h : GW} (s : Stp no (R0 W) h) : Below W.heap.size W h.w := ⟨s.os, s.tp, s.op, s.n, fun k hk => (s.k k hk no_).2⟩
/-- What a reading of a type says of the cells. -/
def Rd (P : Program) {α : Type} (t : TypeId) (d : Kd α) (ok : α → Prop) : Prop :=
  ∀ (H : Type) (enc : TypeId × Value → H) (W : World) (base : Nat) (spare : Nat → Bool) (held : Bool) (fuel : Nat) (cs : List Value) (x : DataW H × List MemPlace), DataW.trod enc P W base spare held fuel t cs = some x → ∃ a, d.M (R0 W) 0 a cs ∧ ok a
section
variable {P : Program} {t e : TypeId} {α : Type} {d : Kd α} {ok : α → Prop}
theorem Rd.int {k : IntKind} (hu : tint P t = some k) : Rd P t (kInt k) (fun n => (Lit.int k n).wf = true) := fun H enc W base spare held fuel cs x h => by
  obtain ⟨n, rfl, _, hw⟩ := DataW.trod_int (tint_und hu) h
  exact ⟨n, rfl, hw⟩
theorem Rd.bool (hu : P.underlying t = some .bool) : Rd P t kBool (fun _ => True) := fun H enc W base spare held fuel cs x h => by
  obtain ⟨n, rfl, _⟩ := DataW.trod_bool hu h
  exact ⟨n, rfl, trivial⟩
theorem Rd.str (hu : P.underlying t = some .string) : Rd P t kStr (fun _ => True) := fun H enc W base spare held fuel cs x h => by
  obtain ⟨n, rfl, _⟩ := DataW.trod_string hu h
  exact ⟨n, rfl, trivial⟩
theorem choose_list {p : Nat → α → Prop} : ∀ {n : Nat}, (∀ i, i < n → ∃ a, p i a) → ∃ xs : List α, xs.length = n ∧ ∀ i (h : i < xs.length), p i xs[i]
  | 0, _ => ⟨[], rfl, fun i h => by simp at h⟩
  | n + 1, h => by
    obtain ⟨xs, hl, hx⟩ := choose_list (n := n) (fun i hi => h i (by omega))
    obtain ⟨a, ha⟩ := h n (by omega)
    refine ⟨xs ++ [a], by simp [hl], fun i hi => ?_⟩
    by_cases e : i < xs.length
    · rw [List.getElem_append_left e]; exact hx i e
    · have : i = xs.length := by simp at hi; omega
      subst this
      simp; rw [hl]; exact ha
theorem Rd.arr {n : Nat} {h0 : d.nc = 0} (hu : tarr P t = some (n, e)) (he : Rd P e d ok) (hs : P.cellsOf e = d.sz) (ht : P.cellsOf t = n * d.sz) : Rd P t (kArr n d h0) (fun xs => xs.length = n ∧ ∀ v ∈ xs, ok v) := fun H enc W base spare held fuel cs x h => by
  obtain ⟨xs, m, rfl, rfl, hl, hn, hx⟩ := DataW.trod_array (tarr_und hu) h
  obtain ⟨ys, hy, hp⟩ := choose_list (n := n) (p := fun i a => d.M (R0 W) 0 a ((cs.drop (i * d.sz)).take d.sz) ∧ ok a) (fun i hi => by
    have h1 := hx i hi
    rw [hs, List.getElem?_eq_getElem (by omega)] at h1
    exact he H enc W base spare held m _ _ h1)
  refine ⟨ys, ⟨hy, by rw [hl, ht, hy], fun j hj => (hp j hj).1⟩, hy, fun v hv => ?_⟩
  obtain ⟨j, hj, rfl⟩ := List.mem_iff_getElem.1 hv
  exact (hp j hj).2
theorem Rd.nums {n : Nat} {k : IntKind} (hu : tarr P t = some (n, e)) (he : tint P e = some k) (hs : P.cellsOf e = 1) (ht : P.cellsOf t = n) : Rd P t (kNums k n) (fun xs => xs.length = n ∧ ∀ v ∈ xs, (Lit.int k v).wf = true) := fun H enc W base spare held fuel cs x h => by
  obtain ⟨xs, ⟨hl, hx⟩, hok⟩ := Rd.arr (h0 := rfl) hu (Rd.int he) hs (by rw [ht]; exact (Nat.mul_one n).symm) H enc W base spare held fuel cs x h
  refine ⟨xs, ⟨hl, ?_⟩, hok⟩
  apply List.ext_getElem?
  intro q
  have hlen : cs.length = xs.length * 1 := hx.1
  by_cases hq : q < xs.length
  · have h1 : ((cs.drop (q * 1)).take 1) = [.int k xs[q]] := hx.2 q hq
    rw [Nat.mul_one] at h1
    rw [seg1 h1]; simp [hq]
  · rw [List.getElem?_eq_none (by omega), List.getElem?_eq_none (by simp; omega)]
theorem cells_some {w : World} {base n : Nat} {a : Addr} {l : List Value} (h : w.cells? base a n = some l) : l.length = n ∧ ∀ i, i < n → w.cell? (a.add i) = l[i]? := by
  unfold World.cells? at h
  split at h
  · refine ⟨by simpa using mapM_some_length h, fun i hi => ?_⟩
    exact mapM_some_get h i i (by simp [hi])
  · cases h
theorem Rd.sl {h0 : d.nc = 0} (hu : tsl P t = some e) (he : Rd P e d ok) (hs : P.cellsOf e = d.sz) (hp : Nat.blt 0 d.sz = true) : Rd P t (kSl d h0) (fun xs => ∀ v ∈ xs, ok v) := fun H enc W base spare held fuel cs x h => by
  have hp : 0 < d.sz := by simp [Nat.blt] at hp; exact hp
  rcases DataW.trod_slice (tsl_und hu) h with ⟨rfl, _⟩ | ⟨a, len, cap, elems, rest, m, rfl, rfl, _, hb, hl, _, hn, hx, _⟩
  · exact ⟨[], (kSl d h0).zk rfl, fun v hv => by cases hv⟩
  · rw [hs] at hx
    have hc : ∀ i, i < len → ∃ l, W.cells? base (a.add (i * d.sz)) d.sz = some l ∧ ∃ y, d.M (R0 W) 0 y l ∧ ok y := fun i hi => by
      have h1 := hx i hi
      rw [List.getElem?_eq_getElem (by omega)] at h1
      cases hl : W.cells? base (a.add (i * d.sz)) d.sz with
      | none => rw [hl] at h1; cases h1
      | some l => rw [hl] at h1; exact ⟨l, rfl, he H enc W base spare held m _ _ h1⟩
    obtain ⟨ys, hy, hp2⟩ := choose_list (n := len) (p := fun i y => ∃ l, W.cells? base (a.add (i * d.sz)) d.sz = some l ∧ d.M (R0 W) 0 y l ∧ ok y) (fun i hi => by
      obtain ⟨l, h1, y, h2⟩ := hc i hi
      exact ⟨y, l, h1, h2⟩)
    refine ⟨ys, ⟨some a, cap, by rw [hy], by omega, ?_⟩, fun v hv => ?_⟩
    · by_cases h00 : ys = []
      · exact .inl h00
      · right
        have hlen : 0 < len := by rw [← hy]; exact List.length_pos_iff.2 h00
        obtain ⟨b, o, sp⟩ := a
        have cell : ∀ i q, i < len → q < d.sz → ∃ c T fz u, W.heap[b]? = some (.cells c T fz) ∧ (i * d.sz + q = 0 → sp = none) ∧ c[o + (i * d.sz + q)]? = some u := fun i q hi hq => by
          obtain ⟨l, h1, _⟩ := hc i hi
          obtain ⟨hl1, hl2⟩ := cells_some h1
          have h2 := hl2 q hq
          rw [List.getElem?_eq_getElem (by omega)] at h2
          have hadd : ((⟨b, o, sp⟩ : Addr).add (i * d.sz)).add q = (⟨b, o, sp⟩ : Addr).add (i * d.sz + q) := by
            unfold Addr.add
            by_cases h1 : i * d.sz = 0
            · simp [h1]
            · by_cases h2 : q = 0
              · simp [h2]
              · simp [h1, h2]; omega
          rw [hadd] at h2
          unfold World.cell? at h2
          have hblk : ((⟨b, o, sp⟩ : Addr).add (i * d.sz + q)).block = b := by unfold Addr.add; split <;> rfl
          rw [hblk] at h2
          split at h2
          · rename_i c T fz hh
            split at h2
            · cases h2
            · rename_i hsp
              have hoff : ((⟨b, o, sp⟩ : Addr).add (i * d.sz + q)).off = o + (i * d.sz + q) := by unfold Addr.add; split <;> simp_all
              rw [hoff] at h2
              refine ⟨c, T, fz, _, hh, fun hz => ?_, h2⟩
              rw [hz] at hsp; simpa [Addr.add] using hsp
          · cases h2
        obtain ⟨c, T, fz, _, hh, hsp, _⟩ := cell 0 0 hlen hp
        have hsp := hsp (by simp)
        subst hsp
        have hlt : b < W.heap.size := (Array.getElem?_eq_some_iff.1 hh).1
        have hcel : ∀ i q, i < len → q < d.sz → ∃ u, c[o + (i * d.sz + q)]? = some u := fun i q hi hq => by
          obtain ⟨c', _, _, u, h1, _, h2⟩ := cell i q hi hq
          rw [hh] at h1; cases h1
          exact ⟨u, h2⟩
        have hfit : o + ys.length * d.sz ≤ c.toList.length := by
          obtain ⟨u, hu⟩ := hcel (len - 1) (d.sz - 1) (by omega) (by omega)
          have := (Array.getElem?_eq_some_iff.1 hu).1
          have e : (len - 1) * d.sz + d.sz = len * d.sz := by rw [← Nat.succ_mul]; congr 1; omega
          simp only [Array.length_toList]
          rw [hy]; omega
        refine ⟨b, o, c.toList, rfl, ⟨hlt, rfl, T, fz, by show W.heap[b]? = _; simpa using hh⟩, hfit, by rw [List.length_take, List.length_drop]; omega, fun j hj => ?_⟩
        obtain ⟨l, h1, h2, _⟩ := hp2 j hj
        obtain ⟨hl1, hl2⟩ := cells_some h1
        have hjs : j * d.sz + d.sz ≤ ys.length * d.sz := by rw [← Nat.succ_mul]; exact Nat.mul_le_mul_right _ hj
        rw [seg_seg hjs]
        have : (c.toList.drop (o + j * d.sz)).take d.sz = l := by
          apply List.ext_getElem?
          intro q
          rw [List.getElem?_take, List.getElem?_drop]
          by_cases hq : q < d.sz
          · rw [if_pos hq, ← hl2 q hq]
            have hadd : ((⟨b, o, none⟩ : Addr).add (j * d.sz)).add q = ⟨b, o + j * d.sz + q, none⟩ := by rw [add_at, add_at]
            rw [hadd]
            simp [World.cell?, hh]
          · rw [if_neg hq, List.getElem?_eq_none (by omega)]
        rw [this]; exact h2
    · obtain ⟨j, hj, rfl⟩ := List.mem_iff_getElem.1 hv
      obtain ⟨_, _, _, h3⟩ := hp2 j hj
      exact h3
/-- The fields of a struct type: offset, type, cells. -/
def rchk1 (P : Program) : List Field → List (Nat × Nat × Nat) → Bool
  | [], [] => true
  | f :: fl, (o, t, s) :: r => Nat.beq f.offset o && Nat.beq f.type t && Nat.beq (P.cellsOf t) s && rchk1 P fl r
  | _, _ => false
def rchk (P : Program) (t : TypeId) (n : Nat) (l : List (Nat × Nat × Nat)) : Bool :=
  match P.underlying t with
  | some (.struct fs) => rchk1 P fs.toList l && Nat.beq (P.cellsOf t) n
  | _ => false
theorem rchk1uget : ∀ {fl : List Field} {l : List (Nat × Nat × Nat)}, rchk1 P fl l = true → ∀ (j o t s : Nat), l[j]? = some (o, t, s) → ∃ f, fl[j]? = some f ∧ f.offset = o ∧ f.type = t ∧ P.cellsOf t = s
  | [], [], _, _, _, _, _, hj => by simp at hj
  | f :: fl, (o, t, s) :: r, h, 0, o', t', s', hj => by
    simp only [rchk1, Bool.and_eq_true] at h
    simp at hj
    obtain ⟨rfl, rfl, rfl⟩ := hj
    exact ⟨f, rfl, Nat.eq_of_beq_eq_true h.1.1.1, Nat.eq_of_beq_eq_true h.1.1.2, Nat.eq_of_beq_eq_true h.1.2⟩
  | f :: fl, (o, t, s) :: r, h, j + 1, o', t', s', hj => by
    simp only [rchk1, Bool.and_eq_true] at h
    simpa using rchk1uget h.2 j o' t' s' (by simpa using hj)
theorem trod_st {n : Nat} {l : List (Nat × Nat × Nat)} (hc : rchk P t n l = true) {H : Type} {enc : TypeId × Value → H} {W : World} {base : Nat} {spare : Nat → Bool} {held : Bool} {fuel : Nat} {cs : List Value} {x : DataW H × List MemPlace} (h : DataW.trod enc P W base spare held fuel t cs = some x) :
    cs.length = n ∧ ∃ m, ∀ (j o t s : Nat), l[j]? = some (o, t, s) → ∃ y, DataW.trod enc P W base spare held m t ((cs.drop o).take s) = some y := by
  unfold rchk at hc
  split at hc
  · rename_i fs hu
    rw [Bool.and_eq_true] at hc
    obtain ⟨xs, m, rfl, _, hl, hn, hx⟩ := DataW.trod_struct hu h
    refine ⟨hl.trans (Nat.eq_of_beq_eq_true hc.2), m, fun j o t s hj => ?_⟩
    obtain ⟨f, hf, rfl, rfl, rfl⟩ := rchk1uget hc.1 j o t s hj
    have hf' : fs[j]? = some f := by simpa using hf
    have := hx j f hf'
    have hlt : j < xs.length := by rw [hn]; exact (Array.getElem?_eq_some_iff.1 hf').1
    rw [List.getElem?_eq_getElem hlt] at this
    exact ⟨_, this⟩
  · cases hc
theorem fmc {α : Type} {p : Fd α → Prop} {f : Fd α} {r : List (Fd α)} (h : p f) (k : ∀ g ∈ r, p g) : ∀ g ∈ f :: r, p g := List.forall_mem_cons.2 ⟨h, k⟩
theorem fmn {α : Type} {p : Fd α → Prop} : ∀ g ∈ ([] : List (Fd α)), p g := fun _ h => by cases h
end
/-! ### Values -/
section
variable {P : Program} {t e : TypeId} {α : Type} {d : Kd α} {ok : α → Prop} {H : Type} {enc : TypeId × Value → H} {W : World} {b0 base : Nat} {spare : Nat → Bool} {held : Bool} {v : Value} {x : DataW H} {ps : List MemPlace} {r : Reach}
theorem open_sl {h0 : d.nc = 0} {okl : List α → Prop} (hu : tsl P t = some e) (hr : Rd P t (kSl d h0) okl) (hv : Value.okWide P W r b0 t v) (h : DataW.Trod enc P W base spare held t v x ps) : ∃ xs, Sl d (R0 W) 0 xs v ∧ okl xs := by
  obtain ⟨a, l, c, rfl⟩ := WideShapes.okWide_slice (tsl_und hu) hv
  obtain ⟨fuel, hf⟩ := h
  obtain ⟨xs, hm, hok⟩ := hr H enc W base spare held fuel _ _ hf
  obtain ⟨v', e, hs⟩ := Sl.of h0 hm
  simp [Value.cells] at e
  subst e
  exact ⟨xs, hs, hok⟩
theorem open_ag {f : Bool} (hu : (match P.underlying t with | some (.struct _) => true | some (.array _ _) => true | _ => false) = true) (hr : Rd P t d ok) (hv : Value.okWide P W r b0 t v) (h : DataW.Trod enc P W base spare held t v x ps) : ∃ a cs, v = .agg (List.toArray cs) ∧ d.M (R0 W) 0 a cs ∧ ok a := by
  obtain ⟨cs, rfl⟩ : ∃ cs, v = .agg cs := by
    unfold Value.okWide at hv
    split at hu <;> rename_i hh <;> first
      | (rw [hh] at hv; obtain ⟨cs, e, _⟩ := hv; exact ⟨cs, e⟩)
      | cases hu
  obtain ⟨fuel, hf⟩ := h
  obtain ⟨a, hm, hok⟩ := hr H enc W base spare held fuel _ _ hf
  exact ⟨a, cs.toList, by simp, hm, hok⟩
end
/-! ### What is owed behind the call -/
section
variable {P : Program} {H : Type} {enc : TypeId × Value → H}
theorem trodAll_below (hl : laidOutB P = true) {W W' : World} (hb : Below W.heap.size W W') {sp : Nat → Bool} : ∀ {ts : List TypeId} {vs : List Value} {ds : List (DataW H)} {ps : List MemPlace}, (ts.all fun t => P.readableRec t && Nat.blt t P.types.size) = true → DataW.TrodAll enc P W 0 (fun _ => true) true ts vs ds ps → (∀ p ∈ ps, p.block < W.heap.size) → (∀ p ∈ ps, sp p.block = true) → DataW.TrodAll enc P W' 0 sp true ts vs ds ps
  | [], [], [], ps, _, h, _, _ => h
  | t :: ts, v :: vs, d :: ds, ps, ht, h, hlt, hsp => by
    obtain ⟨p, q, h1, h2, rfl⟩ := h
    rw [List.all_cons, Bool.and_eq_true, Bool.and_eq_true] at ht
    have h3 : t < P.types.size := by have := ht.1.2; simp only [Nat.blt] at this; exact Nat.le_of_ble_eq_true this
    exact ⟨p, q, WideElems.Trod_stays hl ht.1.1 h3 h1 (fun x hx => hb.same (hlt x (by simp [hx]))) (fun x hx => hsp x (by simp [hx])), trodAll_below hl hb ht.2 h2 (fun x hx => hlt x (by simp [hx])) (fun x hx => hsp x (by simp [hx])), rfl⟩
/-- The law's whole: it returns true, and all reads as it did. -/
theorem post_true {f : Func} {s : ChangeSpec} {apart fresh handsOn again : Bool} {W : World} {h : GW} {args : Array Value} {ds : List (DataW H)} {before : List MemPlace} {tb : TypeId}
    (hl : laidOutB P = true) (hp : (f.params.toList.all fun t => P.readableRec t && Nat.blt t P.types.size) = true) (hrt : f.resultTypes = #[tb]) (hb : P.underlying tb = some .bool) (hv : s.vars = [])
    (hW : DataW.Whole enc P f.params.toList s.vars apart W args.toList ds [] before) (hs : (s.fn H (ds ++ [])) = { results := [.lit (.bool true)], args := ds }) (st : Stp no (R0 W) h) : s.post enc P f apart fresh handsOn again W args (.bool true) h.w := by
  have below := st.below
  have hres : ∀ (b : Nat) (sp : Nat → Bool) (hd : Bool), DataW.TrodAll enc P h.w b sp hd f.resultTypes.toList ((Value.bool true).resultList f.resultTypes.size) (s.fn H (ds ++ [])).results [] := fun b sp hd => by
    rw [hrt, hs]
    exact ⟨[], [], shut_bool hb true, rfl, rfl⟩
  have hargs : ∀ sp : Nat → Bool, (∀ p ∈ before, sp p.block = true) → DataW.TrodAll enc P h.w 0 sp true f.params.toList args.toList (s.fn H (ds ++ [])).args before := fun sp hsp => by
    obtain ⟨p, q, h1, h2, rfl, _⟩ := id hW
    rw [hv] at h2
    have hq : q = [] := h2
    subst hq
    rw [hs]
    have e : p ++ [] = p := List.append_nil p
    rw [e] at hW hsp ⊢
    exact trodAll_below hl below hp h1 (fun x hx => hW.lt x hx) hsp
  have hvars : ∀ sp : Nat → Bool, DataW.TrodVars enc P h.w sp s.vars (s.fn H (ds ++ [])).vars [] := fun sp => by rw [hs, hv]; rfl
  have hold : ∀ p ∈ before, (fun b => decide (b < W.heap.size)) p.block = true := fun p hp => by simpa using hW.lt p hp
  refine ⟨ds, [], before, [], before, [], hW, hres _ _ _, hargs _ hold, hvars _, World.keptBut_mono (fun p hp => ⟨hp, by simpa using hp⟩) (below.frame (· ∈ before)), fun _ => ?_⟩
  · obtain ⟨_, _, _, _, _, hz, hn⟩ := id hW
    refine ⟨ok_one hrt rfl (okWide_bool_mk hb true), _, _, ([] ++ before) ++ [], ⟨[] ++ before, [], trodAll_append (hargs _ (fun _ _ => rfl)) (hres _ _ _), hvars _, rfl, ?_, ?_⟩, ?_⟩
    · intro b off hp
      have hp : MemPlace.cell b off ∈ before := by simpa using hp
      have hlt : b < W.heap.size := hW.lt _ hp
      rw [below.frozen (p := ⟨b, off, none⟩) hlt]
      exact hz b off hp
    · intro ha
      simpa using hn ha
    · intro p hp _
      simpa using hp
end
end Go.Tl
