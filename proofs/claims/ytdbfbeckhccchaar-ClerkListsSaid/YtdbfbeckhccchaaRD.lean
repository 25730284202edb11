/- Memory: addresses, loads, stores, new variables, built values. -/
import Derived.Test.YtdbfbeckhccchaaRC
import Derived.Laws.Rows
namespace Go.Tl
open Go
set_option linter.unusedVariables false
set_option linter.unusedSimpArgs false

/-- What a function's walk carries: the frame since the entry, and the colours' bound. -/
structure Inv (M Z : Nat → Prop) (g0 g : GW) : Prop where
  s : Stp M g0 g
  l : Lo Z g
theorem Inv.start {M Z : Nat → Prop} {g : GW} (l : Lo Z g) : Inv M Z g g := ⟨Stp.refl _ _, l⟩
theorem Inv.dr {M Z : Nat → Prop} {g0 g : GW} (I : Inv M Z g0 g) : Inv M Z g0 g.dr := ⟨I.s.then (Stp.dr g) (fun _ h => h.elim), I.l.dr⟩
theorem Inv.to {M m Z : Nat → Prop} {g0 g h : GW} (I : Inv M Z g0 g) (s : Stp m g h) (l : Lo Z h) (hm : ∀ c, m c → M c) : Inv M Z g0 h := ⟨I.s.then s hm, l⟩

/-! ### Places in a row of cells -/
def At {α : Type} (d : Kd α) (g : GW) (i : Nat) (x : α) (L : List Value) (o : Nat) : Prop := d.M g i x ((L.drop o).take d.sz)
section
variable {α β : Type} {g h : GW} {i o j : Nat} {L L' : List Value}
theorem At.up {d : Kd α} {x : α} {m : Nat → Prop} (k : At d g i x L o) (s : Stp m g h) (hm : ¬ m 0) (hi : ∀ k, k < d.nc → ¬ m (i + k)) : At d h i x L o := d.up s hm hi k
theorem At.whole {d : Kd α} {x : α} (k : d.M g i x L) : At d g i x L 0 := by
  unfold At; rw [List.drop_zero, ← d.len k, List.take_length]; exact k
theorem At.all {d : Kd α} {x : α} (k : At d g i x L 0) (hl : L.length = d.sz) : d.M g i x L := by
  unfold At at k; rwa [List.drop_zero, ← hl, List.take_length] at k
theorem At.fits {d : Kd α} {x : α} (k : At d g i x L o) (h0 : 0 < d.sz) : o + d.sz ≤ L.length := by
  have := d.len k
  simp at this; omega
theorem seg_seg {a s b t : Nat} (h : b + t ≤ s) : (((L.drop a).take s).drop b).take t = (L.drop (a + b)).take t := by
  rw [List.drop_take, List.drop_drop, List.take_take, Nat.min_eq_left (by omega)]
theorem At.fld {n nc : Nat} {fs : List (Fd α)} {z : α} {ht : tiles n nc 0 0 fs = true} {hz : fs.all (·.zok) = true → AllZ z fs} {x : α} {off co : Nat} {d : Kd β} {p : α → β}
    (k : At (kSt n nc fs z ht hz) g i x L o) (j : Nat) (hj : fs[j]? = some (fd off co d p)) : At d g (i + co) (p x) L (o + off) := by
  have h1 := SM.get k j hj
  have h2 := (tiles_le ht).2.2 _ (List.mem_of_getElem? hj)
  have e := seg_seg (L := L) (a := o) (s := n) (b := off) (t := d.sz) h2.2.1
  show d.M g (i + co) (p x) _
  rw [← e]
  exact h1
theorem At.elt {n : Nat} {d : Kd α} {h0 : d.nc = 0} {x : List α} (k : At (kArr n d h0) g i x L o) (j : Nat) (hj : j < x.length) : At d g 0 x[j] L (o + j * d.sz) := by
  obtain ⟨hl, hs⟩ := k
  have h1 := hs.2 j hj
  have e := seg_seg (L := L) (a := o) (s := n * d.sz) (b := j * d.sz) (t := d.sz) (by rw [← Nat.succ_mul]; exact Nat.mul_le_mul_right _ (by omega))
  unfold At
  rw [← e]; exact h1
theorem At.num {n : Nat} {k : IntKind} {x : List Int} (h : At (kNums k n) g i x L o) (j : Nat) (hj : j < x.length) : L[o + j]? = some (.int k x[j]) := by
  obtain ⟨hl, hs⟩ := h
  have h1 : j < n := by omega
  have := congrArg (·[j]?) hs
  simp only [kNums, List.getElem?_take, h1, if_true, List.getElem?_drop] at this
  rw [this]; simp [hj]
theorem Seg.elt {d : Kd α} {xs : List α} {n : Nat} (k : Seg d g xs ((L.drop o).take (n * d.sz))) (hn : xs.length ≤ n) (j : Nat) (hj : j < xs.length) : At d g 0 xs[j] L (o + j * d.sz) := by
  have h1 := k.2 j hj
  rw [seg_seg (by rw [← Nat.succ_mul]; exact Nat.mul_le_mul_right _ (by omega))] at h1
  exact h1
theorem At.sc {f : α → Value} {z : α} {hf : ∀ x, (f x).oneCell' = true} {x : α} (k : At (kScal f z hf) g i x L o) : L[o]? = some (f x) := seg1 k
theorem At.cell {d : Kd α} {x : α} {v : Value} (k : At d g i x L o) (hs : d.sz = 1) (hv : ∀ cs, d.M g i x cs → cs = [v]) : L[o]? = some v := by
  unfold At at k; rw [hs] at k; exact seg1 (hv _ k)
/-- L' is L but for n cells from a on. -/
def Upd (L L' : List Value) (a n : Nat) : Prop := L'.length = L.length ∧ ∀ q, (q < a ∨ a + n ≤ q) → L'[q]? = L[q]?
theorem Upd.spl {seg : List Value} {a : Nat} (h : a + seg.length ≤ L.length) : Upd L (spl L a seg) a seg.length :=
  ⟨spl_length h, fun q hq => by rw [spl_get _ _ _ _ h, if_neg (by omega)]⟩
theorem Upd.seg {a n b t : Nat} (h : Upd L L' a n) (hd : b + t ≤ a ∨ a + n ≤ b) : (L'.drop b).take t = (L.drop b).take t := by
  apply List.ext_getElem?
  intro q
  rw [List.getElem?_take, List.getElem?_take, List.getElem?_drop, List.getElem?_drop]
  by_cases hq : q < t
  · rw [if_pos hq, if_pos hq, h.2 _ (by omega)]
  · rw [if_neg hq, if_neg hq]
theorem At.put {d : Kd α} {x : α} {seg : List Value} (k : d.M g i x seg) (h : o + seg.length ≤ L.length) : At d g i x (spl L o seg) o := by
  unfold At; rw [← d.len k, spl_seg_same h]; exact k
theorem At.setF {n nc : Nat} {fs : List (Fd α)} {z : α} {ht : tiles n nc 0 0 fs = true} {hz : fs.all (·.zok) = true → AllZ z fs} {x y : α} {off co a m : Nat} {d : Kd β} {p : α → β}
    (k : At (kSt n nc fs z ht hz) g i x L o) (j : Nat) (hj : fs[j]? = some (fd off co d p)) (hs : Same x y j fs) (hu : Upd L L' a m) (h1 : o + off ≤ a) (h2 : a + m ≤ o + off + d.sz)
    (h' : At d g (i + co) (p y) L' (o + off)) : At (kSt n nc fs z ht hz) g i y L' o := by
  have hle := (tiles_le ht).2.2 _ (List.mem_of_getElem? hj)
  have hk : SM n fs g i x ((L.drop o).take n) := k
  show SM n fs g i y ((L'.drop o).take n)
  refine ⟨by have := hk.1; simp at this ⊢; rw [hu.1]; exact this, fun f' hf' => ?_⟩
  obtain ⟨q, hq⟩ := List.mem_iff_getElem?.1 hf'
  have hf'l := (tiles_le ht).2.2 _ hf'
  rw [seg_seg (by omega)]
  by_cases e : q = j
  · subst e
    rw [hj] at hq
    injection hq with hq
    subst hq
    exact h'
  · have h3 := hk.2 f' hf'
    rw [seg_seg (by omega)] at h3
    have hap : f'.off + f'.sz ≤ off ∨ off + d.sz ≤ f'.off := by
      rcases Nat.lt_or_gt_of_ne e with hlt | hgt
      · left; exact (tiles_apart ht q j f' _ hq hj hlt).1
      · right; exact (tiles_apart ht j q _ f' hj hq hgt).1
    rw [hu.seg (by omega)]
    exact f'.ext (hs.mem q f' hq e) h3
theorem At.setE {n : Nat} {d : Kd α} {h0 : d.nc = 0} {x : List α} {y : α} {a m : Nat} (k : At (kArr n d h0) g i x L o) (j : Nat) (hj : j < x.length) (hu : Upd L L' a m) (h1 : o + j * d.sz ≤ a) (h2 : a + m ≤ o + j * d.sz + d.sz)
    (h' : At d g 0 y L' (o + j * d.sz)) : At (kArr n d h0) g i (x.set j y) L' o := by
  obtain ⟨hl, hs⟩ := k
  have hfit : ∀ q, q < n → q * d.sz + d.sz ≤ n * d.sz := fun q hq => by rw [← Nat.succ_mul]; exact Nat.mul_le_mul_right _ hq
  refine ⟨by simp [hl], by have := hs.1; simp [kArr, hu.1] at this ⊢; exact this, fun q hq => ?_⟩
  have hq' : q < x.length := by simpa using hq
  show d.M g 0 _ ((((L'.drop o).take (n * d.sz)).drop (q * d.sz)).take d.sz)
  rw [seg_seg (hfit q (by omega)), List.getElem_set]
  by_cases e : j = q
  · subst e; rw [if_pos rfl]; exact h'
  · rw [if_neg e]
    have h3 := hs.2 q hq'
    have h4 : d.M g 0 x[q] ((L.drop (o + q * d.sz)).take d.sz) := by
      have := seg_seg (L := L) (a := o) (s := n * d.sz) (b := q * d.sz) (t := d.sz) (hfit q (by omega))
      rw [← this]; exact h3
    rw [hu.seg ?_]
    · exact h4
    · rcases Nat.lt_or_gt_of_ne e with hlt | hgt
      · right
        have : j * d.sz + d.sz ≤ q * d.sz := by rw [← Nat.succ_mul]; exact Nat.mul_le_mul_right _ hlt
        omega
      · left
        have : q * d.sz + d.sz ≤ j * d.sz := by rw [← Nat.succ_mul]; exact Nat.mul_le_mul_right _ hgt
        omega
theorem At.setN {n : Nat} {k : IntKind} {x : List Int} {y : Int} (h : At (kNums k n) g i x L o) (j : Nat) (hj : j < x.length) (hu : Upd L L' (o + j) 1) (h' : L'[o + j]? = some (.int k y)) : At (kNums k n) g i (x.set j y) L' o := by
  obtain ⟨hl, hs⟩ := h
  refine ⟨by simp [hl], ?_⟩
  simp only [kNums] at hs ⊢
  apply List.ext_getElem?
  intro q
  have h1 := congrArg (·[q]?) hs
  simp only [List.getElem?_take, List.getElem?_drop, List.getElem?_map, List.getElem?_set] at h1 ⊢
  by_cases hq : q < n
  · rw [if_pos hq] at h1 ⊢
    by_cases e : j = q
    · subst e; rw [h', if_pos rfl, if_pos hj]; rfl
    · rw [if_neg e, hu.2 _ (by omega), h1]
  · rw [if_neg hq] at h1 ⊢
    by_cases e : j = q
    · omega
    · rw [if_neg e, h1]
end

/-! ### The cells of a block, whoever owns it -/
def Cells (w : World) (b : Nat) (L : List Value) : Prop := ∃ T fz, w.heap[b]? = some (.cells L.toArray T fz)
theorem Blk.cells {g : GW} {b c : Nat} {T : TypeId} {L : List Value} (k : Blk g b c T L) : Cells g.w b L := ⟨T, _, k.2.2⟩
theorem Imm.cells {g : GW} {b c : Nat} {L : List Value} (k : Imm g b c L) : Cells g.w b L := k.2.2
theorem Cells.cell {w : World} {b : Nat} {L : List Value} (k : Cells w b L) (o : Nat) : w.cell? ⟨b, o, none⟩ = L[o]? := by
  obtain ⟨T, fz, h⟩ := k
  simp [World.cell?, h]
theorem add_at (b o n : Nat) : (⟨b, o, none⟩ : Addr).add n = ⟨b, o + n, none⟩ := by unfold Addr.add; split <;> simp_all
section
variable {P : Program} {ρ : Env} {w : World} {g g0 : GW} {K : Value → World → Prop} {d : Option Nat} {T T' T2 : TypeId} {ps : String} {af : Array Edge} {gd : Option (Nat × Bool)} {x y z : Operand} {b o s by_ : Nat} {L seg : List Value} {v : Value} {M Z : Nat → Prop} {c : Nat}
theorem run_ld1 (ht : tinf P T = some (false, s, by_)) {a : Addr} (hc : w.cell? a = some v) : (Instr.loadAt T (.pointer (some a))).run P w = .ok v w := by
  simp [Instr.loadAt, Instr.sureAddr, loadVar, run_agg ht, hc]
theorem run_ldA (ht : tinf P T = some (true, s, by_)) (hc : Cells w b L) (hl : o + s ≤ L.length) : (Instr.loadAt T (.pointer (some ⟨b, o, none⟩))).run P w = .ok (.agg ((L.drop o).take s).toArray) w := by
  have hlen : ((L.drop o).take s).length = s := by simp; omega
  have := run_loadCells_list (P := P) w ⟨b, o, none⟩ ((L.drop o).take s) (fun j v hv => by
    rw [add_at, hc.cell]
    rw [List.getElem?_take, List.getElem?_drop] at hv
    split at hv
    · exact hv
    · cases hv)
  rw [hlen] at this
  simp [Instr.loadAt, Instr.sureAddr, loadVar, run_agg ht, run_size ht, this]
theorem s_ld1 (ht : tinf P T = some (false, s, by_)) (hx : ρ.ev x = .pointer (some ⟨b, o, none⟩)) (hc : Cells w b L) (hv : L[o]? = some v) (k : K v w) : stp P ⟨d, .load T x, T', ps, af, gd⟩ ρ w K :=
  stp_run (by simp [execOp, hx, run_ld1 ht ((hc.cell o).trans hv)]) k
theorem s_ldA (ht : tinf P T = some (true, s, by_)) (hx : ρ.ev x = .pointer (some ⟨b, o, none⟩)) (hc : Cells w b L) (hl : o + s ≤ L.length) (k : K (.agg ((L.drop o).take s).toArray) w) : stp P ⟨d, .load T x, T', ps, af, gd⟩ ρ w K :=
  stp_run (by simp [execOp, hx, run_ldA ht hc hl]) k
/-- The cells of a value. -/
def cv (v : Value) : List Value := v.cells.toList
theorem cv_agg (L : List Value) : cv (.agg L.toArray) = L := rfl
theorem cv_one (h : v.oneCell' = true) : cv v = [v] := by cases v <;> first | rfl | (simp [Value.oneCell'] at h)
theorem run_st {a : Bool} (ht : tinf P T = some (a, s, by_)) (hb : Blk g b c T' L) (hv : cv v = seg) (h1 : ∀ u ∈ seg, u.oneCell' = true) (hs : seg.length = s) (hl : o + s ≤ L.length) :
    (Instr.storeAt T (.pointer (some ⟨b, o, none⟩)) v).run P g.w = .ok () (g.sr b (spl L o seg)).w := by
  have h2 := run_storeCells_at P b o T' seg 0 L.toArray g.w hb.2.2 (by simp; omega) h1
  have hsz : v.cells.size = s := by rw [← hs, ← hv]; simp [cv]
  simp only [Nat.add_zero] at h2
  simp only [Instr.storeAt, Instr.sureAddr, storeVar, Sem.run_bind, Sem.run_pure, Result.andThen_ok, run_size ht, hsz]
  have hv' : v.cells.toList = seg := hv
  simp [hv', h2, GW.sr, spl]
theorem s_st {a : Bool} (I : Inv M Z g0 g) (ht : tinf P T = some (a, s, by_)) (hx : ρ.ev x = .pointer (some ⟨b, o, none⟩)) (hy : cv (ρ.ev y) = seg) (h1 : ∀ u ∈ seg, u.oneCell' = true) (hs : seg.length = s)
    (hb : Blk g b c T' L) (hl : o + s ≤ L.length) (hM : M c) (k : ∀ h, Stp (at_ c) g h → Inv M Z g0 h → Blk h b c T' (spl L o seg) → K undef h.w) : stp P ⟨d, .store T x y, T2, ps, af, gd⟩ ρ g.w K :=
  stp_skip (by simp [execOp, hx, run_st ht hb hy h1 hs hl]) (k (g.sr b (spl L o seg)) (Stp.sr g b _ hb.2.1) ⟨I.s.then (Stp.sr g b _ hb.2.1) (fun c' h => by cases h; exact hM), I.l.sr b _⟩ (hb.sr _))
theorem s_box (c : Nat) (I : Inv M Z g0 g) (hc : Z c) (hx : cv (ρ.ev x) = L) (k : ∀ h b, Stp no g h → Inv M Z g0 h → Blk h b c T L → K (.pointer (some ⟨b, 0, none⟩)) h.w) : stp P ⟨d, .box T x, T', ps, af, gd⟩ ρ g.w K := by
  refine stp_run (v := .pointer (some ⟨g.n, 0, none⟩)) (w' := (g.al (.cells L.toArray T (0, 0)) c).w) ?_ (k _ _ (Stp.al g _ c) ⟨I.s.then (Stp.al g _ c) (fun c h => h.elim), I.l.al _ hc⟩ (Blk.al g T L c))
  have : (ρ.ev x).cells = L.toArray := by rw [← hx]; simp [cv]
  simp [execOp, Instr.box, newVar, newRow, this, GW.n, GW.al]
theorem s_new (c : Nat) (I : Inv M Z g0 g) (hc : Z c) (hz : tzero P T = some L) (k : ∀ h b, Stp no g h → Inv M Z g0 h → Blk h b c T L → K (.pointer (some ⟨b, 0, none⟩)) h.w) : stp P ⟨d, .alloc T, T', ps, af, gd⟩ ρ g.w K := by
  obtain ⟨v, h1, h2⟩ := tzero_run hz g.w
  refine stp_run (v := .pointer (some ⟨g.n, 0, none⟩)) (w' := (g.al (.cells L.toArray T (0, 0)) c).w) ?_ (k _ _ (Stp.al g _ c) ⟨I.s.then (Stp.al g _ c) (fun c h => h.elim), I.l.al _ hc⟩ (Blk.al g T L c))
  have : v.cells = L.toArray := by rw [← h2]
  simp [execOp, Instr.alloc, h1, newVar, newRow, this, GW.n, GW.al]
/-- Where a field lies. -/
def tfo (P : Program) (s : TypeId) (f : Nat) : Option Nat :=
  match tfld P s f with
  | some (o, t) => match tinf P t with
    | some (_, n, _) => if n = 0 then none else some o
    | none => none
  | none => none
theorem s_fa {S off f : Nat} (hf : tfo P S f = some off) (hx : ρ.ev x = .pointer (some ⟨b, o, none⟩)) (k : K (.pointer (some ⟨b, o + off, none⟩)) w) : stp P ⟨d, .fieldAddr S x f, T', ps, af, gd⟩ ρ w K := by
  refine stp_run ?_ k
  unfold tfo at hf
  split at hf
  · rename_i o' t h1
    split at hf
    · rename_i a n q h2
      split at hf
      · cases hf
      · rename_i hn
        injection hf with hf
        subst hf
        obtain ⟨fs, fx, h3, h4, h5, h6⟩ := tfld_und h1
        have h7 : tinf P fx.type = some (a, n, q) := by rw [h6]; exact h2
        simp [execOp, hx, Instr.fieldAt, Instr.sureAddr, run_und h3, h4, fieldPlace, run_size h7, hn, h5, add_at]
    · cases hf
  · cases hf
theorem s_fld {S off f t a n q : _} {cs : List Value} {v : Value} (h1 : tfld P S f = some (off, t)) (h2 : tinf P t = some (a, n, q)) (hx : ρ.ev x = .agg cs.toArray) (hv : if a then v = .agg ((cs.drop off).take n).toArray else cs[off]? = some v) (k : K v w) :
    stp P ⟨d, .field S x f, T', ps, af, gd⟩ ρ w K := by
  refine stp_run ?_ k
  obtain ⟨fs, fx, h3, h4, rfl, rfl⟩ := tfld_und h1
  cases a with
  | true =>
    simp only [if_true] at hv; subst hv
    simp [execOp, hx, Instr.field, run_und h3, h4, part, run_agg h2, run_size h2, asAgg]
  | false =>
    simp at hv
    simp [execOp, hx, Instr.field, run_und h3, h4, part, run_agg h2, asAgg, hv]
/-- An element's place in a slice; in an array. -/
theorem s_ia {t e a n q m c' : _} {k' : IntKind} {i : Int} (h1 : tsl P t = some e) (h2 : tinf P e = some (a, n, q)) (hx : ρ.ev x = .slice (some ⟨b, o, none⟩) m c') (hy : ρ.ev y = .int k' i) (h0 : 0 ≤ i) (hi : i < m) (k : K (.pointer (some ⟨b, o + i.toNat * n, none⟩)) w) :
    stp P ⟨d, .indexAddr t x y, T', ps, af, gd⟩ ρ w K := by
  refine stp_run ?_ k
  simp [execOp, hx, hy, Instr.indexAt, asIntOf, run_und (tsl_und h1), h0, hi, run_size h2, add_at]
theorem s_iaA {t e a n q m : _} {k' : IntKind} {i : Int} (h1 : tarr P t = some (m, e)) (h2 : tinf P e = some (a, n, q)) (hx : ρ.ev x = .pointer (some ⟨b, o, none⟩)) (hy : ρ.ev y = .int k' i) (h0 : 0 ≤ i) (hi : i < m) (k : K (.pointer (some ⟨b, o + i.toNat * n, none⟩)) w) :
    stp P ⟨d, .indexAddr t x y, T', ps, af, gd⟩ ρ w K := by
  refine stp_run ?_ k
  simp [execOp, hx, hy, Instr.indexAt, asIntOf, run_und (tarr_und h1), h0, hi, run_size h2, add_at, Instr.sureAddr]
theorem s_ixA {t e n q m : _} {a : Bool} {cs : List Value} {k' : IntKind} {i : Int} (h1 : tarr P t = some (m, e)) (h2 : tinf P e = some (a, n, q)) (hx : ρ.ev x = .agg cs.toArray) (hy : ρ.ev y = .int k' i) (h0 : 0 ≤ i) (hi : i < m)
    (hv : if a then v = .agg ((cs.drop (i.toNat * n)).take n).toArray else cs[i.toNat * n]? = some v) (k : K v w) : stp P ⟨d, .index t x y, T', ps, af, gd⟩ ρ w K := by
  refine stp_run ?_ k
  cases a with
  | true =>
    simp only [if_true] at hv; subst hv
    simp [execOp, hx, hy, Instr.index, asIntOf, run_und (tarr_und h1), h0, hi, run_size h2, part, run_agg h2]
  | false =>
    simp at hv
    simp [execOp, hx, hy, Instr.index, asIntOf, run_und (tarr_und h1), h0, hi, run_size h2, part, run_agg h2, hv]
theorem s_ixS {t : _} {k' : IntKind} {i : Int} {str : ByteArray} {u : UInt8} (h1 : P.underlying t = some .string) (hx : ρ.ev x = .string str) (hy : ρ.ev y = .int k' i) (h0 : 0 ≤ i) (hi : str[i.toNat]? = some u) (k : K (.int .u8 u.toNat) w) : stp P ⟨d, .index t x y, T', ps, af, gd⟩ ρ w K := by
  refine stp_run ?_ k
  simp [execOp, hx, hy, Instr.index, asIntOf, run_und h1, h0, hi]
theorem s_len {t e n c' : _} {a : Option Addr} {ts : _} (h1 : tsl P t = some e) (ht : ts = #[t]) (hx : ρ.ev x = .slice a n c') (k : K (.int .i64 n) w) : stp P ⟨d, .call { callee := .builtin .len, args := #[x], argTypes := ts }, T', ps, af, gd⟩ ρ w K := by
  subst ht
  refine stp_run ?_ k
  simp [execOp, resolve, invoke, builtin, hx, Builtin.len_, run_und (tsl_und h1), goInt]
theorem s_lenS {t : _} {ts : _} {str : ByteArray} (h1 : P.underlying t = some .string) (ht : ts = #[t]) (hx : ρ.ev x = .string str) (k : K (.int .i64 str.size) w) : stp P ⟨d, .call { callee := .builtin .len, args := #[x], argTypes := ts }, T', ps, af, gd⟩ ρ w K := by
  subst ht
  refine stp_run ?_ k
  simp [execOp, resolve, invoke, builtin, hx, Builtin.len_, run_und h1, goInt]
theorem equal_of {t : TypeId} {a b : Value} {r : Bool} (h : ∀ n, (Op.equalIn (n + 1) t a b).run P w = .ok r w) : (Op.equal t a b).run P w = .ok r w := h 9999
theorem run_eqP {t : TypeId} (h1 : tptr P t = true) (a : Option Addr) : (Op.equal t (.pointer a) (.pointer none)).run P w = .ok a.isNone w := by
  unfold tptr at h1
  split at h1
  · rename_i e he
    refine equal_of fun n => ?_
    cases a <;> simp only [Op.equalIn, Sem.run_bind, run_und he, Result.andThen_ok] <;> rfl
  · cases h1
theorem run_eqSl {t e n c' : _} {a : Option Addr} (h1 : tsl P t = some e) : (Op.equal t (.slice a n c') (.slice none 0 0)).run P w = .ok a.isNone w := by
  refine equal_of fun n => ?_
  cases a <;> simp only [Op.equalIn, Sem.run_bind, run_und (tsl_und h1), Result.andThen_ok] <;> rfl
theorem s_ptrE {t : _} {a : Option Addr} (h1 : tptr P t = true) (hx : ρ.ev x = .pointer a) (hy : ρ.ev y = .pointer none) (k : K (.bool a.isNone) w) : stp P ⟨d, .binOp .eql t x y T2, T', ps, af, gd⟩ ρ w K := by
  refine stp_run ?_ k
  have h := run_eqP (w := w) h1 a
  have hg : (eqGuard .eql t x y (.pointer a) (.pointer none)).run P w = .ok () w := by unfold eqGuard; rfl
  simp only [execOp, hx, hy, Sem.run_bind, hg, Result.andThen_ok, binOp, h]; rfl
theorem s_ptrNe {t : _} {a : Option Addr} (h1 : tptr P t = true) (hx : ρ.ev x = .pointer a) (hy : ρ.ev y = .pointer none) (k : K (.bool a.isSome) w) : stp P ⟨d, .binOp .neq t x y T2, T', ps, af, gd⟩ ρ w K := by
  refine stp_run ?_ k
  have h := run_eqP (w := w) h1 a
  have hg : (eqGuard .neq t x y (.pointer a) (.pointer none)).run P w = .ok () w := by unfold eqGuard; rfl
  simp only [execOp, hx, hy, Sem.run_bind, hg, Result.andThen_ok, binOp, h]; cases a <;> rfl
theorem s_slN {t e n c' : _} {a : Option Addr} (h1 : tsl P t = some e) (hx : ρ.ev x = .slice a n c') (hy : ρ.ev y = .slice none 0 0) (k : K (.bool a.isNone) w) : stp P ⟨d, .binOp .eql t x y T2, T', ps, af, gd⟩ ρ w K := by
  refine stp_run ?_ k
  have h := run_eqSl (w := w) (n := n) (c' := c') (a := a) h1
  have hg : (eqGuard .eql t x y (.slice a n c') (.slice none 0 0)).run P w = .ok () w := by unfold eqGuard; rfl
  simp only [execOp, hx, hy, Sem.run_bind, hg, Result.andThen_ok, binOp, h]; rfl
end
end Go.Tl
