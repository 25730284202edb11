/- Worlds with colours, kinds of data, and how they are kept. Plain definitions and theorems. -/
import Derived.Test.YtdbfbeckhccchaaRA
import Derived.RowKit3
import Derived.Below
import Derived.Laws.CopyRow
import Derived.Laws.AppendOwn
import Derived.Laws.OwnMore
namespace Go.Tl
open Go
set_option linter.unusedVariables false

/-! ### Worlds with colours: 0: what is never written again; any other: whose it is -/
structure GW where
  w : World
  c : Nat → Nat
def GW.n (g : GW) : Nat := g.w.heap.size
/-- From g to h: blocks of colours outside m are as they were. -/
structure Stp (m : Nat → Prop) (g h : GW) : Prop where
  n : g.n ≤ h.n
  k : ∀ b, b < g.n → ¬ m (g.c b) → h.c b = g.c b ∧ h.w.heap[b]? = g.w.heap[b]?
  os : h.w.os = g.w.os
  tp : h.w.tape = g.w.tape
  op : h.w.output = g.w.output
abbrev no : Nat → Prop := fun _ => False
abbrev at_ (i : Nat) : Nat → Prop := fun c => c = i
abbrev iv (a b : Nat) : Nat → Prop := fun c => a ≤ c ∧ c < b
abbrev or_ (m k : Nat → Prop) : Nat → Prop := fun c => m c ∨ k c
theorem no_ {c : Nat} : ¬ no c := fun h => h
theorem at_ne {i c : Nat} (h : Nat.beq c i = false) : ¬ at_ i c := Nat.ne_of_beq_eq_false h
/-- All blocks are of the colours Z. -/
def Lo (Z : Nat → Prop) (g : GW) : Prop := ∀ b, b < g.n → Z (g.c b)
section
variable {m m' M Z : Nat → Prop} {g h k : GW}
theorem Stp.refl (m : Nat → Prop) (g : GW) : Stp m g g := ⟨Nat.le_refl _, fun _ _ _ => ⟨rfl, rfl⟩, rfl, rfl, rfl⟩
theorem Stp.mono (s : Stp m g h) (hm : ∀ c, m c → M c) : Stp M g h := ⟨s.n, fun b hb hc => s.k b hb fun x => hc (hm _ x), s.os, s.tp, s.op⟩
theorem Stp.trans (s : Stp m g h) (t : Stp m h k) : Stp m g k :=
  ⟨Nat.le_trans s.n t.n, fun b hb hc => by
    obtain ⟨e1, e2⟩ := s.k b hb hc
    obtain ⟨e3, e4⟩ := t.k b (Nat.lt_of_lt_of_le hb s.n) (by rwa [e1])
    exact ⟨e3.trans e1, e4.trans e2⟩, t.os.trans s.os, t.tp.trans s.tp, t.op.trans s.op⟩
theorem Stp.then (s : Stp M g h) (t : Stp m h k) (hm : ∀ c, m c → M c) : Stp M g k := s.trans (t.mono hm)
theorem Lo.mono {Z' : Nat → Prop} (l : Lo Z g) (h : ∀ c, Z c → Z' c) : Lo Z' g := fun b hb => h _ (l b hb)
/-- The same world, drawn from. -/
def GW.dr (g : GW) : GW := ⟨g.w.drew, g.c⟩
theorem Stp.dr (g : GW) : Stp no g g.dr := ⟨Nat.le_refl _, fun _ _ _ => ⟨rfl, rfl⟩, rfl, rfl, rfl⟩
theorem Lo.dr (l : Lo Z g) : Lo Z g.dr := l
/-- A new block of a colour. -/
def GW.al (g : GW) (o : Obj) (c : Nat) : GW := ⟨g.w.alloc o, fun b => if b = g.n then c else g.c b⟩
theorem GW.al_n (g : GW) (o : Obj) (c : Nat) : (g.al o c).n = g.n + 1 := by simp [GW.al, GW.n]
theorem heap_al_old (g : GW) (o : Obj) (c : Nat) {b : Nat} (hb : b < g.n) : (g.al o c).w.heap[b]? = g.w.heap[b]? := heap_alloc_old g.w o b hb
theorem heap_al_new (g : GW) (o : Obj) (c : Nat) : (g.al o c).w.heap[g.n]? = some o := heap_alloc_new g.w o
theorem Stp.al (g : GW) (o : Obj) (c : Nat) : Stp no g (g.al o c) :=
  ⟨by rw [GW.al_n]; omega, fun b hb _ => ⟨by simp [GW.al, Nat.ne_of_lt hb], heap_al_old g o c hb⟩, rfl, rfl, rfl⟩
theorem Lo.al (l : Lo Z g) (o : Obj) {c : Nat} (hc : Z c) : Lo Z (g.al o c) := fun b hb => by
  rw [GW.al_n] at hb
  by_cases e : b = g.n
  · subst e; simpa [GW.al] using hc
  · have hb' : b < g.n := by omega
    simp [GW.al, e]; exact l b hb'
/-- Another content of a block. -/
def GW.sr (g : GW) (b : Nat) (cs : List Value) : GW := ⟨g.w.setRow b cs.toArray, g.c⟩
theorem GW.sr_n (g : GW) (b : Nat) (cs : List Value) : (g.sr b cs).n = g.n := by simp [GW.sr, GW.n]
theorem heap_sr_other (g : GW) (b : Nat) (cs : List Value) {k : Nat} (h : k ≠ b) : (g.sr b cs).w.heap[k]? = g.w.heap[k]? := setRow_other g.w b k _ h
theorem Stp.sr (g : GW) (b : Nat) (cs : List Value) {c : Nat} (hc : g.c b = c) : Stp (at_ c) g (g.sr b cs) :=
  ⟨by rw [GW.sr_n]; exact Nat.le_refl _, fun k _ hk => ⟨rfl, heap_sr_other g b cs fun e => hk (by subst e; exact hc)⟩, rfl, rfl, rfl⟩
theorem Lo.sr (l : Lo Z g) (b : Nat) (cs : List Value) : Lo Z (g.sr b cs) := fun k hk => l k (by rwa [GW.sr_n] at hk)
/-- Blocks of colours from a to b get colour d. -/
def GW.rc (g : GW) (a b d : Nat) : GW := ⟨g.w, fun k => if a ≤ g.c k ∧ g.c k < b then d else g.c k⟩
theorem Stp.rc (g : GW) (a b d : Nat) : Stp (iv a b) g (g.rc a b d) :=
  ⟨Nat.le_refl _, fun k _ hk => ⟨if_neg hk, rfl⟩, rfl, rfl, rfl⟩
theorem Lo.rc (l : Lo Z g) {a b d : Nat} (hd : Z d) : Lo Z (g.rc a b d) := fun k hk => by
  simp only [GW.rc]; split
  · exact hd
  · exact l k hk
/-- At a function's end: its own colours, from a to b, are made 0: the frame it owes. -/
theorem Stp.fin {a b : Nat} (s : Stp (or_ m (iv a b)) g h) (l : Lo Z g) (hZ : ∀ c, Z c → c = 0 ∨ b ≤ c) (ha : 0 < a) : Stp m g (h.rc a b 0) := by
  refine ⟨s.n, fun k hk hm => ?_, s.os, s.tp, s.op⟩
  have hn : ¬ iv a b (g.c k) := by
    rintro ⟨h1, h2⟩
    rcases hZ _ (l k hk) with h | h <;> omega
  obtain ⟨e1, e2⟩ := s.k k hk (fun x => x.elim hm hn)
  exact ⟨by simp only [GW.rc]; rw [e1]; exact if_neg hn, e2⟩
theorem Lo.fin {a b : Nat} (l : Lo (or_ Z (iv a b)) h) (h0 : Z 0) : Lo Z (h.rc a b 0) := fun k hk => by
  simp only [GW.rc]; split
  · exact h0
  · rename_i hn
    exact (l k hk).resolve_right hn
end

/-! ### Kinds of data: what cells say, in a world, of a value -/
structure Kd (α : Type) where
  sz : Nat
  nc : Nat
  M : GW → Nat → α → List Value → Prop
  z : α
  zc : List Value
  len : ∀ {g i x cs}, M g i x cs → cs.length = sz
  one : ∀ {g i x cs}, M g i x cs → ∀ v ∈ cs, v.oneCell' = true
  up : ∀ {m : Nat → Prop} {g h i x cs}, Stp m g h → ¬ m 0 → (∀ k, k < nc → ¬ m (i + k)) → M g i x cs → M h i x cs
  ind : nc = 0 → ∀ {g i x cs}, M g i x cs → ∀ j, M g j x cs
  zok : Bool
  zk : zok = true → ∀ {g i}, M g i z zc
abbrev Kd.K {α : Type} (d : Kd α) (g : GW) (x : α) (cs : List Value) : Prop := d.M g 0 x cs
theorem Kd.upK {α : Type} {d : Kd α} (h0 : d.nc = 0) {m : Nat → Prop} {g h : GW} {i : Nat} {x : α} {cs : List Value} (s : Stp m g h) (hm : ¬ m 0) (k : d.M g i x cs) : d.M h i x cs :=
  d.up s hm (fun k hk => by omega) k

def kScal {α : Type} (f : α → Value) (z : α) (h : ∀ x, (f x).oneCell' = true) : Kd α where
  sz := 1
  nc := 0
  M := fun _ _ x cs => cs = [f x]
  z := z
  zc := [f z]
  len := by rintro _ _ _ _ rfl; rfl
  one := by rintro _ _ _ _ rfl v hv; simp at hv; subst hv; exact h _
  up := fun _ _ _ h => h
  ind := fun _ _ _ _ _ h _ => h
  zok := true
  zk := fun _ => rfl
def kInt (k : IntKind) : Kd Int := kScal (.int k) 0 (fun _ => rfl)
def kBool : Kd Bool := kScal .bool false (fun _ => rfl)
def kStr : Kd ByteArray := kScal .string .empty (fun _ => rfl)
def kUnit (v : Value) (h : v.oneCell' = true) : Kd Unit := kScal (fun _ => v) () (fun _ => h)

/-- Elements side by side. -/
def Seg {α : Type} (d : Kd α) (g : GW) (xs : List α) (cs : List Value) : Prop :=
  cs.length = xs.length * d.sz ∧ ∀ j (h : j < xs.length), d.M g 0 xs[j] ((cs.drop (j * d.sz)).take d.sz)
theorem Seg.nil {α : Type} {d : Kd α} {g : GW} : Seg d g [] [] := ⟨by simp, fun j h => by simp at h⟩
theorem Seg.up {α : Type} {d : Kd α} (h0 : d.nc = 0) {m : Nat → Prop} {g h : GW} {xs : List α} {cs : List Value} (s : Stp m g h) (hm : ¬ m 0) (k : Seg d g xs cs) : Seg d h xs cs :=
  ⟨k.1, fun j hj => Kd.upK h0 s hm (k.2 j hj)⟩
theorem mem_seg {cs : List Value} {v : Value} (hv : v ∈ cs) {sz n : Nat} (hs : 0 < sz) (hl : cs.length = n * sz) : ∃ j, j < n ∧ v ∈ (cs.drop (j * sz)).take sz := by
  obtain ⟨q, hq, rfl⟩ := List.mem_iff_getElem.1 hv
  refine ⟨q / sz, by rw [Nat.div_lt_iff_lt_mul hs]; omega, ?_⟩
  rw [List.mem_iff_getElem?]
  refine ⟨q % sz, ?_⟩
  rw [List.getElem?_take, if_pos (Nat.mod_lt _ hs), List.getElem?_drop, Nat.mul_comm, Nat.div_add_mod, List.getElem?_eq_getElem hq]
theorem Seg.one {α : Type} {d : Kd α} {g : GW} {xs : List α} {cs : List Value} (k : Seg d g xs cs) : ∀ v ∈ cs, v.oneCell' = true := by
  intro v hv
  rcases Nat.eq_zero_or_pos d.sz with h0 | h0
  · have := k.1; rw [h0, Nat.mul_zero] at this; rw [List.length_eq_zero_iff.1 this] at hv; cases hv
  · obtain ⟨j, hj, hv⟩ := mem_seg hv h0 k.1
    exact d.one (k.2 j hj) v hv
theorem Seg.append {α : Type} {d : Kd α} {g : GW} {xs ys : List α} {cs ds : List Value} (h : Seg d g xs cs) (k : Seg d g ys ds) : Seg d g (xs ++ ys) (cs ++ ds) := by
  refine ⟨by simp [h.1, k.1, Nat.add_mul], fun j hj => ?_⟩
  by_cases hjx : j < xs.length
  · rw [List.getElem_append_left hjx]
    have hle : j * d.sz + d.sz ≤ cs.length := by rw [h.1, ← Nat.succ_mul]; exact Nat.mul_le_mul_right _ hjx
    rw [List.drop_append_of_le_length (by omega), List.take_append_of_le_length (by simp; omega)]
    exact h.2 j hjx
  · have hjy : j - xs.length < ys.length := by simp at hj; omega
    rw [List.getElem_append_right (by omega)]
    have hge : cs.length ≤ j * d.sz := by rw [h.1]; exact Nat.mul_le_mul_right _ (by omega)
    rw [List.drop_append, List.drop_eq_nil_of_le hge, List.nil_append]
    have := k.2 _ hjy
    rwa [Nat.sub_mul, ← h.1] at this
theorem Seg.take {α : Type} {d : Kd α} {g : GW} {xs : List α} {cs : List Value} (h : Seg d g xs cs) (n : Nat) : Seg d g (xs.take n) (cs.take (n * d.sz)) := by
  refine ⟨by simp [h.1], fun j hj => ?_⟩
  have hj' : j < n ∧ j < xs.length := by simp at hj; omega
  rw [List.getElem_take]
  have hle : j * d.sz + d.sz ≤ n * d.sz := by rw [← Nat.succ_mul]; exact Nat.mul_le_mul_right _ hj'.1
  rw [List.drop_take, List.take_take, Nat.min_eq_left (by omega)]
  exact h.2 j hj'.2
theorem Seg.drop {α : Type} {d : Kd α} {g : GW} {xs : List α} {cs : List Value} (h : Seg d g xs cs) (n : Nat) : Seg d g (xs.drop n) (cs.drop (n * d.sz)) := by
  refine ⟨by simp [h.1, Nat.sub_mul], fun j hj => ?_⟩
  have hj' : n + j < xs.length := by simp at hj; omega
  rw [List.getElem_drop, List.drop_drop, ← Nat.add_mul]
  exact h.2 (n + j) hj'
theorem Seg.single {α : Type} {d : Kd α} {g : GW} {x : α} {cs : List Value} (h : d.M g 0 x cs) : Seg d g [x] cs :=
  ⟨by simp [d.len h], fun j hj => by
    have : j = 0 := by simp at hj; omega
    subst this
    simpa [← d.len h] using h⟩
/-- Cells written over, from a place on. -/
def spl (cs : List Value) (o : Nat) (seg : List Value) : List Value := cs.take o ++ seg ++ cs.drop (o + seg.length)
theorem spl_length {cs seg : List Value} {o : Nat} (h : o + seg.length ≤ cs.length) : (spl cs o seg).length = cs.length := by simp [spl]; omega
theorem spl_get (cs seg : List Value) (o q : Nat) (h : o + seg.length ≤ cs.length) : (spl cs o seg)[q]? = if o ≤ q ∧ q < o + seg.length then seg[q - o]? else cs[q]? := by
  unfold spl
  by_cases h1 : q < o
  · rw [if_neg (by omega), List.append_assoc, List.getElem?_append_left (by simp; omega), List.getElem?_take, if_pos h1]
  · by_cases h2 : q < o + seg.length
    · rw [if_pos (by omega), List.append_assoc, List.getElem?_append_right (by simp; omega), List.getElem?_append_left (by simp; omega)]
      congr 1; simp; omega
    · rw [if_neg (by omega), List.getElem?_append_right (by simp; omega), List.getElem?_drop]
      congr 1; simp; omega
theorem spl_seg_same {cs seg : List Value} {o : Nat} (h : o + seg.length ≤ cs.length) : ((spl cs o seg).drop o).take seg.length = seg := by
  apply List.ext_getElem?
  intro q
  rw [List.getElem?_take, List.getElem?_drop, spl_get _ _ _ _ h]
  by_cases hq : q < seg.length
  · rw [if_pos hq, if_pos (by omega), Nat.add_sub_cancel_left]
  · rw [if_neg hq, List.getElem?_eq_none (by omega)]
theorem spl_seg_other {cs seg : List Value} {o o' s : Nat} (h : o + seg.length ≤ cs.length) (hd : o' + s ≤ o ∨ o + seg.length ≤ o') : ((spl cs o seg).drop o').take s = (cs.drop o').take s := by
  apply List.ext_getElem?
  intro q
  rw [List.getElem?_take, List.getElem?_take, List.getElem?_drop, List.getElem?_drop, spl_get _ _ _ _ h]
  by_cases hq : q < s
  · rw [if_pos hq, if_pos hq, if_neg (by omega)]
  · rw [if_neg hq, if_neg hq]
theorem Seg.set {α : Type} {d : Kd α} {g : GW} {xs : List α} {cs : List Value} (h : Seg d g xs cs) {j : Nat} (hj : j < xs.length) {x : α} {seg : List Value} (hx : d.M g 0 x seg) : Seg d g (xs.set j x) (spl cs (j * d.sz) seg) := by
  have hfit : j * d.sz + d.sz ≤ cs.length := by rw [h.1, ← Nat.succ_mul]; exact Nat.mul_le_mul_right _ hj
  have hl := d.len hx
  refine ⟨by rw [spl_length (by omega), h.1, List.length_set], fun k hk => ?_⟩
  have hk' : k < xs.length := by simpa using hk
  rw [List.getElem_set]
  by_cases e : j = k
  · subst e
    rw [if_pos rfl]
    have e2 := spl_seg_same (cs := cs) (seg := seg) (o := j * d.sz) (by omega)
    rw [hl] at e2
    rw [e2]
    exact hx
  · rw [if_neg e, spl_seg_other (by omega) (by
      rcases Nat.lt_or_gt_of_ne e with hlt | hgt
      · right; rw [hl, ← Nat.succ_mul]; exact Nat.mul_le_mul_right _ hlt
      · left; rw [← Nat.succ_mul]; exact Nat.mul_le_mul_right _ hgt)]
    exact h.2 k hk'
theorem Seg.replicate {α : Type} {d : Kd α} {g : GW} {x : α} {cs : List Value} (h : d.M g 0 x cs) (n : Nat) : Seg d g (List.replicate n x) (List.replicate n cs).flatten := by
  induction n with
  | zero => exact Seg.nil
  | succ n ih => rw [List.replicate_succ, List.replicate_succ, List.flatten_cons]; exact (Seg.single h).append ih

/-- An array of whole numbers. -/
def kNums (k : IntKind) (n : Nat) : Kd (List Int) where
  sz := n
  nc := 0
  M := fun _ _ x cs => x.length = n ∧ cs = x.map (.int k)
  z := List.replicate n 0
  zc := List.replicate n (.int k 0)
  len := by rintro _ _ _ _ ⟨rfl, rfl⟩; simp
  one := by rintro _ _ _ _ ⟨_, rfl⟩ v hv; obtain ⟨_, _, rfl⟩ := List.mem_map.1 hv; rfl
  up := fun _ _ _ h => h
  ind := fun _ _ _ _ _ h _ => h
  zok := true
  zk := by simp
/-- An array. -/
def kArr {α : Type} (n : Nat) (d : Kd α) (h0 : d.nc = 0) : Kd (List α) where
  sz := n * d.sz
  nc := 0
  M := fun g _ x cs => x.length = n ∧ Seg d g x cs
  z := List.replicate n d.z
  zc := (List.replicate n d.zc).flatten
  len := by rintro _ _ _ _ ⟨rfl, h⟩; exact h.1
  one := fun h => h.2.one
  up := fun s hm _ h => ⟨h.1, h.2.up h0 s hm⟩
  ind := fun _ _ _ _ _ h _ => h
  zok := d.zok
  zk := fun h => ⟨by simp, Seg.replicate (d.zk h) n⟩
/-- The cells of a block of a colour. -/
def Imm (g : GW) (b c : Nat) (L : List Value) : Prop := b < g.n ∧ g.c b = c ∧ ∃ T fz, g.w.heap[b]? = some (.cells L.toArray T fz)
theorem Imm.up {m : Nat → Prop} {g h : GW} {b c : Nat} {L : List Value} (s : Stp m g h) (hm : ¬ m c) (k : Imm g b c L) : Imm h b c L := by
  obtain ⟨h1, h2, T, fz, h3⟩ := k
  obtain ⟨e1, e2⟩ := s.k b h1 (by rwa [h2])
  exact ⟨Nat.lt_of_lt_of_le h1 s.n, e1.trans h2, T, fz, e2.trans h3⟩
/-- A slice that is read. -/
def kSl {α : Type} (d : Kd α) (h0 : d.nc = 0) : Kd (List α) where
  sz := 1
  nc := 0
  M := fun g _ x cs => ∃ a c, cs = [.slice a x.length c] ∧ x.length ≤ c ∧ (x = [] ∨ ∃ b o L, a = some ⟨b, o, none⟩ ∧ Imm g b 0 L ∧ o + x.length * d.sz ≤ L.length ∧ Seg d g x ((L.drop o).take (x.length * d.sz)))
  z := []
  zc := [.slice none 0 0]
  len := by rintro _ _ _ _ ⟨_, _, rfl, _⟩; rfl
  one := by rintro _ _ _ _ ⟨_, _, rfl, _⟩ v hv; simp at hv; subst hv; rfl
  up := by
    rintro m g h i x cs s hm _ ⟨a, c, rfl, hc, hx⟩
    refine ⟨a, c, rfl, hc, hx.imp id ?_⟩
    rintro ⟨b, o, L, rfl, hi, hl, hs⟩
    exact ⟨b, o, L, rfl, hi.up s hm, hl, hs.up h0 s hm⟩
  ind := fun _ _ _ _ _ h _ => h
  zok := true
  zk := fun _ => ⟨none, 0, rfl, Nat.le_refl _, .inl rfl⟩
/-- A block of a colour, with its cells. -/
def Blk (g : GW) (b c : Nat) (T : TypeId) (L : List Value) : Prop := b < g.n ∧ g.c b = c ∧ g.w.heap[b]? = some (.cells L.toArray T (0, 0))
theorem Blk.up {m : Nat → Prop} {g h : GW} {b c : Nat} {T : TypeId} {L : List Value} (s : Stp m g h) (hm : ¬ m c) (k : Blk g b c T L) : Blk h b c T L := by
  obtain ⟨h1, h2, h3⟩ := k
  obtain ⟨e1, e2⟩ := s.k b h1 (by rwa [h2])
  exact ⟨Nat.lt_of_lt_of_le h1 s.n, e1.trans h2, e2.trans h3⟩
theorem Blk.sr {g : GW} {b c : Nat} {T : TypeId} {L : List Value} (k : Blk g b c T L) (L' : List Value) : Blk (g.sr b L') b c T L' :=
  ⟨by rw [GW.sr_n]; exact k.1, k.2.1, setRow_heap g.w b _ _ T _ k.2.2⟩
theorem Blk.al (g : GW) (T : TypeId) (L : List Value) (c : Nat) : Blk (g.al (.cells L.toArray T (0, 0)) c) g.n c T L :=
  ⟨by rw [GW.al_n]; omega, by simp [GW.al], heap_al_new ..⟩
theorem Blk.imm {g : GW} {b c : Nat} {T : TypeId} {L : List Value} (k : Blk g b c T L) : Imm g b c L := ⟨k.1, k.2.1, T, _, k.2.2⟩
/-- A slice of one's own: it begins its block, in which nobody else reads or writes. -/
def kRow {α : Type} (e : TypeId) (d : Kd α) (h0 : d.nc = 0) : Kd (List α) where
  sz := 1
  nc := 1
  M := fun g i x cs => ∃ v, cs = [v] ∧ ∃ xs, g.w.ownsRow 0 e d.sz v x.length xs ∧ Seg d g x xs ∧ ∀ k, v.ownBlock = some k → g.c k = i
  z := []
  zc := [.slice none 0 0]
  len := by rintro _ _ _ _ ⟨_, rfl, _⟩; rfl
  one := by
    rintro _ _ _ _ ⟨v, rfl, xs, ho, _⟩ u hu
    simp at hu; subst hu
    rcases ho.2 with ⟨rfl, _⟩ | ⟨_, _, _, rfl, _⟩ <;> rfl
  up := by
    rintro m g h i x cs s hm hi ⟨v, rfl, xs, ho, hs, hb⟩
    refine ⟨v, rfl, xs, ⟨ho.1, ho.2.imp id ?_⟩, hs.up h0 s hm, fun k hk => ?_⟩
    · rintro ⟨b, cap, cur, rfl, h1, h2, h3⟩
      refine ⟨b, cap, cur, rfl, h1, ?_, h3⟩
      rw [(s.k b (Array.getElem?_eq_some_iff.1 h2).1 (by rw [hb b (by simp [Value.ownBlock])]; exact hi 0 (by omega))).2]
      exact h2
    · have hlt := (ho.lt k hk).2
      have := (s.k k hlt (by rw [hb k hk]; exact hi 0 (by omega))).1
      rw [this, hb k hk]
  ind := fun h => by cases h
  zok := true
  zk := fun _ => ⟨_, rfl, [], ⟨by simp, .inl ⟨rfl, rfl⟩⟩, Seg.nil, fun k hk => by simp [Value.ownBlock] at hk⟩
/-- Pointers to what one owns. -/
def PtrM {α : Type} (T : TypeId) (d : Kd α) (g : GW) (i : Nat) (x : α) (cs : List Value) : Prop :=
  ∃ b L, cs = [.pointer (some ⟨b, 0, none⟩)] ∧ Blk g b i T L ∧ d.M g (i + 1) x L
theorem PtrM.up {α : Type} {T : TypeId} {d : Kd α} {m : Nat → Prop} {g h : GW} {i : Nat} {x : α} {cs : List Value} (s : Stp m g h) (hm : ¬ m 0) (hi : ∀ k, k < 1 + d.nc → ¬ m (i + k)) (k : PtrM T d g i x cs) : PtrM T d h i x cs := by
  obtain ⟨b, L, rfl, hb, hd⟩ := k
  exact ⟨b, L, rfl, hb.up s (hi 0 (by omega)), d.up s hm (fun k hk => by have := hi (1 + k) (by omega); rwa [← Nat.add_assoc] at this) hd⟩
/-- Pointers that are not nil. -/
def kPtr {α : Type} (T : TypeId) (d : Kd α) : Kd α where
  sz := 1
  nc := 1 + d.nc
  M := PtrM T d
  z := d.z
  zc := [.pointer none]
  len := by rintro _ _ _ _ ⟨_, _, rfl, _⟩; rfl
  one := by rintro _ _ _ _ ⟨_, _, rfl, _⟩ v hv; simp at hv; subst hv; rfl
  up := PtrM.up
  ind := fun h => by omega
  zok := false
  zk := fun h => by cases h
def OptM {α : Type} (T : TypeId) (d : Kd α) (g : GW) (i : Nat) (x : Option α) (cs : List Value) : Prop :=
  (x = none ∧ cs = [.pointer none]) ∨ ∃ y, x = some y ∧ PtrM T d g i y cs
/-- Pointers that may be nil. -/
def kOpt {α : Type} (T : TypeId) (d : Kd α) : Kd (Option α) where
  sz := 1
  nc := 1 + d.nc
  M := OptM T d
  z := none
  zc := [.pointer none]
  len := by rintro _ _ _ _ (⟨_, rfl⟩ | ⟨_, _, _, _, rfl, _⟩) <;> rfl
  one := by rintro _ _ _ _ (⟨_, rfl⟩ | ⟨_, _, _, _, rfl, _⟩) v hv <;> (simp at hv; subst hv; rfl)
  up := fun s hm hi k => k.imp id fun ⟨y, e, k⟩ => ⟨y, e, k.up s hm hi⟩
  ind := fun h => by omega
  zok := true
  zk := fun _ => .inl ⟨rfl, rfl⟩

/-! ### Structs -/
structure Fd (α : Type) where
  off : Nat
  sz : Nat
  co : Nat
  nc : Nat
  M : GW → Nat → α → List Value → Prop
  isz : α → Prop
  eqv : α → α → Prop
  zc : List Value
  zok : Bool
  len : ∀ {g i x cs}, M g i x cs → cs.length = sz
  one : ∀ {g i x cs}, M g i x cs → ∀ v ∈ cs, v.oneCell' = true
  up : ∀ {m : Nat → Prop} {g h i x cs}, Stp m g h → ¬ m 0 → (∀ k, k < nc → ¬ m (i + co + k)) → M g i x cs → M h i x cs
  ind : nc = 0 → ∀ {g i x cs}, M g i x cs → ∀ j, M g j x cs
  zk : zok = true → ∀ {g i x}, isz x → M g i x zc
  ext : ∀ {g i x y cs}, eqv x y → M g i x cs → M g i y cs
def fd {α β : Type} (off co : Nat) (d : Kd β) (p : α → β) : Fd α where
  off := off
  sz := d.sz
  co := co
  nc := d.nc
  M := fun g i x cs => d.M g (i + co) (p x) cs
  isz := fun x => p x = d.z
  eqv := fun x y => p y = p x
  zc := d.zc
  zok := d.zok
  len := d.len
  one := d.one
  up := d.up
  ind := fun h {_ _ _ _} k j => d.ind h k _
  zk := fun z {_ _ _} h => by rw [h]; exact d.zk z
  ext := fun e k => by rw [e]; exact k
def tiles {α : Type} (n nc : Nat) : Nat → Nat → List (Fd α) → Bool
  | s, c, [] => s == n && c == nc
  | s, c, f :: r => f.off == s && f.co == c && f.zc.length == f.sz && tiles n nc (s + f.sz) (c + f.nc) r
def AllZ {α : Type} (z : α) : List (Fd α) → Prop
  | [] => True
  | f :: r => f.isz z ∧ AllZ z r
def cat {α : Type} : List (Fd α) → List Value
  | [] => []
  | f :: r => f.zc ++ cat r
def SM {α : Type} (n : Nat) (fs : List (Fd α)) (g : GW) (i : Nat) (x : α) (cs : List Value) : Prop :=
  cs.length = n ∧ ∀ f ∈ fs, f.M g i x ((cs.drop f.off).take f.sz)
theorem tiles_mem {α : Type} {n nc : Nat} : ∀ {fs : List (Fd α)} {s c : Nat}, tiles n nc s c fs = true → ∀ q, s ≤ q → q < n → ∃ f ∈ fs, f.off ≤ q ∧ q < f.off + f.sz
  | [], s, c, h, q, h1, h2 => by simp [tiles] at h; omega
  | f :: r, s, c, h, q, h1, h2 => by
    simp only [tiles, Bool.and_eq_true, beq_iff_eq] at h
    by_cases hq : q < s + f.sz
    · exact ⟨f, by simp, by omega, by omega⟩
    · obtain ⟨f', hf', h3⟩ := tiles_mem h.2 q (by omega) h2
      exact ⟨f', by simp [hf'], h3⟩
theorem tiles_le {α : Type} {n nc : Nat} : ∀ {fs : List (Fd α)} {s c : Nat}, tiles n nc s c fs = true → s ≤ n ∧ c ≤ nc ∧ ∀ f ∈ fs, s ≤ f.off ∧ f.off + f.sz ≤ n ∧ c ≤ f.co ∧ f.co + f.nc ≤ nc
  | [], s, c, h => by simp [tiles] at h; exact ⟨by omega, by omega, by simp⟩
  | f :: r, s, c, h => by
    simp only [tiles, Bool.and_eq_true, beq_iff_eq] at h
    obtain ⟨h1, h2, h3⟩ := tiles_le h.2
    refine ⟨by omega, by omega, fun f' hf' => ?_⟩
    rcases List.mem_cons.1 hf' with rfl | hf'
    · omega
    · have := h3 f' hf'; omega
theorem tiles_cat {α : Type} {n nc : Nat} : ∀ {fs : List (Fd α)} {s c : Nat}, tiles n nc s c fs = true → (cat fs).length = n - s ∧ ∀ f ∈ fs, ((cat fs).drop (f.off - s)).take f.sz = f.zc
  | [], s, c, h => by simp [tiles] at h; exact ⟨by simp [cat]; omega, by simp⟩
  | f :: r, s, c, h => by
    have hle := tiles_le h
    simp only [tiles, Bool.and_eq_true, beq_iff_eq] at h
    obtain ⟨h1, h2⟩ := tiles_cat h.2
    have hle2 := tiles_le h.2
    refine ⟨by simp only [cat, List.length_append, h1]; omega, fun f' hf' => ?_⟩
    rcases List.mem_cons.1 hf' with rfl | hf'
    · rw [show f'.off - s = 0 by omega]
      simp only [cat, List.drop_zero]
      rw [← h.1.2, List.take_left]
    · have h4 := hle2.2.2 f' hf'
      simp only [cat]
      rw [List.drop_append, List.drop_eq_nil_of_le (by omega), List.nil_append, ← h2 f' hf']
      congr 2; omega
theorem AllZ.mem {α : Type} {z : α} : ∀ {fs : List (Fd α)}, AllZ z fs → ∀ f ∈ fs, f.isz z
  | f :: r, h, f', hf' => by
    rcases List.mem_cons.1 hf' with rfl | hf'
    · exact h.1
    · exact h.2.mem f' hf'
def kSt {α : Type} (n nc : Nat) (fs : List (Fd α)) (z : α) (ht : tiles n nc 0 0 fs = true) (hz : fs.all (·.zok) = true → AllZ z fs) : Kd α where
  sz := n
  nc := nc
  M := SM n fs
  z := z
  zc := cat fs
  len := fun h => h.1
  one := by
    intro g i x cs h v hv
    obtain ⟨q, hq, rfl⟩ := List.mem_iff_getElem.1 hv
    obtain ⟨f, hf, h1, h2⟩ := tiles_mem ht q (Nat.zero_le _) (by rw [← h.1]; exact hq)
    refine f.one (h.2 f hf) _ ?_
    rw [List.mem_iff_getElem?]
    refine ⟨q - f.off, ?_⟩
    rw [List.getElem?_take, if_pos (by omega), List.getElem?_drop, show f.off + (q - f.off) = q by omega, List.getElem?_eq_getElem hq]
  up := fun s hm hi h => ⟨h.1, fun f hf => f.up s hm (fun k hk => by
    have := (tiles_le ht).2.2 f hf
    have h2 := hi (f.co + k) (by omega)
    rwa [← Nat.add_assoc] at h2) (h.2 f hf)⟩
  ind := fun h0 {_ _ _ _} h j => ⟨h.1, fun f hf => f.ind (by have := (tiles_le ht).2.2 f hf; omega) (h.2 f hf) j⟩
  zok := fs.all (·.zok)
  zk := by
    intro hok g i
    obtain ⟨h1, h2⟩ := tiles_cat ht
    exact ⟨by omega, fun f hf => by
      have := h2 f hf
      rw [Nat.sub_zero] at this
      rw [this]
      exact f.zk (List.all_eq_true.1 hok f hf) ((hz hok).mem f hf)⟩
section
variable {α : Type} {n nc : Nat} {fs : List (Fd α)} {g h : GW} {i : Nat} {x y : α} {cs seg : List Value}
theorem SM.get (k : SM n fs g i x cs) (j : Nat) {f : Fd α} (hj : fs[j]? = some f) : f.M g i x ((cs.drop f.off).take f.sz) := k.2 f (List.mem_of_getElem? hj)
/-- All fields but one tell the same of x and y. -/
def Same {α : Type} (x y : α) : Nat → List (Fd α) → Prop
  | _, [] => True
  | 0, _ :: r => Same x y (r.length + 1) r
  | j + 1, f :: r => f.eqv x y ∧ Same x y j r
theorem Same.all : ∀ {fs : List (Fd α)} {j : Nat}, fs.length ≤ j → Same x y j fs → ∀ (k : Nat) (f : Fd α), fs[k]? = some f → f.eqv x y
  | f :: r, 0, hj, _, _, _, _ => by simp at hj
  | f :: r, j + 1, hj, h, 0, f', hf' => by simp at hf'; subst hf'; exact h.1
  | f :: r, j + 1, hj, h, k + 1, f', hf' => h.2.all (by simp at hj; omega) k f' (by simpa using hf')
theorem Same.mem : ∀ {fs : List (Fd α)} {j : Nat}, Same x y j fs → ∀ (k : Nat) (f : Fd α), fs[k]? = some f → k ≠ j → f.eqv x y
  | f :: r, 0, h, 0, f', hf', hk => by omega
  | f :: r, 0, h, k + 1, f', hf', hk => Same.all (Nat.le_succ _) h k f' (by simpa using hf')
  | f :: r, j + 1, h, 0, f', hf', hk => by simp at hf'; subst hf'; exact h.1
  | f :: r, j + 1, h, k + 1, f', hf', hk => h.2.mem k f' (by simpa using hf') (by omega)
theorem tiles_apart : ∀ {fs : List (Fd α)} {s c : Nat}, tiles n nc s c fs = true → ∀ (j k : Nat) (f f' : Fd α), fs[j]? = some f → fs[k]? = some f' → j < k → f.off + f.sz ≤ f'.off ∧ f.co + f.nc ≤ f'.co
  | f :: r, s, c, h, 0, k + 1, f1, f2, h1, h2, hjk => by
    simp only [tiles, Bool.and_eq_true, beq_iff_eq] at h
    simp at h1; subst h1
    have := (tiles_le h.2).2.2 f2 (List.mem_of_getElem? (by simpa using h2))
    omega
  | f :: r, s, c, h, j + 1, k + 1, f1, f2, h1, h2, hjk => by
    simp only [tiles, Bool.and_eq_true, beq_iff_eq] at h
    exact tiles_apart h.2 j k f1 f2 (by simpa using h1) (by simpa using h2) (by omega)
/-- One field's cells are written over. -/
theorem SM.set (ht : tiles n nc 0 0 fs = true) (k : SM n fs g i x cs) (j : Nat) {f : Fd α} (hj : fs[j]? = some f) (hs : Same x y j fs) (hf : f.M g i y seg) : SM n fs g i y (spl cs f.off seg) := by
  have hle := (tiles_le ht).2.2 f (List.mem_of_getElem? hj)
  have hl := f.len hf
  have hfit : f.off + seg.length ≤ cs.length := by rw [k.1]; omega
  refine ⟨by rw [spl_length hfit, k.1], fun f' hf' => ?_⟩
  obtain ⟨q, hq⟩ := List.mem_iff_getElem?.1 hf'
  by_cases e : q = j
  · subst e
    rw [hj] at hq
    injection hq with hq
    subst hq
    rw [← hl, spl_seg_same hfit]
    exact hf
  · rw [spl_seg_other hfit (by
      rcases Nat.lt_or_gt_of_ne e with hlt | hgt
      · left; exact (tiles_apart ht q j f' f hq hj hlt).1
      · right; rw [hl]; exact (tiles_apart ht j q f f' hj hq hgt).1)]
    exact f'.ext (hs.mem q f' hq e) (k.2 f' hf')
/-- What one field leads to has turned. -/
theorem SM.upd {m : Nat → Prop} (ht : tiles n nc 0 0 fs = true) (k : SM n fs g i x cs) (s : Stp m g h) (hm : ¬ m 0) (j : Nat) {f : Fd α} (hj : fs[j]? = some f)
    (hi : ∀ c, m c → i + f.co ≤ c ∧ c < i + f.co + f.nc) (hs : Same x y j fs) (hf : f.M h i y ((cs.drop f.off).take f.sz)) : SM n fs h i y cs := by
  refine ⟨k.1, fun f' hf' => ?_⟩
  obtain ⟨q, hq⟩ := List.mem_iff_getElem?.1 hf'
  by_cases e : q = j
  · subst e
    rw [hj] at hq
    injection hq with hq
    subst hq
    exact hf
  · refine f'.ext (hs.mem q f' hq e) (f'.up s hm (fun k hk hc => ?_) (k.2 f' hf'))
    have h1 := hi _ hc
    rcases Nat.lt_or_gt_of_ne e with hlt | hgt
    · have := (tiles_apart ht q j f' f hq hj hlt).2; omega
    · have := (tiles_apart ht j q f f' hj hq hgt).2; omega
end
theorem seg1 {cs : List Value} {o : Nat} {v : Value} (h : (cs.drop o).take 1 = [v]) : cs[o]? = some v := by
  have := congrArg (·[0]?) h
  simpa [List.getElem?_take] using this
end Go.Tl
