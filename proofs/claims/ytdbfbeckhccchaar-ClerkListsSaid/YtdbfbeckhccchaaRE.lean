/- Slices: read, owned, made, appended to; values built. -/
import Derived.Test.YtdbfbeckhccchaaRD
namespace Go.Tl
open Go
set_option linter.unusedVariables false
set_option linter.unusedSimpArgs false

/-- A slice of one's own. -/
def Row {α : Type} (e : TypeId) (d : Kd α) (g : GW) (c : Nat) (xs : List α) (v : Value) : Prop :=
  ∃ L, g.w.ownsRow 0 e d.sz v xs.length L ∧ Seg d g xs L ∧ ∀ k, v.ownBlock = some k → g.c k = c
/-- A slice that reads so. -/
def RS {α : Type} (d : Kd α) (g : GW) (xs : List α) (v : Value) : Prop :=
  ∃ a c, v = .slice a xs.length c ∧ xs.length ≤ c ∧ (xs = [] ∨ ∃ b o L, a = some ⟨b, o, none⟩ ∧ Cells g.w b L ∧ o + xs.length * d.sz ≤ L.length ∧ Seg d g xs ((L.drop o).take (xs.length * d.sz)))
/-- A slice that is read; its block is of a colour (0: it is never written again). -/
def Sl {α : Type} (d : Kd α) (g : GW) (c : Nat) (xs : List α) (v : Value) : Prop :=
  ∃ a k, v = .slice a xs.length k ∧ xs.length ≤ k ∧ (xs = [] ∨ ∃ b o L, a = some ⟨b, o, none⟩ ∧ Imm g b c L ∧ o + xs.length * d.sz ≤ L.length ∧ Seg d g xs ((L.drop o).take (xs.length * d.sz)))
section
variable {α : Type} {e : TypeId} {d : Kd α} {g h : GW} {c i : Nat} {xs ys : List α} {v u : Value} {cs : List Value}
theorem Row.of (h0 : d.nc = 0) (k : (kRow e d h0).M g i xs cs) : ∃ v, cs = [v] ∧ Row e d g i xs v := k
theorem Row.kd (h0 : d.nc = 0) (k : Row e d g i xs v) : (kRow e d h0).M g i xs [v] := ⟨v, rfl, k⟩
theorem Sl.of (h0 : d.nc = 0) (k : (kSl d h0).M g i xs cs) : ∃ v, cs = [v] ∧ Sl d g 0 xs v := by
  obtain ⟨a, c, rfl, h1, h2⟩ := k; exact ⟨_, rfl, a, c, rfl, h1, h2⟩
theorem Sl.kd (h0 : d.nc = 0) (k : Sl d g 0 xs v) : (kSl d h0).M g i xs [v] := by
  obtain ⟨a, c, rfl, h1, h2⟩ := k; exact ⟨a, c, rfl, h1, h2⟩
theorem Sl.up (h0 : d.nc = 0) {m : Nat → Prop} (s : Stp m g h) (hm : ¬ m 0) (hc : ¬ m c) (k : Sl d g c xs v) : Sl d h c xs v := by
  obtain ⟨a, q, rfl, h1, h2⟩ := k
  refine ⟨a, q, rfl, h1, h2.imp id ?_⟩
  rintro ⟨b, o, L, rfl, hi, hl, hs⟩
  exact ⟨b, o, L, rfl, hi.up s hc, hl, hs.up h0 s hm⟩
theorem Row.up (h0 : d.nc = 0) {m : Nat → Prop} (s : Stp m g h) (hm : ¬ m 0) (hc : ¬ m c) (k : Row e d g c xs v) : Row e d h c xs v := by
  have hq : ∀ q, q < (kRow e d h0).nc → ¬ m (c + q) := by
    intro q hq
    have hq' : q < 1 := hq
    obtain rfl : q = 0 := by omega
    exact hc
  obtain ⟨v', e', k'⟩ := (kRow e d h0).up s hm hq (k.kd h0)
  cases e'
  exact k'
theorem Sl.rs (k : Sl d g c xs v) : RS d g xs v := by
  obtain ⟨a, c, rfl, h1, h2⟩ := k
  refine ⟨a, c, rfl, h1, h2.imp id ?_⟩
  rintro ⟨b, o, L, rfl, hi, hl, hs⟩
  exact ⟨b, o, L, rfl, hi.cells, hl, hs⟩
theorem Row.shape (k : Row e d g c xs v) : (v = .slice none 0 0 ∧ xs = []) ∨ ∃ b cap L, v = .slice (some ⟨b, 0, none⟩) xs.length cap ∧ Blk g b c e L ∧ xs.length ≤ cap ∧ cap ≤ maxLen ∧ L.length = cap * d.sz ∧ Seg d g xs (L.take (xs.length * d.sz)) := by
  obtain ⟨L, ho, hs, hc⟩ := k
  rcases ho.2 with ⟨rfl, h0⟩ | ⟨b, cap, cur, rfl, _, hb, h1, h2, h3, h4⟩
  · exact .inl ⟨rfl, List.length_eq_zero_iff.1 h0⟩
  · refine .inr ⟨b, cap, cur.toList, rfl, ⟨(Array.getElem?_eq_some_iff.1 hb).1, hc b (by simp [Value.ownBlock]), by simpa using hb⟩, h1, h2, by simpa using h3, ?_⟩
    rw [h4]; exact hs
theorem Row.mk_ {b cap : Nat} {L : List Value} (hb : Blk g b c e L) (h1 : xs.length ≤ cap) (h2 : cap ≤ maxLen) (h3 : L.length = cap * d.sz) (hs : Seg d g xs (L.take (xs.length * d.sz))) : Row e d g c xs (.slice (some ⟨b, 0, none⟩) xs.length cap) := by
  refine ⟨_, ⟨hs.1, .inr ⟨b, cap, L.toArray, rfl, Nat.zero_le _, hb.2.2, h1, h2, by simpa using h3, rfl⟩⟩, hs, fun k hk => ?_⟩
  simp [Value.ownBlock] at hk; subst hk; exact hb.2.1
theorem Row.mkn {n b cap : Nat} {L : List Value} (hn : n = xs.length) (hb : Blk g b c e L) (h1 : n ≤ cap) (h2 : cap ≤ maxLen) (h3 : L.length = cap * d.sz) (hs : Seg d g xs (L.take (n * d.sz))) : Row e d g c xs (.slice (some ⟨b, 0, none⟩) n cap) := by
  subst hn; exact Row.mk_ hb h1 h2 h3 hs
theorem Row.none : Row e d g c [] (.slice none 0 0) := ⟨[], ⟨by simp, .inl ⟨rfl, rfl⟩⟩, Seg.nil, fun k hk => by simp [Value.ownBlock] at hk⟩
theorem Sl.none : Sl d g c [] (.slice .none 0 0) := ⟨.none, 0, rfl, Nat.le_refl _, .inl rfl⟩
theorem Row.rs (k : Row e d g c xs v) : RS d g xs v := by
  rcases k.shape with ⟨rfl, rfl⟩ | ⟨b, cap, L, rfl, hb, h1, h2, h3, hs⟩
  · exact ⟨.none, 0, rfl, Nat.le_refl _, .inl rfl⟩
  · refine ⟨_, _, rfl, h1, .inr ⟨b, 0, L, rfl, hb.cells, ?_, by simpa using hs⟩⟩
    rw [h3, Nat.zero_add]; exact Nat.mul_le_mul_right _ h1
theorem Row.sl (k : Row e d g c xs v) : Sl d g c xs v := by
  rcases k.shape with ⟨rfl, rfl⟩ | ⟨b, cap, L, rfl, hb, h1, h2, h3, hs⟩
  · exact ⟨.none, 0, rfl, Nat.le_refl _, .inl rfl⟩
  · refine ⟨_, _, rfl, h1, .inr ⟨b, 0, L, rfl, hb.imm, ?_, by simpa using hs⟩⟩
    rw [h3, Nat.zero_add]; exact Nat.mul_le_mul_right _ h1
/-- Another colour for what one owns. -/
theorem Row.rc (h0 : d.nc = 0) (hc : c ≠ 0) (k : Row e d g c xs v) (r : Nat) : Row e d (g.rc c (c + 1) r) r xs v := by
  rcases k.shape with ⟨rfl, rfl⟩ | ⟨b, cap, L, rfl, hb, h1, h2, h3, hs⟩
  · exact Row.none
  · refine Row.mk_ (L := L) ⟨hb.1, ?_, hb.2.2⟩ h1 h2 h3 (hs.up h0 (Stp.rc g c (c + 1) r) (by omega))
    simp [GW.rc, hb.2.1]
theorem RS.len (k : RS d g xs v) : ∃ a c, v = .slice a xs.length c := by obtain ⟨a, c, rfl, _⟩ := k; exact ⟨a, c, rfl⟩
end
/-- The spread of an append's second part. -/
theorem RS.news {α : Type} {d : Kd α} {g : GW} {xs : List α} {v : Value} (k : RS d g xs v) : ∃ a c, v = .slice a xs.length c ∧ ∃ L, Seg d g xs L ∧ (a = none → xs = []) ∧ ∀ b, a = some b → (∀ j u, L[j]? = some u → g.w.cell? (b.add j) = some u) := by
  obtain ⟨a, c, rfl, h1, h2⟩ := k
  rcases h2 with rfl | ⟨b, o, L, rfl, hc, hl, hs⟩
  · exact ⟨a, c, rfl, [], Seg.nil, fun _ => rfl, fun b _ j u hu => by simp at hu⟩
  · refine ⟨_, c, rfl, _, hs, (fun h => by cases h), fun b' hb' j u hu => ?_⟩
    cases hb'
    rw [List.getElem?_take, List.getElem?_drop] at hu
    split at hu
    · rw [add_at, hc.cell]; exact hu
    · cases hu
section
variable {P : Program} {ρ : Env} {w : World} {g g0 : GW} {K : Value → World → Prop} {d : Option Nat} {T T' T2 : TypeId} {ps : String} {af : Array Edge} {gd : Option (Nat × Bool)} {x y z : Operand} {b o s by_ : Nat} {L seg : List Value} {v : Value} {M Z : Nat → Prop} {c : Nat} {α : Type} {kd : Kd α} {xs ys : List α}
theorem s_lenR {t e : _} {ts : _} (h1 : tsl P t = some e) (ht : ts = #[t]) (hr : RS kd g xs (ρ.ev x)) (k : K (.int .i64 xs.length) w) : stp P ⟨d, .call { callee := .builtin .len, args := #[x], argTypes := ts }, T', ps, af, gd⟩ ρ w K := by
  obtain ⟨a, c, hv⟩ := hr.len
  exact s_len h1 ht hv k
/-- An element's place, to read. -/
theorem s_idx {t e n q : _} {a : Bool} {k' : IntKind} {i : Int} {r : α} (h1 : tsl P t = some e) (h2 : tinf P e = some (a, n, q)) (hn : kd.sz = n) (hr : RS kd g xs (ρ.ev x)) (hy : ρ.ev y = .int k' i) (hi : ix xs i = some r)
    (k : ∀ b o L, Cells g.w b L → At kd g 0 r L o → K (.pointer (some ⟨b, o, none⟩)) g.w) : stp P ⟨d, .indexAddr t x y, T', ps, af, gd⟩ ρ g.w K := by
  subst hn
  obtain ⟨h0, hl, rfl⟩ := ix_some hi
  obtain ⟨a, c, hv, _, h3⟩ := hr
  rcases h3 with rfl | ⟨b, o, L, rfl, hc, hL, hs⟩
  · simp at hl
  · exact s_ia h1 h2 hv hy h0 (by omega) (k _ _ _ hc (hs.elt (Nat.le_refl _) _ hl))
/-- An element's place, to write: the row stands open. -/
theorem s_idxW {t e n q : _} {a : Bool} {k' : IntKind} {i : Int} {r : α} (h1 : tsl P t = some e) (h2 : tinf P e = some (a, n, q)) (hn : kd.sz = n) (hr : Row e kd g c xs (ρ.ev x)) (hy : ρ.ev y = .int k' i) (hi : ix xs i = some r)
    (k : ∀ b L, Blk g b c e L → At kd g 0 r L (i.toNat * n) → (∀ {L' h z}, Stp (at_ c) g h → c ≠ 0 → kd.nc = 0 → Blk h b c e L' → Upd L L' (i.toNat * n) n → At kd h 0 z L' (i.toNat * n) → Row e kd h c (upd xs i z) (ρ.ev x)) → K (.pointer (some ⟨b, i.toNat * n, none⟩)) g.w) :
    stp P ⟨d, .indexAddr t x y, T', ps, af, gd⟩ ρ g.w K := by
  subst hn
  obtain ⟨h0, hl, rfl⟩ := ix_some hi
  rcases hr.shape with ⟨_, rfl⟩ | ⟨b, cap, L, hv, hb, h3, h4, h5, hs⟩
  · simp at hl
  · have hat : At kd g 0 xs[i.toNat] L (i.toNat * kd.sz) := by
      have := (show Seg kd g xs ((L.drop 0).take (xs.length * kd.sz)) by simpa using hs).elt (Nat.le_refl _) _ hl
      simpa using this
    refine s_ia h1 h2 hv hy h0 (by omega) ?_
    rw [Nat.zero_add]
    refine k b L hb hat ?_
    intro L' h z s hc0 hnc hb' hu hz
    rw [hv, show xs.length = (upd xs i z).length by simp [upd]]
    refine Row.mk_ hb' (by simp [upd]; exact h3) h4 (by rw [hu.1, h5]) ?_
    have hs' := hs.up hnc s (fun e => hc0 e.symm)
    refine ⟨by have := hs.1; simp [upd, hu.1] at this ⊢; exact this, fun j hj => ?_⟩
    have hj' : j < xs.length := by simpa [upd] using hj
    have fit : ∀ q, q < xs.length → q * kd.sz + kd.sz ≤ xs.length * kd.sz := fun q hq => by rw [← Nat.succ_mul]; exact Nat.mul_le_mul_right _ hq
    have e1 : ∀ LL : List Value, ((LL.take ((upd xs i z).length * kd.sz)).drop (j * kd.sz)).take kd.sz = (LL.drop (j * kd.sz)).take kd.sz := fun LL => by
      rw [List.drop_take, List.take_take, Nat.min_eq_left (by have := fit j hj'; simp [upd]; omega)]
    rw [e1]
    simp only [upd, List.getElem_set]
    by_cases e : i.toNat = j
    · subst e; rw [if_pos rfl]; exact hz
    · rw [if_neg e, hu.seg ?_]
      · have h6 := hs'.2 j hj'
        have e2 := e1 L
        simp only [upd, List.length_set] at e2
        rwa [e2] at h6
      · rcases Nat.lt_or_gt_of_ne e with hlt | hgt
        · right
          have : i.toNat * kd.sz + kd.sz ≤ j * kd.sz := by rw [← Nat.succ_mul]; exact Nat.mul_le_mul_right _ hlt
          omega
        · left
          have : j * kd.sz + kd.sz ≤ i.toNat * kd.sz := by rw [← Nat.succ_mul]; exact Nat.mul_le_mul_right _ hgt
          omega

/-! append -/
theorem run_append (t ty e : TypeId) {n q : Nat} {a : Bool} {zc : List Value} (h1 : tsl P t = some e) (h2 : tinf P e = some (a, n, q)) (hz : tzero P e = some zc) (hzl : zc.length = n) (hn : kd.sz = n) (hq : q ≤ 32768) (hpos : 0 < n) (hnc : kd.nc = 0) {u : Value}
    (hr : Row e kd g c xs v) (hs : RS kd g ys u) (hl : xs.length + ys.length ≤ LIM) (hc : c ≠ 0) :
    ∃ (v' : Value) (h : GW), (Builtin.append_ #[t, t] ty #[v, u]).run P g.w = .ok v' h.w ∧ Stp (at_ c) g h ∧ (∀ Z : Nat → Prop, Z c → Lo Z g → Lo Z h) ∧ Row e kd h c (xs ++ ys) v' := by
  subst hn
  obtain ⟨i, D, hi, hD, hag, hsz, hby⟩ := tinf_info h2
  obtain ⟨zv, hzv, hzc⟩ : ∃ zv, i.zero = some zv ∧ zv.cells.toList = zc := by
    simp only [tzero, hi, Option.bind_some] at hz
    cases hh : i.zero with
    | none => simp [hh] at hz
    | some zv => simp [hh] at hz; exact ⟨zv, rfl, hz⟩
  have hzs : zv.cells.size = kd.sz := by rw [← hzl, ← hzc]; simp
  obtain ⟨a2, m, rfl, news, hns, hn0, hnews⟩ := hs.news
  unfold LIM at hl
  have hnl : news.length = ys.length * i.size := by rw [hns.1, hsz]
  have h63 : ((xs.length + ys.length : Nat) : Int) ≤ 9223372036854775807 := by omega
  have hbytes : (xs.length + ys.length) * i.bytes ≤ 140737488355328 := by
    rw [hby]
    calc _ ≤ 4294967296 * 32768 := Nat.mul_le_mul hl hq
      _ = _ := by decide
  -- where the row is another one behind the call
  have new : ∀ old, let nc := grownCap g.w (xs.length + ys.length) old e
      ∀ olds, Seg kd g xs olds → ∀ w', w' = (g.w.drew.alloc (.cells (olds.toArray ++ news.toArray ++ Builtin.zeroCells zv.cells (nc - (xs.length + ys.length))) e)) →
      ∃ h : GW, w' = h.w ∧ Stp (at_ c) g h ∧ (∀ Z : Nat → Prop, Z c → Lo Z g → Lo Z h) ∧ Row e kd h c (xs ++ ys) (.slice (some ⟨g.w.heap.size, 0, none⟩) (xs.length + ys.length) nc) := by
    intro old nc olds holds w' hw'
    have hge : xs.length + ys.length ≤ nc := grownCap_ge g.w _ old e
    have hcm : nc ≤ maxLen := grownCap_le_maxLen g.w _ old e (by unfold maxLen; omega)
    have hobj : (Obj.cells (olds.toArray ++ news.toArray ++ Builtin.zeroCells zv.cells (nc - (xs.length + ys.length))) e (0, 0)) = .cells (olds ++ news ++ (Builtin.zeroCells zv.cells (nc - (xs.length + ys.length))).toList).toArray e (0, 0) := by
      congr 1; apply Array.ext'; simp
    have st : Stp (at_ c) g (g.dr.al (.cells (olds ++ news ++ (Builtin.zeroCells zv.cells (nc - (xs.length + ys.length))).toList).toArray e (0, 0)) c) :=
      ((Stp.dr g).trans (Stp.al _ _ _)).mono (fun _ h => h.elim)
    refine ⟨_, ?_, st, fun l hl lo => (lo.dr).al _ hl, ?_⟩
    · rw [hw']; show g.w.drew.alloc _ = g.w.drew.alloc _; rw [hobj]
    · have hb := Blk.al g.dr e (olds ++ news ++ (Builtin.zeroCells zv.cells (nc - (xs.length + ys.length))).toList) c
      have hseg := (holds.append hns).up hnc st (fun e => hc e.symm)
      refine Row.mkn (b := g.w.heap.size) (by simp) hb hge hcm ?_ ?_
      · simp only [List.length_append, holds.1, hns.1, Array.length_toList, size_zeroCells, hzs, ← Nat.add_mul]
        congr 1; omega
      · rw [show (xs.length + ys.length) * kd.sz = (olds ++ news).length by rw [hseg.1]; simp, List.take_left]; exact hseg
  rcases hr.shape with ⟨rfl, rfl⟩ | ⟨b, cap, L, rfl, hb, h3, h4, h5, hs1⟩
  · -- nothing yet
    cases a2 with
    | none =>
      have hy0 := hn0 rfl
      subst hy0
      refine ⟨.slice none 0 0, g, ?_, Stp.refl _ _, fun _ _ h => h, Row.none⟩
      simp [Builtin.append_, run_underlying (tsl_und h1), sizeOf, typeInfo, hi, Builtin.lenOf, Builtin.firstCells]
    | some ad =>
      by_cases hm : ys.length = 0
      · have hy0 : ys = [] := List.length_eq_zero_iff.1 hm
        subst hy0
        refine ⟨.slice none 0 0, g, ?_, Stp.refl _ _, fun _ _ h => h, Row.none⟩
        simp [Builtin.append_, run_underlying (tsl_und h1), sizeOf, typeInfo, hi, Builtin.lenOf, Builtin.firstCells, loadCells, loadCellsFrom]
      · have hrun := run_append_nil (P := P) g.w t ty e i zv (tsl_und h1) hi hzv ad ys.length m news hnl (hnews ad rfl) (by omega) (by omega) (by have := hbytes; simp only [List.length_nil, Nat.zero_add] at this; omega)
        obtain ⟨h, e1, e2, e3, e4⟩ := new 0 [] Seg.nil _ rfl
        refine ⟨_, h, ?_, e2, e3, e4⟩
        rw [hrun, ← e1]
        simp
  · by_cases hroom : xs.length + ys.length ≤ cap
    · have hfit : xs.length * i.size + news.length ≤ L.toArray.size := by
        rw [hnl, hsz]; simp only [List.size_toArray, h5, ← Nat.add_mul]; exact Nat.mul_le_mul_right _ hroom
      have fin : ∀ (w' : World), w' = g.w.setRow b (L.take (xs.length * i.size) ++ news ++ L.drop (xs.length * i.size + news.length)).toArray →
          ∃ h : GW, w' = h.w ∧ Stp (at_ c) g h ∧ (∀ Z : Nat → Prop, Z c → Lo Z g → Lo Z h) ∧ Row e kd h c (xs ++ ys) (.slice (some ⟨b, 0, none⟩) (xs.length + ys.length) cap) := by
        intro w' hw'
        refine ⟨g.sr b _, hw', Stp.sr g b _ hb.2.1, fun l _ lo => lo.sr b _, ?_⟩
        have hseg := (hs1.append hns).up hnc (Stp.sr g b (L.take (xs.length * i.size) ++ news ++ L.drop (xs.length * i.size + news.length)) hb.2.1) (fun e => hc e.symm)
        refine Row.mkn (by simp) (hb.sr _) hroom h4 ?_ ?_
        · simp only [List.length_append, List.length_take, List.length_drop]
          simp only [List.size_toArray] at hfit
          omega
        · rw [hsz] at hseg ⊢
          rw [show (xs.length + ys.length) * kd.sz = (L.take (xs.length * kd.sz) ++ news).length by rw [hseg.1]; simp, List.take_left]; exact hseg
      cases a2 with
      | none =>
        have hy0 := hn0 rfl
        subst hy0
        have hnn : news = [] := List.length_eq_zero_iff.1 (by simpa using hnl)
        subst hnn
        obtain ⟨h, e1, e2, e3, e4⟩ := fin g.w (by
          simp only [List.append_nil, List.length_nil, Nat.add_zero, List.take_append_drop]
          exact (setRow_self g.w b L.toArray e (0, 0) hb.2.2).symm)
        refine ⟨_, h, ?_, e2, e3, e4⟩
        rw [← e1]
        simp at hroom
        simp [Builtin.append_, run_underlying (tsl_und h1), sizeOf, typeInfo, hi, Builtin.lenOf, Builtin.firstCells, hroom, storeCells]
      | some ad =>
        have hrun := run_append_room (P := P) g.w t ty e i (tsl_und h1) hi b xs.length cap L.toArray hb.2.2 ad ys.length m news hnl (hnews ad rfl) hns.one hroom hfit
        obtain ⟨h, e1, e2, e3, e4⟩ := fin _ rfl
        exact ⟨_, h, by rw [hrun, ← e1], e2, e3, e4⟩
    · cases a2 with
      | none =>
        have hy0 := hn0 rfl
        subst hy0
        simp at hroom; omega
      | some ad =>
        have hcell : ∀ j u, (L.take (xs.length * kd.sz))[j]? = some u → g.w.cell? ((⟨b, 0, none⟩ : Addr).add j) = some u := by
          intro j u hu
          rw [add_at, hb.cells.cell, Nat.zero_add]
          rw [List.getElem?_take] at hu
          split at hu
          · exact hu
          · cases hu
        have hrun := run_append_grow (P := P) g.w t ty e i zv (tsl_und h1) hi hzv ⟨b, 0, none⟩ xs.length cap (L.take (xs.length * kd.sz)) (by rw [hs1.1, hsz]) hcell ad ys.length m news hnl (hnews ad rfl) (by omega) h63 (growslice_fits (by omega) hbytes)
        obtain ⟨h, e1, e2, e3, e4⟩ := new cap _ hs1 _ rfl
        exact ⟨_, h, by rw [hrun, ← e1], e2, e3, e4⟩
theorem run_app_tx {t tx ty e e' : TypeId} {v u : Value} (h1 : tsl P t = some e) (hx : tsl P tx = some e') : (Builtin.append_ #[t, tx] ty #[v, u]).run P w = (Builtin.append_ #[t, t] ty #[v, u]).run P w := by
  simp [Builtin.append_, run_und (tsl_und h1), run_und (tsl_und hx)]
  cases v <;> simp [run_und (tsl_und h1), run_und (tsl_und hx)]
theorem s_app {t tx e e' n q : _} {a : Bool} {zc : List Value} {ts : _} {zs : List α} (I : Inv M Z g0 g) (h1 : tsl P t = some e) (ht : ts = #[t, tx]) (htx : tsl P tx = some e') (h2 : tinf P e = some (a, n, q)) (hz : tzero P e = some zc) (hk : (decide (zc.length = n) && decide (kd.sz = n) && decide (q ≤ 32768) && decide (0 < n) && decide (kd.nc = 0)) = true)
    (hr : Row e kd g c xs (ρ.ev x)) (hs : RS kd g ys (ρ.ev y)) (hl : app xs ys = some zs) (hc : c ≠ 0) (hlc : Z c) (hM : M c)
    (k : ∀ h v, Stp (at_ c) g h → Inv M Z g0 h → Row e kd h c zs v → K v h.w) : stp P ⟨d, .call { callee := .builtin .append, args := #[x, y], argTypes := ts }, T', ps, af, gd⟩ ρ g.w K := by
  subst ht
  simp only [Bool.and_eq_true, decide_eq_true_eq] at hk
  obtain ⟨hll, rfl⟩ : xs.length + ys.length ≤ LIM ∧ xs ++ ys = zs := by
    unfold app at hl; split at hl
    · rename_i hh; exact ⟨hh, by simpa using hl⟩
    · cases hl
  obtain ⟨v', h, e1, e2, e3, e4⟩ := run_append (P := P) t T' e h1 h2 hz hk.1.1.1.1 hk.1.1.1.2 hk.1.1.2 hk.1.2 hk.2 hr hs hll hc
  refine stp_run ?_ (k h v' e2 ⟨I.s.then e2 (fun c' h => by cases h; exact hM), e3 Z hlc I.l⟩ e4)
  simp [execOp, resolve, invoke, builtin, run_app_tx h1 htx, e1]
/-! make -/
theorem flat_zero (zc : List Value) (n : Nat) (h : 0 < zc.length) : ((Array.range (n * zc.length)).map (fun i => zc.toArray[i % zc.toArray.size]!)).toList = (List.replicate n zc).flatten := by
  apply List.ext_getElem?
  intro q
  have hf : ∀ n q, q < n * zc.length → (List.replicate n zc).flatten[q]? = zc[q % zc.length]? := by
    intro n
    induction n with
    | zero => intro q hq; omega
    | succ n ih =>
      intro q hq
      rw [List.replicate_succ, List.flatten_cons]
      by_cases h1 : q < zc.length
      · rw [List.getElem?_append_left h1, Nat.mod_eq_of_lt h1]
      · rw [List.getElem?_append_right (by omega), ih _ (by rw [Nat.succ_mul] at hq; omega), ← Nat.mod_eq_sub_mod (by omega)]
  by_cases hq : q < n * zc.length
  · rw [hf n q hq]
    have hlt : q % zc.length < zc.length := Nat.mod_lt _ h
    simp [hq, hlt]
  · rw [List.getElem?_eq_none (by simpa using hq), List.getElem?_eq_none (by simp; omega)]
theorem s_make {t e n q : _} {a : Bool} {zc : List Value} {zs : List α} {i : Int} (c : Nat) (I : Inv M Z g0 g) (h1 : tsl P t = some e) (h2 : tinf P e = some (a, n, q)) (hz : tzero P e = some zc) (hk : (decide (zc.length = n) && decide (kd.sz = n) && decide (q ≤ 32768) && decide (0 < n) && decide (kd.nc = 0) && kd.zok) = true) (hzc : kd.zc = zc)
    (hx : ρ.ev x = .int .i64 i) (hy : ρ.ev y = .int .i64 i) (hl : mk i kd.z = some zs) (hlc : Z c)
    (k : ∀ h v, Stp no g h → Inv M Z g0 h → Row e kd h c zs v → K v h.w) : stp P ⟨d, .makeSlice t x y, T', ps, af, gd⟩ ρ g.w K := by
  simp only [Bool.and_eq_true, decide_eq_true_eq] at hk
  obtain ⟨⟨⟨⟨⟨hk1, hk2⟩, hk3⟩, hk4⟩, hk5⟩, hk6⟩ := hk
  obtain ⟨hll, rfl⟩ : (0 ≤ i ∧ i ≤ LIM) ∧ List.replicate i.toNat kd.z = zs := by
    unfold mk at hl; split at hl
    · rename_i hh; exact ⟨hh, by simpa using hl⟩
    · cases hl
  unfold LIM at hll
  obtain ⟨m, rfl⟩ := Int.eq_ofNat_of_zero_le hll.1
  obtain ⟨ti, D, hi, hD, hag, hsz, hby⟩ := tinf_info h2
  obtain ⟨zv, hzv, hzcc⟩ := tzero_run hz g.w
  subst hk2
  have hm : m ≤ 4294967296 := by have := hll.2; omega
  have hw : IntKind.i64.wrap (m : Int) = m := by simp [IntKind.wrap, IntKind.bits, IntKind.signed]; omega
  have hbyt : (q : Int) * m ≤ 281474976710656 := by
    have : q * m ≤ 32768 * 4294967296 := Nat.mul_le_mul hk3 hm
    have h3 : ((q * m : Nat) : Int) ≤ ((32768 * 4294967296 : Nat) : Int) := Int.ofNat_le.2 this
    rw [Int.natCast_mul] at h3
    omega
  have hcz : zv.cells = zc.toArray := by rw [← hzcc]
  have hobj : ((Array.range (m * kd.sz)).map (fun i => zc.toArray[i % zc.toArray.size]!)) = ((List.replicate m zc).flatten).toArray := by
    have := flat_zero zc m (by omega)
    rw [hk1] at this
    rw [← this]
  have hlen : ((List.replicate m zc).flatten).length = m * kd.sz := by simp [hk1]
  refine stp_run (v := .slice (some ⟨g.n, 0, none⟩) m m) (w' := (g.al (.cells ((List.replicate m zc).flatten).toArray e (0, 0)) c).w) ?_ (k _ _ (Stp.al g _ c) ⟨I.s.then (Stp.al g _ c) (fun c h => h.elim), I.l.al _ hlc⟩ ?_)
  · have htl : ¬ ((q : Int) * m > 281474976710656) := by omega
    simp only [execOp, hx, hy, Instr.makeSlice, Sem.run_bind, run_und (tsl_und h1), Result.andThen_ok, asInt, asIntOf, Sem.run_pure, typeInfo, run_program, hi, hw, hby]
    have hneg : ¬ ((m : Int) < 0) := by omega
    rw [show ((decide ((m : Int) < 0) || decide ((q : Int) * m > 2 ^ 48)) || decide ((m : Int) < 0) || decide ((m : Int) > m)) = false by simp [hneg]; omega]
    simp only [Bool.false_eq_true, if_false, Sem.run_pure, Result.andThen_ok, Sem.run_bind, run_askRoom, run_size h2, Int.toNat_natCast]
    by_cases hm0 : m = 0
    · subst hm0
      have h0 : Array.map (fun i => (#[] : Array Value)[i % (#[] : Array Value).size]!) (Array.range (0 * kd.sz)) = ((List.replicate 0 zc).flatten).toArray := by apply Array.ext'; simp
      simp only [Nat.zero_mul, if_true, Sem.run_bind, Sem.run_pure, Result.andThen_ok, newRow, run_newObj] at h0 ⊢
      rw [h0]
      rfl
    · rw [if_neg (Nat.mul_ne_zero hm0 (by omega))]
      simp only [Sem.run_bind, hzv, Result.andThen_ok, Sem.run_pure, hcz, hobj, newRow, run_newObj]
      rfl
  · have := Row.mk_ (e := e) (d := kd) (c := c) (xs := List.replicate m kd.z) (cap := m) (Blk.al g e ((List.replicate m zc).flatten) c) (by simp) (by unfold maxLen; omega) hlen (by
      simp only [List.length_replicate]
      rw [List.take_of_length_le (by omega), ← hzc]
      exact Seg.replicate (kd.zk hk6) m)
    simpa using this
end
end Go.Tl
