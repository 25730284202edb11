/- More operations: stores into arrays, slices of arrays, copy, bytes as strings, function values, comparisons of strings. -/
import Derived.Test.YtdbfbeckhccchaaRI
import Derived.Laws.BytesArg
import Derived.Laws.StructEq
namespace Go.Tl
open Go
set_option linter.unusedVariables false
set_option linter.unusedSimpArgs false

section
variable {α β : Type} {g h : GW} {i o j : Nat} {L L' : List Value}
theorem At.numAt {k' : IntKind} {n : Nat} {xs : List Int} {j : Int} {y : Int} (a : At (kNums k' n) g i xs L o) (h : ix xs j = some y) : At (kInt k') g 0 y L (o + j.toNat * 1) := by
  have := a.numI h
  show (L.drop (o + j.toNat * 1)).take 1 = [.int k' y]
  obtain ⟨hl, e⟩ := List.getElem?_eq_some_iff.1 this
  rw [List.drop_eq_getElem_cons hl, e]; rfl
theorem At.setNI {k' : IntKind} {n : Nat} {xs : List Int} {j : Int} {y0 y : Int} (a : At (kNums k' n) g i xs L o) (hx : ix xs j = some y0) (hu : Upd L L' (o + j.toNat * 1) 1) (h' : At (kInt k') h 0 y L' (o + j.toNat * 1)) : At (kNums k' n) h i (upd xs j y) L' o := by
  obtain ⟨_, hj, rfl⟩ := ix_some hx
  rw [Nat.mul_one] at hu h'
  have h2 : L'[o + j.toNat]? = some (.int k' y) := seg1 (cs := L') h'
  exact (show At (kNums k' n) h i xs L o from a).setN _ hj hu h2
theorem At.setEJ {n a m : Nat} {d : Kd α} {h0 : d.nc = 0} {x : List α} {y0 y : α} {j : Int} (s : Nat) (k : At (kArr n d h0) g i x L o) (hs : d.sz = s) (hx : ix x j = some y0) (hu : Upd L L' a m) (h1 : o + j.toNat * s ≤ a) (h2 : a + m ≤ o + j.toNat * s + s)
    (h' : At d g 0 y L' (o + j.toNat * s)) : At (kArr n d h0) g i (upd x j y) L' o := by
  subst hs
  obtain ⟨_, hj, rfl⟩ := ix_some hx
  exact At.setE k _ hj hu h1 h2 h'
theorem At.setFJ {n nc : Nat} {fs : List (Fd α)} {z : α} {ht : tiles n nc 0 0 fs = true} {hz : fs.all (·.zok) = true → AllZ z fs} {x y : α} {off co a m : Nat} {d : Kd β} {p : α → β} (s : Nat)
    (k : At (kSt n nc fs z ht hz) g i x L o) (j : Nat) (hj : fs[j]? = some (fd off co d p)) (hs : Same x y j fs) (hd : d.sz = s) (hu : Upd L L' a m) (h1 : o + off ≤ a) (h2 : a + m ≤ o + off + s)
    (h' : At d g (i + co) (p y) L' (o + off)) : At (kSt n nc fs z ht hz) g i y L' o := by
  subst hd; exact At.setF k j hj hs hu h1 h2 h'
theorem At.segN {k' : IntKind} {n : Nat} {xs : List Int} (a : At (kNums k' n) g i xs L o) : Seg (kInt k') g xs ((L.drop o).take (n * 1)) := by
  obtain ⟨hl, hs⟩ := a
  have hs : (L.drop o).take n = xs.map (.int k') := hs
  rw [Nat.mul_one, hs]
  refine ⟨by simp [kInt, kScal], fun j hj => ?_⟩
  show ((xs.map (Value.int k')).drop (j * 1)).take 1 = [.int k' xs[j]]
  rw [Nat.mul_one, List.drop_eq_getElem_cons (by simpa using hj)]; simp
theorem Sl.arrN {k' : IntKind} {n b c : Nat} {xs : List Int} (hb : Imm g b c L) (a : At (kNums k' n) g i xs L o) (h0 : Nat.blt 0 n = true) : Sl (kInt k') g c xs (.slice (some ⟨b, o, Option.none⟩) n n) := by
  have hl : xs.length = n := a.1
  have hf := a.fits (by simp [Nat.blt] at h0; exact h0)
  have := a.segN
  refine ⟨some ⟨b, o, Option.none⟩, n, by rw [hl], by omega, .inr ⟨b, o, L, rfl, hb, ?_, ?_⟩⟩
  · show o + xs.length * 1 ≤ L.length
    have hf : o + n ≤ L.length := hf
    omega
  · rw [hl]; exact this
end
section
variable {P : Program} {ρ : Env} {w : World} {g g0 : GW} {K : Value → World → Prop} {d : Option Nat} {T T' T2 : TypeId} {ps : String} {af : Array Edge} {gd : Option (Nat × Bool)} {x y z : Operand} {b o s by_ i : Nat} {L seg : List Value} {v : Value} {M Z m : Nat → Prop} {c : Nat} {α : Type} {kd : Kd α} {r : α}
theorem s_stP {a : Bool} {T1 : TypeId} {cs : List Value} (I : Inv M Z g0 g) (ht : tinf P T = some (a, s, by_)) (hx : ρ.ev x = .pointer (some ⟨b, o, none⟩)) (hy : cv (ρ.ev y) = cs) (hr : kd.M g i r cs) (hs : kd.sz = s) (hb : Blk g b c T1 L) (hl : o + s ≤ L.length) (hc0 : c ≠ 0) (hi : ∀ k, k < kd.nc → ¬ at_ c (i + k)) (hM : M c)
    (k : ∀ h L', Stp (at_ c) g h → Inv M Z g0 h → Blk h b c T1 L' → Upd L L' o s → At kd h i r L' o → K undef h.w) : stp P ⟨d, .store T x y, T2, ps, af, gd⟩ ρ g.w K :=
  s_stK I ht hx hy hr hs hb (Nat.ble_eq_true_of_le hl) hc0 hi hM k
/-- A whole array as a slice, its value told. -/
theorem s_slcX {t e n q m b o : _} {a : Bool} (h1 : tarr P t = some (m, e)) (h2 : tinf P e = some (a, n, q)) (hx : ρ.ev x = .pointer (some ⟨b, o, none⟩)) (k : K (.slice (some ⟨b, o, none⟩) m m) w) : stp P ⟨d, .slice t x none none none, T', ps, af, gd⟩ ρ w K := by
  refine stp_run ?_ k
  simp [execOp, hx, Instr.sliceAt, run_und (tarr_und h1), Instr.sureAddr, Instr.sliceBounds, run_size h2, add_at]
theorem s_copyN {dt st e n q t1 : _} {k' : IntKind} {xs ys : List Int} {ts : _} (I : Inv M Z g0 g) (h1 : tsl P dt = some e) (hts : ts = #[dt, st]) (h2 : tinf P e = some (false, 1, q)) (hx : ρ.ev x = .slice (some ⟨b, o, none⟩) n n) (hs : RS (kInt k') g ys (ρ.ev y))
    (hb : Blk g b c t1 L) (a : At (kNums k' n) g i xs L o) (h0 : Nat.blt 0 n = true) (hc0 : c ≠ 0) (hM : M c)
    (k : ∀ h L', Stp (at_ c) g h → Inv M Z g0 h → Blk h b c t1 L' → Upd L L' o n → At (kNums k' n) h i (cpy xs ys) L' o → K (.int .i64 (mn ys.length xs.length)) h.w) :
    stp P ⟨d, .call { callee := .builtin .copy, args := #[x, y], argTypes := ts }, T', ps, af, gd⟩ ρ g.w K := by
  subst hts
  obtain ⟨a2, m, hy, news, hns, hn0, hnews⟩ := hs.news
  have hl : xs.length = n := a.1
  have hf : o + n ≤ L.length := a.fits (by simp [Nat.blt] at h0; exact h0)
  have hseg : news = ys.map (.int k') := by
    apply List.ext_getElem?
    intro q
    have hl2 : news.length = ys.length * 1 := hns.1
    by_cases hq : q < ys.length
    · have h3 : ((news.drop (q * 1)).take 1) = [.int k' ys[q]] := hns.2 q hq
      rw [Nat.mul_one] at h3
      rw [seg1 h3]; simp [hq]
    · rw [List.getElem?_eq_none (by omega), List.getElem?_eq_none (by simp; omega)]
  obtain ⟨N, hN⟩ : ∃ N, N = Nat.min ys.length n := ⟨_, rfl⟩
  have hN' : N = if ys.length ≤ n then ys.length else n := by rw [hN]; exact Nat.min_def
  have hN1 : N ≤ ys.length := by split at hN' <;> omega
  have hN2 : N ≤ n := by split at hN' <;> omega
  have hcells : (Builtin.firstCells 1 N (.slice a2 ys.length m)).run P g.w = .ok (news.take N).toArray g.w := by
    cases a2 with
    | none =>
      have := hn0 rfl; subst this
      have : N = 0 := by simpa using hN1
      subst this
      simp [Builtin.firstCells, hseg]
    | some ad =>
      have := run_loadCells_list (P := P) g.w ad (news.take N) (fun j u hj => by
        rw [List.getElem?_take] at hj
        split at hj
        · exact hnews ad rfl j u hj
        · cases hj)
      have hlen : (news.take N).length = N := by rw [hseg]; simp; omega
      rw [hlen] at this
      simp [Builtin.firstCells, this]
  have hst := run_storeCells_at P b o t1 (news.take N) 0 L.toArray g.w hb.2.2 (by rw [hseg]; simp; omega) (fun u hu => by
    rw [hseg, ← List.map_take] at hu
    obtain ⟨_, _, rfl⟩ := List.mem_map.1 hu; rfl)
  simp only [Nat.add_zero] at hst
  have hlen : (news.take N).length = N := by rw [hseg]; simp; omega
  refine stp_run (v := .int .i64 (mn ys.length xs.length)) (w' := (g.sr b (spl L o (news.take N))).w) ?_ ?_
  · have hg : ((N : Nat) : Int) = mn ys.length xs.length := by
      rw [hl]; unfold mn; split at hN' <;> split <;> omega
    simp only [execOp, resolve, invoke, builtin, hx, hy, Builtin.copy_, Sem.run_bind, Sem.run_pure, Result.andThen_ok]
    simp [hx, hy, Builtin.copy_, run_und (tsl_und h1), Builtin.lenOf, run_size h2]
    rw [← hN]
    simp [hcells, hst, GW.sr, spl, goInt, hg]
  · refine k (g.sr b _) _ (Stp.sr g b _ hb.2.1) ⟨I.s.then (Stp.sr g b _ hb.2.1) (fun c' h => by cases h; exact hM), I.l.sr b _⟩ (hb.sr _) ?_ ?_
    · have hu := Upd.spl (L := L) (seg := news.take N) (a := o) (by omega)
      exact ⟨hu.1, fun q hq => hu.2 q (by rw [hlen]; omega)⟩
    · have hxs : (L.drop o).take n = xs.map (.int k') := a.2
      refine ⟨by simp [cpy]; omega, ?_⟩
      show ((spl L o (news.take N)).drop o).take n = (cpy xs ys).map (.int k')
      apply List.ext_getElem?
      intro q
      rw [List.getElem?_take, List.getElem?_drop, spl_get _ _ _ _ (by rw [hlen]; omega), hlen]
      have hq0 := congrArg (·[q]?) hxs
      simp only [List.getElem?_take, List.getElem?_drop] at hq0
      simp only [cpy, List.map_append, List.getElem?_append, List.length_map, List.length_take, List.map_take, List.map_drop, List.getElem?_take, List.getElem?_drop]
      by_cases hqn : q < n
      · rw [if_pos hqn] at hq0 ⊢
        by_cases hqN : q < N
        · have : q < ys.length := by omega
          rw [if_pos (by omega), if_pos (by omega), Nat.add_sub_cancel_left, if_pos (by omega), hseg, if_pos (by omega)]
        · subst hl
          rw [if_neg (by omega), hq0, if_neg (by split at hN' <;> (simp only [Nat.min_def]; split <;> omega))]
          have hN3 : N = ys.length := by split at hN' <;> omega
          congr 1; omega
      · rw [if_neg hqn, if_neg (by simp only [Nat.min_def]; split <;> omega), List.getElem?_eq_none (by simp; omega)]
/-! ### Bytes as a string -/
theorem run_bs {src dst e : TypeId} {xs : List Int} {v : Value} (hs : tsl P src = some e) (he : P.underlying e = some (.int .u8)) (hd : P.underlying dst = some .string) (k : RS (kInt .u8) g xs v) : (convert src dst v).run P g.w = .ok (.string (strOfNums xs)) g.w := by
  obtain ⟨a, c, rfl, hc, h3⟩ := k
  by_cases h0 : xs = []
  · subst h0
    cases a with
    | none => have := run_convert_bytes_nil g.w src e (tsl_und hs) he 0 c dst hd; exact this
    | some ad =>
      have hl : (loadCells ad 0).run P g.w = .ok (([] : List Int).map (Value.int .u8)).toArray g.w := by simp [loadCells, loadCellsFrom]
      rw [run_convert_bytes_string g.w src dst e _ _ c (tsl_und hs) he hd, List.length_nil, run_bytesToString g.w ad 0 c [] hl]
      rfl
  · rcases h3 with h | ⟨b, o, L, rfl, hcl, hL, hseg⟩
    · exact absurd h h0
    · refine run_convert_bytes_arg g.w src e (tsl_und hs) he b o xs.length c xs rfl (fun i hi => ?_) dst hd
      have h4 := hseg.2 i hi
      have h5 := seg1 (show (((L.drop o).take (xs.length * 1)).drop (i * 1)).take 1 = [.int .u8 xs[i]] from h4)
      rw [hcl.cell]
      rw [List.getElem?_take, List.getElem?_drop] at h5
      split at h5
      · rw [Nat.mul_one] at h5; rw [h5]; simp [List.getD, hi]
      · cases h5
theorem s_bs {src dst e : TypeId} {xs : List Int} (hs : tsl P src = some e) (he : P.underlying e = some (.int .u8)) (hd : P.underlying dst = some .string) (k : RS (kInt .u8) g xs (ρ.ev x)) (kk : K (.string (strOfNums xs)) g.w) : stp P ⟨d, .convert src dst x, T', ps, af, gd⟩ ρ g.w K :=
  stp_run (by simp [execOp, run_bs hs he hd k]) kk
theorem str_eq (a b : ByteArray) : (a.toList == b.toList) = decide (a = b) := by
  rw [← beq_toListBytes]
  obtain ⟨a⟩ := a
  obtain ⟨b⟩ := b
  show (a == b) = _
  by_cases h : a = b
  · subst h; simp
  · simp [h]
theorem s_strE {t : TypeId} {a b : ByteArray} (hu : P.underlying t = some .string) (hx : ρ.ev x = .string a) (hy : ρ.ev y = .string b) (k : K (.bool (decide (a = b))) w) : stp P ⟨d, .binOp .eql t x y T2, T', ps, af, gd⟩ ρ w K := by
  refine stp_run ?_ k
  have hg : (eqGuard .eql t x y (.string a) (.string b)).run P w = .ok () w := by unfold eqGuard; rfl
  simp only [execOp, hx, hy, Sem.run_bind, hg, Result.andThen_ok]
  simp [binOp, Op.stringOp, str_eq]
theorem s_strNe {t : TypeId} {a b : ByteArray} (hu : P.underlying t = some .string) (hx : ρ.ev x = .string a) (hy : ρ.ev y = .string b) (k : K (.bool (decide (a ≠ b))) w) : stp P ⟨d, .binOp .neq t x y T2, T', ps, af, gd⟩ ρ w K := by
  refine stp_run ?_ k
  have hg : (eqGuard .neq t x y (.string a) (.string b)).run P w = .ok () w := by unfold eqGuard; rfl
  simp only [execOp, hx, hy, Sem.run_bind, hg, Result.andThen_ok]
  simp [binOp, Op.stringOp, str_eq]
/-! ### Elements of one's own rows -/
theorem Row.opn {e n : Nat} {xs : List α} {i : Int} {r : α} {m cap : Nat} {v : Value} (hr : Row e kd g c xs v) (hv : v = .slice (some ⟨b, 0, Option.none⟩) m cap) (hi : ix xs i = some r) (hn : kd.sz = n) :
    ∃ L, Blk g b c e L ∧ At kd g 0 r L (i.toNat * n) ∧ ∀ {L' h z q}, Stp q g h → ¬ q 0 → kd.nc = 0 → Blk h b c e L' → Upd L L' (i.toNat * n) n → At kd h 0 z L' (i.toNat * n) → Row e kd h c (upd xs i z) v := by
  subst hn
  subst hv
  obtain ⟨h0, hl, rfl⟩ := ix_some hi
  rcases hr.shape with ⟨_, rfl⟩ | ⟨b', cap', L, hv, hb, h3, h4, h5, hs⟩
  · simp at hl
  · cases hv
    have hat : At kd g 0 xs[i.toNat] L (i.toNat * kd.sz) := by
      have := (show Seg kd g xs ((L.drop 0).take (xs.length * kd.sz)) by simpa using hs).elt (Nat.le_refl _) _ hl
      simpa using this
    refine ⟨L, hb, hat, fun {L' h z q} st hq hnc hb' hu hz => ?_⟩
    have hfit : i.toNat * kd.sz + kd.sz ≤ xs.length * kd.sz := by rw [← Nat.succ_mul]; exact Nat.mul_le_mul_right _ hl
    have hcap : xs.length * kd.sz ≤ L.length := by rw [h5]; exact Nat.mul_le_mul_right _ h3
    refine Row.mkn (by simp [upd]) hb' h3 h4 (by rw [hu.1, h5]) ?_
    have hs' := hs.up hnc st hq
    have hset := hs'.set hl hz
    have e : spl (L.take (xs.length * kd.sz)) (i.toNat * kd.sz) ((L'.drop (i.toNat * kd.sz)).take kd.sz) = L'.take (xs.length * kd.sz) := by
      apply List.ext_getElem?
      intro q
      have hlen : ((L'.drop (i.toNat * kd.sz)).take kd.sz).length = kd.sz := kd.len hz
      rw [spl_get _ _ _ _ (by rw [hlen]; simp; omega), hlen]
      by_cases hq : i.toNat * kd.sz ≤ q ∧ q < i.toNat * kd.sz + kd.sz
      · rw [if_pos hq, List.getElem?_take, if_pos (by omega), List.getElem?_drop, List.getElem?_take, if_pos (by omega)]
        congr 1; omega
      · rw [if_neg hq, List.getElem?_take, List.getElem?_take]
        split
        · rw [hu.2 q (by omega)]
        · rfl
    rw [e] at hset; exact hset
theorem s_idxR {t e n q : _} {a : Bool} {k' : IntKind} {i : Int} {r : α} {xs : List α} (h1 : tsl P t = some e) (h2 : tinf P e = some (a, n, q)) (hr : Row e kd g c xs (ρ.ev x)) (hy : ρ.ev y = .int k' i) (hi : ix xs i = some r)
    (k : ∀ b m cap, ρ.ev x = .slice (some ⟨b, 0, none⟩) m cap → K (.pointer (some ⟨b, i.toNat * n, none⟩)) w) : stp P ⟨d, .indexAddr t x y, T', ps, af, gd⟩ ρ w K := by
  obtain ⟨h0, hl, rfl⟩ := ix_some hi
  rcases hr.shape with ⟨_, rfl⟩ | ⟨b, cap, L, hv, hb, h3, h4, h5, hs⟩
  · simp at hl
  · refine s_ia h1 h2 hv hy h0 (by omega) ?_
    rw [Nat.zero_add]
    exact k b _ _ hv
/-! ### Fields of values -/
theorem s_fldS {S off f t n q : _} {cs : List Value} {ff : α → Value} {zz : α} {hf : ∀ x, (ff x).oneCell' = true} {i : Nat} (h1 : tfld P S f = some (off, t)) (h2 : tinf P t = some (false, n, q)) (hx : ρ.ev x = .agg cs.toArray) (a : At (kScal ff zz hf) g i r cs off) (k : K (ff r) w) : stp P ⟨d, .field S x f, T', ps, af, gd⟩ ρ w K :=
  s_fld h1 h2 hx (v := ff r) (by simpa using a.sc) k
theorem s_fldSl {S off f t n q : _} {cs : List Value} {h0 : kd.nc = 0} {xs : List α} {i : Nat} (h1 : tfld P S f = some (off, t)) (h2 : tinf P t = some (false, n, q)) (hx : ρ.ev x = .agg cs.toArray) (a : At (kSl kd h0) g i xs cs off) (k : ∀ v, Sl kd g 0 xs v → K v w) : stp P ⟨d, .field S x f, T', ps, af, gd⟩ ρ w K := by
  obtain ⟨v, e, h⟩ := a.sl
  exact s_fld h1 h2 hx (v := v) (by simpa using e) (k v h)
theorem s_fldK {S off f t n q : _} {cs : List Value} {i : Nat} (h1 : tfld P S f = some (off, t)) (h2 : tinf P t = some (true, n, q)) (hx : ρ.ev x = .agg cs.toArray) (a : At kd g i r cs off) (hs : kd.sz = n) (k : ∀ ds : List Value, kd.M g i r ds → K (.agg ds.toArray) w) : stp P ⟨d, .field S x f, T', ps, af, gd⟩ ρ w K := by
  subst hs
  exact s_fld h1 h2 hx (v := .agg ((cs.drop off).take kd.sz).toArray) (by simp) (k _ a)
theorem s_slNil {t e : _} {xs : List α} (h1 : tsl P t = some e) (hs : Sl kd g c xs (ρ.ev x)) (hy : ρ.ev y = .slice none 0 0) (k : ∀ b, (b = true → xs = []) → K (.bool b) w) : stp P ⟨d, .binOp .eql t x y T2, T', ps, af, gd⟩ ρ w K := by
  obtain ⟨a, cap, hv, _, h3⟩ := hs
  refine s_slN h1 hv hy (k _ fun hb => ?_)
  rcases h3 with h | ⟨b, o, L, rfl, _⟩
  · exact h
  · cases hb
/-! ### Function values -/
theorem s_mkf {f : FuncId} {cs : Array Operand} {vl : List Value} (hc : cs.toList.map ρ.ev = vl) (k : K (.func (.func f) #[] vl.toArray) w) : stp P ⟨d, .makeFunc (.func f) #[] cs, T', ps, af, gd⟩ ρ w K := by
  subst hc
  refine stp_run ?_ k
  simp only [execOp, Instr.makeFunc, Sem.run_bind, Sem.run_pure, Result.andThen_ok]
  have e : cs.map ρ.ev = (cs.toList.map ρ.ev).toArray := by apply Array.ext'; simp
  rw [e]; simp
theorem s_cv {f : FuncId} {fx : Operand} {as : Array Operand} {ts : Array TypeId} {vl cl : List Value} {post : GW → Value → Prop} (I : Inv M Z g0 g) (hx : ρ.ev fx = .func (.func f) #[] cl.toArray) (hf : okF P f = true) (ha : as.toList.map ρ.ev = vl) (hc : Calls P f (vl ++ cl).toArray g.w (Rets (RR m Z g post))) (hm : ∀ c, m c → M c)
    (k : ∀ h v, Stp m g h → Inv M Z g0 h → post h v → K v h.w) : stp P ⟨d, .call { callee := .value fx, args := as, argTypes := ts }, T, ps, af, gd⟩ ρ g.w K := by
  have : (execOp ρ.ev ⟨d, .call { callee := .value fx, args := as, argTypes := ts }, T, ps, af, gd⟩).run P g.w = .ok (.enter f (vl ++ cl).toArray) g.w := by
    have e : as.map ρ.ev = vl.toArray := by rw [← ha]; apply Array.ext'; simp
    simp [execOp, resolve, Deferred.ofValue, hx, invoke, e, run_call hf]
  unfold stp; rw [this]
  refine Calls.mono hc ?_
  rintro e w' ⟨v, rfl, h, rfl, s, l, p⟩
  exact ⟨v, rfl, k h v s (I.to s l hm) p⟩
end
end Go.Tl
