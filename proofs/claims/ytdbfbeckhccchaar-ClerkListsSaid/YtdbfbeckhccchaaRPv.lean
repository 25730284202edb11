/- ClerkLists: the pure law: wishes as bytes. -/
import Derived.Test.YtdbfbeckhccchaaRPu
namespace Go.Tl
open Go
set_option linter.unusedVariables false
set_option linter.unusedSimpArgs false
/-! ### Numbers as bytes -/
def byt (n : Int) (i : Nat) : Int := n / 256 ^ i % 256
def be (n : Int) : Nat → List Int
  | 0 => []
  | k + 1 => byt n k :: be n k
theorem be_length (n : Int) : ∀ k, (be n k).length = k
  | 0 => rfl
  | k + 1 => by simp [be, be_length n k]
theorem byt_div (n : Int) (i : Nat) : byt (n / 256) i = byt n (i + 1) := by
  unfold byt
  rw [Int.ediv_ediv_of_nonneg (by decide : (0 : Int) ≤ 256), Int.pow_succ, Int.mul_comm]
theorem be_last (n : Int) : ∀ k, be n (k + 1) = be (n / 256) k ++ [n % 256]
  | 0 => by simp [be, byt]
  | k + 1 => by
    show byt n (k + 1) :: be n (k + 1) = (byt (n / 256) k :: be (n / 256) k) ++ [n % 256]
    rw [be_last n k, byt_div]; rfl
theorem u8w (n : Int) : IntKind.u8.wrap n = n % 256 := by simp [IntKind.wrap, IntKind.signed, IntKind.bits]
theorem u64w (n : Int) : IntKind.u64.wrap n = n % 18446744073709551616 := by simp [IntKind.wrap, IntKind.signed, IntKind.bits]
theorem u32w (n : Int) : IntKind.u32.wrap n = n % 4294967296 := by simp [IntKind.wrap, IntKind.signed, IntKind.bits]
theorem shr_byt (n : Int) (i : Nat) (hi : i < 8) : IntKind.u8.wrap (shr .u64 n (IntKind.i64.wrap (8 * (i : Int)))) = byt n i := by
  rw [wrap_i64 (by omega) (by omega), u8w]
  unfold shr byt
  have e : min (8 * (i : Int)).toNat IntKind.u64.bits = 8 * i := by
    have : (8 * (i : Int)).toNat = 8 * i := by omega
    rw [this]; simp [IntKind.bits]; omega
  rw [e]
  have e2 : ((2 : Int) ^ (8 * i)) = 256 ^ i := by rw [Int.pow_mul]; rfl
  have hp : (0 : Int) ≤ 256 ^ i := Int.pow_nonneg (by decide)
  rw [e2, Int.fdiv_eq_ediv_of_nonneg _ hp]
theorem numLoop (n : Int) : ∀ (i : Nat) (o : List Int), i ≤ 8 → o.length + i ≤ 2000000008 → loop (octet_Out_num_b1 n) (o, (i : Int) - 1) = some (o ++ be n i)
  | 0, o, _, _ => by
    refine loop_end ?_
    simp only [octet_Out_num_b1]
    rw [decide_eq_false (by omega : ¬ (0 : Int) ≤ ((0 : Nat) : Int) - 1)]
    simp [be]
  | i + 1, o, hi, ho => by
    have e : (((i + 1 : Nat) : Int) - 1) = (i : Int) := by omega
    rw [e]
    have h1 : (0 : Int) ≤ IntKind.i64.wrap (8 * (i : Int)) := by rw [wrap_i64 (n := 8 * (i : Int)) (by omega) (by omega)]; omega
    rw [loop_go (s' := (o ++ [byt n i], (i : Int) - 1)) ?_, numLoop n i (o ++ [byt n i]) (by omega) (by simp; omega)]
    · simp [be]
    · simp only [octet_Out_num_b1]
      rw [decide_eq_true (by omega : (0 : Int) ≤ (i : Int)), bif_true, decide_eq_true h1, bif_true, app_ok (by simp; omega), Option.bind_some, shr_byt n i (by omega), wrap_i64 (n := (i : Int) - 1) (by omega) (by omega)]
theorem outNum (n : Int) (k : Nat) (o : List Int) (hk : k ≤ 8) (ho : o.length ≤ 2000000000) : octet_Out_num o n k = some (o ++ be n k) := by
  unfold octet_Out_num
  rw [wrap_i64 (by omega) (by omega)]
  exact numLoop n k o hk (by omega)
theorem refLoop (b : List Int) (hb : b.length ≤ 2000000000) : ∀ (i : Nat) (n : Int) (t : List Int), i + t.length ≤ 8 → 0 ≤ n → n < 18446744073709551616 → loop (ref01uNum_b1 b) (n, List.replicate i 0 ++ t, (i : Int) - 1) = some (b ++ (be n i ++ t))
  | 0, n, t, ht, h0, h1 => by
    refine loop_end ?_
    simp only [ref01uNum_b1]
    rw [decide_eq_false (by omega : ¬ (0 : Int) ≤ ((0 : Nat) : Int) - 1), bif_false, app_ok (by simp; omega), Option.bind_some, app_ok (by simp; omega)]
    simp [be]
  | i + 1, n, t, ht, h0, h1 => by
    have e : (((i + 1 : Nat) : Int) - 1) = (i : Int) := by omega
    rw [e]
    have hd : Int.tdiv n 256 = n / 256 := Int.tdiv_eq_ediv_of_nonneg h0
    have hm : Int.tmod n 256 = n % 256 := Int.tmod_eq_emod_of_nonneg h0
    rw [loop_go (s' := (n / 256, List.replicate i 0 ++ (n % 256) :: t, (i : Int) - 1)) ?_]
    · rw [refLoop b hb i (n / 256) ((n % 256) :: t) (by simp; omega) (by omega) (by omega), be_last]
      simp
    · simp only [ref01uNum_b1]
      rw [decide_eq_true (by omega : (0 : Int) ≤ (i : Int)), bif_true, ix_nat (by simp; omega), Option.bind_some, hd, hm, wrap_i64 (n := (i : Int) - 1) (by omega) (by omega), u64w, u8w, upd_nat]
      rw [Int.emod_eq_of_lt (by omega : 0 ≤ n / 256) (by omega), Int.emod_emod_of_dvd _ (by decide : (256 : Int) ∣ 256)]
      congr 4
      rw [List.replicate_succ', List.append_assoc]
      simp [List.set_append]
theorem refNum (n : Int) (k : Nat) (b : List Int) (hk : k ≤ 8) (hb : b.length ≤ 2000000000) (h0 : 0 ≤ n) (h1 : n < 18446744073709551616) : ref01uNum b n k = some (b ++ be n k) := by
  unfold ref01uNum
  rw [show mk (k : Int) (0 : Int) = some (List.replicate k 0) by unfold mk LIM; rw [if_pos ⟨by omega, by omega⟩]; simp, Option.bind_some, wrap_i64 (n := (k : Int) - 1) (by omega) (by omega)]
  have := refLoop b hb k n [] (by simp; omega) h0 h1
  simpa using this
/-! ### Wishes as bytes -/
def U (n : Int) : Prop := 0 ≤ n ∧ n < 18446744073709551616
structure Vc (c : ref10uCond) : Prop where
  id : U c.id
  am : U c.amount
  ex : U c.expiry
  hl : c.hash.length = 32
structure Vo (o : ref12uOp) : Prop where
  am : U o.amount
  id : U o.id
  cd : Vc o.cond
def Vh (h : ref18uHop) : Prop := U h.amount ∧ U h.id
def condB (c : ref10uCond) : List Int := be c.id 8 ++ [IntKind.u8.wrap c.by_] ++ be c.amount 8 ++ c.hash ++ be c.expiry 8
def opB (o : ref12uOp) : List Int := [IntKind.u8.wrap o.kind] ++ be o.amount 8 ++ be o.id 8 ++ condB o.cond
def hopB (h : ref18uHop) : List Int := be (IntKind.u64.wrap h.channel) 4 ++ be h.amount 8 ++ be h.id 8
def trailB (l : List ref18uHop) : List Int := [IntKind.u8.wrap (l.length : Int)] ++ (l.map hopB).flatten
def wishB (w : ref20uWish) : List Int := opB w.op ++ trailB w.trail
theorem out8 (l : List Int) (o : List Int) (hl : l.length ≤ 10) (ho : o.length ≤ 1000000000) : octet_Out_Eight o l = some (o ++ (l.map fun n => be n 8).flatten) := by
  unfold octet_Out_Eight
  have := loop_fold (b := octet_Out_Eight_b1 l) l (fun i t => (t, (i : Int))) (fun t x => t ++ be x 8) (fun i t => t.length = o.length + 8 * i) (fun t => some t)
    (fun i hi t ht => by
      simp only [octet_Out_Eight_b1]
      rw [dlt_t (by omega), bif_true, ix_nat hi, Option.bind_some, show (8 : Int) = ((8 : Nat) : Int) from rfl, outNum _ 8 _ (by omega) (by omega), Option.bind_some, wrap_s (by omega)]
      exact ⟨rfl, by simp [be_length]; omega⟩)
    (fun t ht => by simp only [octet_Out_Eight_b1]; rw [dlt_f (by omega)]; rfl) o (by omega)
  rw [show (o, (0 : Int)) = (o, ((0 : Nat) : Int)) from rfl, this, foldl_app]
theorem out4 (n : Int) (o : List Int) (ho : o.length ≤ 1000000000) : octet_Out_Four o [n] = some (o ++ be (IntKind.u64.wrap n) 4) := by
  unfold octet_Out_Four
  have := loop_fold (b := octet_Out_Four_b1 [n]) [n] (fun i t => (t, (i : Int))) (fun t x => t ++ be (IntKind.u64.wrap x) 4) (fun i t => t.length = o.length + 4 * i) (fun t => some t)
    (fun i hi t ht => by
      have hi' : i < 1 := hi
      simp only [octet_Out_Four_b1]
      rw [dlt_t (by simp; omega), bif_true, ix_nat hi, Option.bind_some, show (4 : Int) = ((4 : Nat) : Int) from rfl, outNum _ 4 _ (by omega) (by omega), Option.bind_some, wrap_s (by omega)]
      exact ⟨rfl, by simp [be_length]; omega⟩)
    (fun t ht => by simp only [octet_Out_Four_b1]; rw [dlt_f (by simp)]; rfl) o (by omega)
  rw [show (o, (0 : Int)) = (o, ((0 : Nat) : Int)) from rfl, this]; rfl
theorem out1 (l : List Int) (o : List Int) (hl : l.length ≤ 1000) (ho : o.length ≤ 1000000000) : octet_Out_One o l = some (o ++ l) := by
  unfold octet_Out_One; rw [app_ok (by omega)]; rfl
theorem outS (d : List Int) (o : List Int) (hd : d.length = 32) (ho : o.length ≤ 1000000000) : octet_Out_Sum o [d] = some (o ++ d) := by
  unfold octet_Out_Sum
  have e : octet_Out_Sum_b1 [d] (o, 0) = some (.inl (o ++ d, 1)) := by
    simp only [octet_Out_Sum_b1]
    rw [dlt_t (by simp), bif_true, ix_0, Option.bind_some, app_ok (by omega)]; rfl
  rw [loop_go e]
  exact loop_end rfl
theorem condL (c : ref10uCond) : (condB c).length = 25 + c.hash.length := by simp [condB, be_length]; omega
theorem opL (o : ref12uOp) : (opB o).length = 42 + o.cond.hash.length := by simp [opB, be_length, condL]; omega
theorem hopL (h : ref18uHop) : (hopB h).length = 20 := by simp [hopB, be_length]
theorem flatL : ∀ l : List ref18uHop, (l.map hopB).flatten.length = 20 * l.length
  | [] => rfl
  | h :: l => by simp only [List.map_cons, List.flatten_cons, List.length_append, hopL, flatL l, List.length_cons]; omega
theorem trailL (l : List ref18uHop) : (trailB l).length = 1 + 20 * l.length := by simp only [trailB, List.length_append, flatL]; simp
theorem layCond (c : ref10uCond) (o : List Int) (hv : Vc c) (ho : o.length ≤ 900000000) : deed_layCond o (cnd c) = some (o ++ condB c) := by
  have hh := hv.hl
  unfold deed_layCond
  simp only [cnd]
  rw [out8 _ _ (by simp) (by omega), Option.bind_some, out1 _ _ (by simp) (by simp [be_length]; omega), Option.bind_some, out8 _ _ (by simp) (by simp [be_length]; omega), Option.bind_some, outS _ _ hh (by simp [be_length]; omega), Option.bind_some, out8 _ _ (by simp) (by simp [be_length]; omega), Option.bind_some]
  simp [condB, List.append_assoc]
theorem layOp (o : ref12uOp) (b : List Int) (hv : Vo o) (hb : b.length ≤ 800000000) : deed_LayOp b (opc o) = some (b ++ opB o) := by
  unfold deed_LayOp
  simp only [opc]
  rw [out1 _ _ (by simp) (by omega), Option.bind_some, out8 _ _ (by simp) (by simp; omega), Option.bind_some, layCond _ _ hv.cd (by simp [be_length]; omega), Option.bind_some]
  simp [opB, List.append_assoc]
theorem layTrail (l : List ref18uHop) (b : List Int) (hl : l.length ≤ 1000) (hb : b.length ≤ 700000000) : memo_LayTrail b (l.map hopc) = some (b ++ trailB l) := by
  unfold memo_LayTrail
  rw [out1 _ _ (by simp) (by omega), Option.bind_some]
  have := loop_fold (b := memo_LayTrail_b1 (l.map hopc)) l (fun i t => (t, (i : Int))) (fun t x => t ++ hopB x) (fun i t => t.length = b.length + 1 + 20 * i) (fun t => some t)
    (fun i hi t ht => by
      simp only [memo_LayTrail_b1]
      rw [dlt_t (by simp; omega), bif_true, ix_nat (by simpa using hi), Option.bind_some, List.getElem_map]
      simp only [hopc]
      rw [out4 _ _ (by omega), Option.bind_some, out8 _ _ (by simp) (by simp [be_length]; omega), Option.bind_some, wrap_s (by omega)]
      exact ⟨by simp [hopB, List.append_assoc], by simp [hopL]; omega⟩)
    (fun t ht => by simp only [memo_LayTrail_b1]; rw [dlt_f (by simp)]; rfl) (b ++ [IntKind.u8.wrap (l.length : Int)]) (by simp)
  rw [show ((b ++ [IntKind.u8.wrap (((l.map hopc).length : Nat) : Int)], (0 : Int))) = ((b ++ [IntKind.u8.wrap (l.length : Int)]), ((0 : Nat) : Int)) by simp, this, foldl_app]
  simp [trailB, List.append_assoc]
theorem rCond (c : ref10uCond) (o : List Int) (hv : Vc c) (ho : o.length ≤ 900000000) : ref13uCond o c = some (o ++ condB c) := by
  have hh := hv.hl
  unfold ref13uCond
  rw [show (8 : Int) = ((8 : Nat) : Int) from rfl]
  rw [refNum _ 8 _ (by omega) (by omega) hv.id.1 hv.id.2, Option.bind_some, app_ok (by simp [be_length]; omega), Option.bind_some, refNum _ 8 _ (by omega) (by simp [be_length]; omega) hv.am.1 hv.am.2, Option.bind_some, app_ok (by simp [be_length]; omega), Option.bind_some, refNum _ 8 _ (by omega) (by simp [be_length]; omega) hv.ex.1 hv.ex.2, Option.bind_some]
  simp [condB, List.append_assoc]
theorem rOp (o : ref12uOp) (b : List Int) (hv : Vo o) (hb : b.length ≤ 800000000) : ref13uOp b o = some (b ++ opB o) := by
  unfold ref13uOp
  rw [show (8 : Int) = ((8 : Nat) : Int) from rfl]
  rw [app_ok (by simp; omega), Option.bind_some, app_ok (by simp; omega), Option.bind_some, refNum _ 8 _ (by omega) (by simp; omega) hv.am.1 hv.am.2, Option.bind_some, refNum _ 8 _ (by omega) (by simp [be_length]; omega) hv.id.1 hv.id.2, Option.bind_some, rCond _ _ hv.cd (by simp [be_length]; omega), Option.bind_some]
  simp [opB, List.append_assoc]
theorem rTrail (l : List ref18uHop) (b : List Int) (hv : ∀ h ∈ l, Vh h) (hl : l.length ≤ 1000) (hb : b.length ≤ 700000000) : ref18uTrail b l = some (b ++ trailB l) := by
  unfold ref18uTrail
  rw [app_ok (by simp; omega), Option.bind_some, app_ok (by simp; omega), Option.bind_some]
  have := loop_fold (b := ref18uTrail_b1 l) l (fun i t => (t, (i : Int))) (fun t x => t ++ hopB x) (fun i t => t.length = b.length + 1 + 20 * i) (fun t => some t)
    (fun i hi t ht => by
      have hh := hv _ (List.getElem_mem hi)
      have hw : U (IntKind.u64.wrap l[i].channel) := by rw [u64w]; exact ⟨by omega, by omega⟩
      simp only [ref18uTrail_b1]
      rw [show (4 : Int) = ((4 : Nat) : Int) from rfl, show (8 : Int) = ((8 : Nat) : Int) from rfl]
      rw [dlt_t (by omega), bif_true, ix_nat hi, Option.bind_some, refNum _ 4 _ (by omega) (by omega) hw.1 hw.2, Option.bind_some, Option.bind_some, refNum _ 8 _ (by omega) (by simp [be_length]; omega) hh.1.1 hh.1.2, Option.bind_some, Option.bind_some, refNum _ 8 _ (by omega) (by simp [be_length]; omega) hh.2.1 hh.2.2, Option.bind_some, wrap_s (by omega)]
      exact ⟨by simp [hopB, List.append_assoc], by simp [hopL]; omega⟩)
    (fun t ht => by simp only [ref18uTrail_b1]; rw [dlt_f (by omega)]; rfl) (b ++ [IntKind.u8.wrap (l.length : Int)]) (by simp)
  rw [show ((([] : List Int) ++ b ++ [IntKind.u8.wrap (l.length : Int)]), (0 : Int)) = ((b ++ [IntKind.u8.wrap (l.length : Int)]), ((0 : Nat) : Int)) by simp, this, foldl_app]
  simp [trailB, List.append_assoc]
/-! ### Lists of wishes as bytes -/
structure Vw (w : ref20uWish) : Prop where
  op : Vo w.op
  tr : ∀ h ∈ w.trail, Vh h
  tl : w.trail.length ≤ 100
def saveB (l : List ref20uWish) : List Int := [IntKind.u8.wrap (l.length : Int)] ++ (l.map wishB).flatten
theorem wishL (w : ref20uWish) (hv : Vw w) : (wishB w).length ≤ 2100 := by
  have h1 := hv.op.cd.hl
  have h2 := hv.tl
  simp only [wishB, List.length_append, opL, trailL]; omega
theorem slc_take {α : Type} (xs : List α) (n : Nat) (h : n ≤ xs.length) : slc xs 0 (n : Int) = some (xs.take n) := by
  unfold slc
  rw [if_pos ⟨by omega, by omega, by omega⟩]; simp
theorem clSave (l : List ref20uWish) (hv : ∀ w ∈ l, Vw w) (hl : l.length ≤ 1000) : clerk_Save (l.map wsh) = some (saveB (l.take 255)) := by
  unfold clerk_Save
  obtain ⟨n, hn, hn2, hn3⟩ : ∃ n : Nat, mn (((l.map wsh).length : Nat) : Int) 255 = (n : Int) ∧ n ≤ l.length ∧ l.take n = l.take 255 := by
    rw [List.length_map]
    unfold mn
    by_cases h : (255 : Int) < (l.length : Int)
    · rw [if_pos h]; exact ⟨255, rfl, by omega, rfl⟩
    · rw [if_neg h]; exact ⟨l.length, rfl, Nat.le_refl _, by rw [List.take_of_length_le (Nat.le_refl _), List.take_of_length_le (by omega)]⟩
  rw [hn, slc_take _ n (by simpa using hn2), Option.bind_some, ← List.map_take, hn3]
  have hv' : ∀ w ∈ l.take 255, Vw w := fun w hw => hv w (List.mem_of_mem_take hw)
  have hl' : (l.take 255).length ≤ 255 := by simp; omega
  generalize l.take 255 = k at hv' hl'
  rw [out1 _ _ (by simp) (by simp), Option.bind_some]
  have := loop_fold (b := clerk_Save_b1 (k.map wsh)) k (fun i t => (t, (i : Int))) (fun t x => t ++ wishB x) (fun i t => t.length ≤ 1 + 2100 * i) (fun t => some t)
    (fun i hi t ht => by
      have hw := hv' _ (List.getElem_mem hi)
      have h1 := hw.op.cd.hl
      simp only [clerk_Save_b1]
      rw [dlt_t (by simp; omega), bif_true, ix_nat (by simpa using hi), Option.bind_some, List.getElem_map]
      simp only [wsh]
      rw [layOp _ _ hw.op (by omega), Option.bind_some, layTrail _ _ (by have := hw.tl; omega) (by simp only [List.length_append, opL]; omega), Option.bind_some, wrap_s (by omega)]
      exact ⟨by simp [wishB, List.append_assoc], by have := wishL _ hw; simp only [List.length_append]; omega⟩)
    (fun t ht => by simp only [clerk_Save_b1]; rw [dlt_f (by simp)]; rfl) [IntKind.u8.wrap (k.length : Int)] (by simp)
  rw [show ((([] : List Int) ++ [IntKind.u8.wrap (((k.map wsh).length : Nat) : Int)]), (0 : Int)) = ([IntKind.u8.wrap (k.length : Int)], ((0 : Nat) : Int)) by simp, this, foldl_app]
  rfl
theorem refSave (l : List ref20uWish) (hv : ∀ w ∈ l, Vw w) (hl : l.length ≤ 1000) : ref20uSave l = some (saveB (l.take 255)) := by
  have main : ∀ k : List ref20uWish, (∀ w ∈ k, Vw w) → k.length ≤ 255 → ref20uSave_j1 k = some (saveB k) := fun k hv' hl' => by
    unfold ref20uSave_j1
    have := loop_fold (b := ref20uSave_b1 k) k (fun i t => (t, (i : Int))) (fun t x => t ++ wishB x) (fun i t => t.length ≤ 1 + 2100 * i) (fun t => some t)
      (fun i hi t ht => by
        have hw := hv' _ (List.getElem_mem hi)
        have h1 := hw.op.cd.hl
        simp only [ref20uSave_b1]
        rw [dlt_t (by omega), bif_true, ix_nat hi, Option.bind_some, rOp _ _ hw.op (by omega), Option.bind_some, Option.bind_some, rTrail _ _ hw.tr (by have := hw.tl; omega) (by simp only [List.length_append, opL]; omega), Option.bind_some, wrap_s (by omega)]
        exact ⟨by simp [wishB, List.append_assoc], by have := wishL _ hw; simp only [List.length_append]; omega⟩)
      (fun t ht => by simp only [ref20uSave_b1]; rw [dlt_f (by omega)]; rfl) [IntKind.u8.wrap (k.length : Int)] (by simp)
    rw [show (([IntKind.u8.wrap (k.length : Int)] : List Int), (0 : Int)) = ([IntKind.u8.wrap (k.length : Int)], ((0 : Nat) : Int)) from rfl, this, foldl_app]
    rfl
  unfold ref20uSave
  by_cases h : (255 : Int) < (l.length : Int)
  · rw [dlt_t h, bif_true, show (255 : Int) = ((255 : Nat) : Int) from rfl, slc_take _ 255 (by omega), Option.bind_some]
    exact main _ (fun w hw => hv w (List.mem_of_mem_take hw)) (by simp; omega)
  · rw [dlt_f h, bif_false, List.take_of_length_le (by omega)]
    exact main l hv (by omega)
end Go.Tl
