/- What a reading of each type says. Written by a program of mine. -/
import Derived.Test.YtdbfbeckhccchaaRM
import Derived.Test.YtdbfbeckhccchaaRTy
namespace Go.Tl
open Go
set_option linter.unusedVariables false
def ok_ref10uCond (x : ref10uCond) : Prop := (Lit.int .u64 x.id).wf = true ∧ (Lit.int .i64 x.by_).wf = true ∧ (Lit.int .u64 x.amount).wf = true ∧ (x.hash.length = 32 ∧ ∀ v ∈ x.hash, (Lit.int .u8 v).wf = true) ∧ (Lit.int .u64 x.expiry).wf = true ∧ True
theorem rd_26 : Rd P 26 k_ref10uCond ok_ref10uCond := by
  intro H enc W base spare held fuel cs x h
  obtain ⟨hl, m, hf⟩ := trod_st (n := 36) (l := [(0, 23, 1), (1, 3, 1), (2, 23, 1), (3, 24, 32), (35, 23, 1)]) (by kernel_rfl) h
  obtain ⟨_, h0⟩ := hf 0 _ _ _ rfl
  obtain ⟨a0, m0, k0⟩ := (Rd.int (t := 23) (k := .u64) (by kernel_rfl)) _ _ _ _ _ _ _ _ _ h0
  obtain ⟨_, h1⟩ := hf 1 _ _ _ rfl
  obtain ⟨a1, m1, k1⟩ := (Rd.int (t := 3) (k := .i64) (by kernel_rfl)) _ _ _ _ _ _ _ _ _ h1
  obtain ⟨_, h2⟩ := hf 2 _ _ _ rfl
  obtain ⟨a2, m2, k2⟩ := (Rd.int (t := 23) (k := .u64) (by kernel_rfl)) _ _ _ _ _ _ _ _ _ h2
  obtain ⟨_, h3⟩ := hf 3 _ _ _ rfl
  obtain ⟨a3, m3, k3⟩ := (Rd.nums (t := 24) (e := 5) (n := 32) (k := .u8) (by kernel_rfl) (by kernel_rfl) (by kernel_rfl) (by kernel_rfl)) _ _ _ _ _ _ _ _ _ h3
  obtain ⟨_, h4⟩ := hf 4 _ _ _ rfl
  obtain ⟨a4, m4, k4⟩ := (Rd.int (t := 23) (k := .u64) (by kernel_rfl)) _ _ _ _ _ _ _ _ _ h4
  exact ⟨⟨a0, a1, a2, a3, a4⟩, ⟨hl, (fmc m0 (fmc m1 (fmc m2 (fmc m3 (fmc m4 fmn)))))⟩, ⟨k0, k1, k2, k3, k4, trivial⟩⟩
def ok_ref12uOp (x : ref12uOp) : Prop := (Lit.int .i64 x.kind).wf = true ∧ (Lit.int .u64 x.amount).wf = true ∧ ok_ref10uCond x.cond ∧ (Lit.int .u64 x.id).wf = true ∧ True
theorem rd_28 : Rd P 28 k_ref12uOp ok_ref12uOp := by
  intro H enc W base spare held fuel cs x h
  obtain ⟨hl, m, hf⟩ := trod_st (n := 39) (l := [(0, 3, 1), (1, 23, 1), (2, 26, 36), (38, 23, 1)]) (by kernel_rfl) h
  obtain ⟨_, h0⟩ := hf 0 _ _ _ rfl
  obtain ⟨a0, m0, k0⟩ := (Rd.int (t := 3) (k := .i64) (by kernel_rfl)) _ _ _ _ _ _ _ _ _ h0
  obtain ⟨_, h1⟩ := hf 1 _ _ _ rfl
  obtain ⟨a1, m1, k1⟩ := (Rd.int (t := 23) (k := .u64) (by kernel_rfl)) _ _ _ _ _ _ _ _ _ h1
  obtain ⟨_, h2⟩ := hf 2 _ _ _ rfl
  obtain ⟨a2, m2, k2⟩ := rd_26 _ _ _ _ _ _ _ _ _ h2
  obtain ⟨_, h3⟩ := hf 3 _ _ _ rfl
  obtain ⟨a3, m3, k3⟩ := (Rd.int (t := 23) (k := .u64) (by kernel_rfl)) _ _ _ _ _ _ _ _ _ h3
  exact ⟨⟨a0, a1, a2, a3⟩, ⟨hl, (fmc m0 (fmc m1 (fmc m2 (fmc m3 fmn))))⟩, ⟨k0, k1, k2, k3, trivial⟩⟩
def ok_ref18uHop (x : ref18uHop) : Prop := (Lit.int .u32 x.channel).wf = true ∧ (Lit.int .u64 x.amount).wf = true ∧ (Lit.int .u64 x.id).wf = true ∧ True
theorem rd_99 : Rd P 99 k_ref18uHop ok_ref18uHop := by
  intro H enc W base spare held fuel cs x h
  obtain ⟨hl, m, hf⟩ := trod_st (n := 3) (l := [(0, 65, 1), (1, 23, 1), (2, 23, 1)]) (by kernel_rfl) h
  obtain ⟨_, h0⟩ := hf 0 _ _ _ rfl
  obtain ⟨a0, m0, k0⟩ := (Rd.int (t := 65) (k := .u32) (by kernel_rfl)) _ _ _ _ _ _ _ _ _ h0
  obtain ⟨_, h1⟩ := hf 1 _ _ _ rfl
  obtain ⟨a1, m1, k1⟩ := (Rd.int (t := 23) (k := .u64) (by kernel_rfl)) _ _ _ _ _ _ _ _ _ h1
  obtain ⟨_, h2⟩ := hf 2 _ _ _ rfl
  obtain ⟨a2, m2, k2⟩ := (Rd.int (t := 23) (k := .u64) (by kernel_rfl)) _ _ _ _ _ _ _ _ _ h2
  exact ⟨⟨a0, a1, a2⟩, ⟨hl, (fmc m0 (fmc m1 (fmc m2 fmn)))⟩, ⟨k0, k1, k2, trivial⟩⟩
def ok_ref20uWish (x : ref20uWish) : Prop := ok_ref12uOp x.op ∧ (∀ v ∈ x.trail, ok_ref18uHop v) ∧ True
theorem rd_31 : Rd P 31 k_ref20uWish ok_ref20uWish := by
  intro H enc W base spare held fuel cs x h
  obtain ⟨hl, m, hf⟩ := trod_st (n := 40) (l := [(0, 28, 39), (39, 29, 1)]) (by kernel_rfl) h
  obtain ⟨_, h0⟩ := hf 0 _ _ _ rfl
  obtain ⟨a0, m0, k0⟩ := rd_28 _ _ _ _ _ _ _ _ _ h0
  obtain ⟨_, h1⟩ := hf 1 _ _ _ rfl
  obtain ⟨a1, m1, k1⟩ := (Rd.sl (t := 29) (e := 99) (h0 := rfl) (by kernel_rfl) rd_99 (by kernel_rfl) (by kernel_rfl)) _ _ _ _ _ _ _ _ _ h1
  exact ⟨⟨a0, a1⟩, ⟨hl, (fmc m0 (fmc m1 fmn))⟩, ⟨k0, k1, trivial⟩⟩
def okp_22 (x : (List ref20uWish)) : Prop := (∀ v ∈ x, ok_ref20uWish v)
theorem rdp_22 : Rd P 22 (kSl k_ref20uWish rfl) okp_22 := (Rd.sl (t := 22) (e := 31) (h0 := rfl) (by kernel_rfl) rd_31 (by kernel_rfl) (by kernel_rfl))
def okp_31 (x : ref20uWish) : Prop := ok_ref20uWish x
theorem rdp_31 : Rd P 31 k_ref20uWish okp_31 := rd_31
def okp_32 (x : (List Int)) : Prop := (∀ v ∈ x, (Lit.int .u8 v).wf = true)
theorem rdp_32 : Rd P 32 (kSl (kInt .u8) rfl) okp_32 := (Rd.sl (t := 32) (e := 5) (h0 := rfl) (by kernel_rfl) (Rd.int (t := 5) (k := .u8) (by kernel_rfl)) (by kernel_rfl) (by kernel_rfl))
end Go.Tl
