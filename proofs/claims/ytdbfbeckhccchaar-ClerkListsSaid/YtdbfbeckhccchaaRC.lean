/- The operations, one law each: over environments, worlds with colours, and kinds. -/
import Derived.Test.YtdbfbeckhccchaaRB
import Derived.Laws.Shifts
namespace Go.Tl
open Go
set_option linter.unusedVariables false
set_option linter.unusedSimpArgs false

/-! ### What is asked of a program's types -/
def aggD : TypeDesc → Bool
  | .struct _ | .array _ _ => true
  | _ => false
def tinf (P : Program) (t : TypeId) : Option (Bool × Nat × Nat) :=
  match P.info? t, P.underlying t with
  | some i, some d => some (aggD d, i.size, i.bytes)
  | _, _ => none
def tfld (P : Program) (s : TypeId) (f : Nat) : Option (Nat × TypeId) :=
  match P.underlying s with
  | some (.struct fs) => (fs[f]?).map fun x => (x.offset, x.type)
  | _ => none
def tsl (P : Program) (t : TypeId) : Option TypeId :=
  match P.underlying t with
  | some (.slice e) => some e
  | _ => none
def tarr (P : Program) (t : TypeId) : Option (Nat × TypeId) :=
  match P.underlying t with
  | some (.array n e) => some (n, e)
  | _ => none
def tint (P : Program) (t : TypeId) : Option IntKind :=
  match P.underlying t with
  | some (.int k) => some k
  | _ => none
def tmap (P : Program) (t : TypeId) : Option (TypeId × TypeId) :=
  match P.underlying t with
  | some (.map k e) => some (k, e)
  | _ => none
def tptr (P : Program) (t : TypeId) : Bool :=
  match P.underlying t with
  | some (.pointer _) => true
  | _ => false
def tzero (P : Program) (t : TypeId) : Option (List Value) := ((P.info? t).bind (·.zero)).map (·.cells.toList)
section
variable {P : Program} {t e : TypeId} {s b : Nat} {a : Bool}
theorem tinf_info (h : tinf P t = some (a, s, b)) : ∃ i d, P.info? t = some i ∧ P.underlying t = some d ∧ aggD d = a ∧ i.size = s ∧ i.bytes = b := by
  unfold tinf at h
  split at h
  · rename_i i d h1 h2; simp at h; exact ⟨i, d, h1, h2, h.1, h.2.1, h.2.2⟩
  · cases h
theorem run_und {d : TypeDesc} (h : P.underlying t = some d) (w : World) : (underlying t).run P w = .ok d w := by
  simp [underlying, h]
theorem run_size (h : tinf P t = some (a, s, b)) (w : World) : (sizeOf t).run P w = .ok s w := by
  obtain ⟨i, d, h1, _, _, rfl, _⟩ := tinf_info h
  simp [sizeOf, typeInfo, h1]
theorem run_agg (h : tinf P t = some (a, s, b)) (w : World) : (isAgg t).run P w = .ok a w := by
  obtain ⟨i, d, _, h2, rfl, _⟩ := tinf_info h
  simp only [isAgg, Sem.run_bind, run_und h2, Result.andThen_ok]
  cases d <;> rfl
theorem tsl_und (h : tsl P t = some e) : P.underlying t = some (.slice e) := by
  unfold tsl at h; split at h
  · rename_i h1; rw [h1]; injection h with h; rw [h]
  · cases h
theorem tarr_und {n : Nat} (h : tarr P t = some (n, e)) : P.underlying t = some (.array n e) := by
  unfold tarr at h; split at h
  · rename_i h1; rw [h1]; simp at h; rw [h.1, h.2]
  · cases h
theorem tint_und {k : IntKind} (h : tint P t = some k) : P.underlying t = some (.int k) := by
  unfold tint at h; split at h
  · rename_i h1; rw [h1]; injection h with h; rw [h]
  · cases h
theorem tmap_und {k : TypeId} (h : tmap P t = some (k, e)) : P.underlying t = some (.map k e) := by
  unfold tmap at h; split at h
  · rename_i h1; rw [h1]; simp at h; rw [h.1, h.2]
  · cases h
theorem tfld_und {f o : Nat} (h : tfld P t f = some (o, e)) : ∃ fs x, P.underlying t = some (.struct fs) ∧ fs[f]? = some x ∧ x.offset = o ∧ x.type = e := by
  unfold tfld at h; split at h
  · rename_i fs h1
    cases h2 : fs[f]? with
    | none => simp [h2] at h
    | some x => simp [h2] at h; exact ⟨fs, x, h1, h2, h.1, h.2⟩
  · cases h
theorem tzero_run {zc : List Value} (h : tzero P t = some zc) (w : World) : ∃ v, (zeroValue t).run P w = .ok v w ∧ v.cells.toList = zc := by
  unfold tzero at h
  cases h1 : P.info? t with
  | none => simp [h1] at h
  | some i =>
    cases h2 : i.zero with
    | none => simp [h1, h2] at h
    | some v => simp [h1, h2] at h; exact ⟨v, by simp [zeroValue, typeInfo, h1, h2], h⟩
end

/-! ### A step -/
section
variable {P : Program} {ops : Array Oper} {K : Env → World → Prop} {r : List Oper} {ρ : Env} {w : World} {o : Oper}
theorem EWL.op {d : Nat} {q : Op} {t : TypeId} {ps : String} {af : Array Edge} {gd : Option (Nat × Bool)} (hw : want ops ρ ⟨some d, q, t, ps, af, gd⟩ = true) (h : stp P ⟨some d, q, t, ps, af, gd⟩ ρ w (fun v w' => EWL P ops K r (ρ.up d v) w')) : EWL P ops K (⟨some d, q, t, ps, af, gd⟩ :: r) ρ w := by
  simp only [EWL, hw, cond_true]; exact h
theorem EWL.opn {q : Op} {t : TypeId} {ps : String} {af : Array Edge} {gd : Option (Nat × Bool)} (hw : want ops ρ ⟨none, q, t, ps, af, gd⟩ = true) (h : stp P ⟨none, q, t, ps, af, gd⟩ ρ w (fun v w' => EWL P ops K r ρ w')) : EWL P ops K (⟨none, q, t, ps, af, gd⟩ :: r) ρ w := by
  simp only [EWL, hw, cond_true]; exact h
theorem EWL.pass {d : Nat} {q : Op} {t : TypeId} {ps : String} {af : Array Edge} {gd : Option (Nat × Bool)} (hw : want ops ρ ⟨some d, q, t, ps, af, gd⟩ = false) (h : EWL P ops K r (ρ.up d undef) w) : EWL P ops K (⟨some d, q, t, ps, af, gd⟩ :: r) ρ w := by
  simp only [EWL, hw, cond_false]; exact h
theorem EWL.passn {q : Op} {t : TypeId} {ps : String} {af : Array Edge} {gd : Option (Nat × Bool)} (hw : want ops ρ ⟨none, q, t, ps, af, gd⟩ = false) (h : EWL P ops K r ρ w) : EWL P ops K (⟨none, q, t, ps, af, gd⟩ :: r) ρ w := by
  simp only [EWL, hw, cond_false]; exact h
theorem want_of {j : Nat} {c b z : Bool} {d : Nat} {x : Option Nat} {y : Op} {u : TypeId} {v : String} {q : Array Edge} (hd : (ops[j]?).bind (·.dst) = some d) (hv : ρ d = .bool b) (hb : (b == c) = z) : want ops ρ ⟨x, y, u, v, q, some (j, c)⟩ = z := by
  simp only [want, hd, hv, hb]
end
section
variable {P : Program} {ρ : Env} {w : World} {K : Value → World → Prop} {d : Option Nat} {T : TypeId} {ps : String} {af : Array Edge} {gd : Option (Nat × Bool)} {x y z : Operand}
theorem stp_run {o : Oper} {v : Value} {w' : World} (h : (execOp ρ.ev o).run P w = .ok (.value v) w') (k : K v w') : stp P o ρ w K := by
  unfold stp; rw [h]; exact k
theorem stp_skip {o : Oper} {w' : World} (h : (execOp ρ.ev o).run P w = .ok .skip w') (k : K undef w') : stp P o ρ w K := by
  unfold stp; rw [h]; exact k
theorem s_mv (k : K (ρ.ev x) w) : stp P ⟨d, .move x, T, ps, af, gd⟩ ρ w K := k
theorem s_as (k : K (ρ.ev x) w) : stp P ⟨d, .assign x, T, ps, af, gd⟩ ρ w K := k
theorem s_pick {b : Bool} (hc : ρ.ev x = .bool b) (k : K (bif b then ρ.ev y else ρ.ev z) w) : stp P ⟨d, .pick x y z, T, ps, af, gd⟩ ρ w K := by
  refine stp_run (v := bif b then ρ.ev y else ρ.ev z) ?_ k
  cases b <;> simp [execOp, hc, asBool]
theorem s_pick1 (hc : ρ.ev x = .bool true) (k : K (ρ.ev y) w) : stp P ⟨d, .pick x y z, T, ps, af, gd⟩ ρ w K := s_pick hc k
theorem s_pick0 (hc : ρ.ev x = .bool false) (k : K (ρ.ev z) w) : stp P ⟨d, .pick x y z, T, ps, af, gd⟩ ρ w K := s_pick hc k

/-! whole numbers -/
variable {k : IntKind} {m n : Int} {t t' : TypeId}
theorem run_bin {op : BinOp} {v : Value} (hx : ρ.ev x = .int k m) (hy : ρ.ev y = .int k n) (h : (binOp op t (.int k m) (.int k n)).run P w = .ok v w) :
    (execOp ρ.ev ⟨d, .binOp op t x y t', T, ps, af, gd⟩).run P w = .ok (.value v) w := by
  have hg : (eqGuard op t x y (.int k m) (.int k n)).run P w = .ok () w := by
    unfold eqGuard; split <;> simp
  simp [execOp, hx, hy, hg, h]
theorem s_add (hx : ρ.ev x = .int k m) (hy : ρ.ev y = .int k n) (kk : K (.int k (k.wrap (m + n))) w) : stp P ⟨d, .binOp .add t x y t', T, ps, af, gd⟩ ρ w K :=
  stp_run (run_bin hx hy (by simp [binOp, Op.intArith])) kk
theorem s_sub (hx : ρ.ev x = .int k m) (hy : ρ.ev y = .int k n) (kk : K (.int k (k.wrap (m - n))) w) : stp P ⟨d, .binOp .sub t x y t', T, ps, af, gd⟩ ρ w K :=
  stp_run (run_bin hx hy (by simp [binOp, Op.intArith])) kk
theorem s_mul (hx : ρ.ev x = .int k m) (hy : ρ.ev y = .int k n) (kk : K (.int k (k.wrap (m * n))) w) : stp P ⟨d, .binOp .mul t x y t', T, ps, af, gd⟩ ρ w K :=
  stp_run (run_bin hx hy (by simp [binOp, Op.intArith])) kk
theorem s_quo (hx : ρ.ev x = .int k m) (hy : ρ.ev y = .int k n) (h0 : n ≠ 0) (kk : K (.int k (k.wrap (m.tdiv n))) w) : stp P ⟨d, .binOp .quo t x y t', T, ps, af, gd⟩ ρ w K :=
  stp_run (run_bin hx hy (by simp [binOp, Op.intDiv, h0])) kk
theorem s_rem (hx : ρ.ev x = .int k m) (hy : ρ.ev y = .int k n) (h0 : n ≠ 0) (kk : K (.int k (m.tmod n)) w) : stp P ⟨d, .binOp .rem t x y t', T, ps, af, gd⟩ ρ w K :=
  stp_run (run_bin hx hy (by simp [binOp, Op.intDiv, h0])) kk
theorem s_and (hx : ρ.ev x = .int k m) (hy : ρ.ev y = .int k n) (kk : K (.int k (band k m n)) w) : stp P ⟨d, .binOp .and t x y t', T, ps, af, gd⟩ ρ w K :=
  stp_run (run_bin hx hy (by simp [binOp, Op.intBits, band])) kk
theorem s_or (hx : ρ.ev x = .int k m) (hy : ρ.ev y = .int k n) (kk : K (.int k (bor k m n)) w) : stp P ⟨d, .binOp .or t x y t', T, ps, af, gd⟩ ρ w K :=
  stp_run (run_bin hx hy (by simp [binOp, Op.intBits, bor])) kk
theorem s_xor (hx : ρ.ev x = .int k m) (hy : ρ.ev y = .int k n) (kk : K (.int k (bxor k m n)) w) : stp P ⟨d, .binOp .xor t x y t', T, ps, af, gd⟩ ρ w K :=
  stp_run (run_bin hx hy (by simp [binOp, Op.intBits, bxor])) kk
theorem s_clr (hx : ρ.ev x = .int k m) (hy : ρ.ev y = .int k n) (kk : K (.int k (bclr k m n)) w) : stp P ⟨d, .binOp .andNot t x y t', T, ps, af, gd⟩ ρ w K :=
  stp_run (run_bin hx hy (by simp [binOp, Op.intBits, bclr])) kk
theorem s_lss (hx : ρ.ev x = .int k m) (hy : ρ.ev y = .int k n) (kk : K (.bool (decide (m < n))) w) : stp P ⟨d, .binOp .lss t x y t', T, ps, af, gd⟩ ρ w K :=
  stp_run (run_bin hx hy (by simp [binOp, Op.intCmp])) kk
theorem s_leq (hx : ρ.ev x = .int k m) (hy : ρ.ev y = .int k n) (kk : K (.bool (decide (m ≤ n))) w) : stp P ⟨d, .binOp .leq t x y t', T, ps, af, gd⟩ ρ w K :=
  stp_run (run_bin hx hy (by simp [binOp, Op.intCmp])) kk
theorem s_gtr (hx : ρ.ev x = .int k m) (hy : ρ.ev y = .int k n) (kk : K (.bool (decide (n < m))) w) : stp P ⟨d, .binOp .gtr t x y t', T, ps, af, gd⟩ ρ w K :=
  stp_run (run_bin hx hy (by simp [binOp, Op.intCmp])) kk
theorem s_geq (hx : ρ.ev x = .int k m) (hy : ρ.ev y = .int k n) (kk : K (.bool (decide (n ≤ m))) w) : stp P ⟨d, .binOp .geq t x y t', T, ps, af, gd⟩ ρ w K :=
  stp_run (run_bin hx hy (by simp [binOp, Op.intCmp])) kk
theorem s_eql (hx : ρ.ev x = .int k m) (hy : ρ.ev y = .int k n) (kk : K (.bool (decide (m = n))) w) : stp P ⟨d, .binOp .eql t x y t', T, ps, af, gd⟩ ρ w K :=
  stp_run (run_bin hx hy (by simp [binOp, Op.intCmp]; rfl)) kk
theorem s_neq (hx : ρ.ev x = .int k m) (hy : ρ.ev y = .int k n) (kk : K (.bool (decide (m ≠ n))) w) : stp P ⟨d, .binOp .neq t x y t', T, ps, af, gd⟩ ρ w K :=
  stp_run (run_bin hx hy (by simp [binOp, Op.intCmp, bne, Int.instDecidableEq, BEq.beq])) kk
theorem s_shl {k' : IntKind} (hx : ρ.ev x = .int k m) (hy : ρ.ev y = .int k' n) (h0 : 0 ≤ n) (kk : K (.int k (shl k m n)) w) : stp P ⟨d, .binOp .shl t x y t', T, ps, af, gd⟩ ρ w K := by
  refine stp_run ?_ kk
  have hg : (eqGuard .shl t x y (.int k m) (.int k' n)).run P w = .ok () w := by unfold eqGuard; simp
  simp [execOp, hx, hy, hg, binOp, Op.shift, shl, Int.not_lt.2 h0]
theorem s_shr {k' : IntKind} (hx : ρ.ev x = .int k m) (hy : ρ.ev y = .int k' n) (h0 : 0 ≤ n) (kk : K (.int k (shr k m n)) w) : stp P ⟨d, .binOp .shr t x y t', T, ps, af, gd⟩ ρ w K := by
  refine stp_run ?_ kk
  have hg : (eqGuard .shr t x y (.int k m) (.int k' n)).run P w = .ok () w := by unfold eqGuard; simp
  simp [execOp, hx, hy, hg, binOp, Op.shift, shr, Int.not_lt.2 h0]
theorem s_not {b : Bool} (hx : ρ.ev x = .bool b) (kk : K (.bool (!b)) w) : stp P ⟨d, .unOp .not t x, T, ps, af, gd⟩ ρ w K :=
  stp_run (by simp [execOp, hx, Op.unary]) kk
theorem s_neg (hx : ρ.ev x = .int k m) (kk : K (.int k (k.wrap (0 - m))) w) : stp P ⟨d, .unOp .neg t x, T, ps, af, gd⟩ ρ w K :=
  stp_run (by simp [execOp, hx, Op.unary, Op.intArith]) kk
theorem s_cpl (hx : ρ.ev x = .int k m) (kk : K (.int k (bnot k m)) w) : stp P ⟨d, .unOp .xor t x, T, ps, af, gd⟩ ρ w K :=
  stp_run (by simp [execOp, hx, Op.unary, Op.intBits, bnot, bxor]) kk
theorem s_cvt {k' : IntKind} {u : TypeDesc} (hs : P.underlying t = some u) (ht : tint P t' = some k') (hx : ρ.ev x = .int k m) (kk : K (.int k' (k'.wrap m)) w) : stp P ⟨d, .convert t t' x, T, ps, af, gd⟩ ρ w K :=
  stp_run (by simp [execOp, hx, convert, run_und hs, run_und (tint_und ht), Conv.intToInt]) kk
theorem s_ext {vs : Array Value} {i : Nat} {v : Value} (hx : ρ.ev x = .tuple vs) (hv : vs[i]? = some v) (kk : K v w) : stp P ⟨d, .extract x i, T, ps, af, gd⟩ ρ w K :=
  stp_run (by simp [execOp, hx, Instr.extract, hv]) kk
theorem s_nil {a : Addr} (hx : ρ.ev x = .pointer (some a)) (kk : K (.pointer (some a)) w) : stp P ⟨d, .nilCheck x, T, ps, af, gd⟩ ρ w K :=
  stp_run (by simp [execOp, hx]) kk
theorem s_max {ts : Array TypeId} (hx : ρ.ev x = .int k m) (hy : ρ.ev y = .int k n) (kk : K (.int k (mx m n)) w) : stp P ⟨d, .call { callee := .builtin .max, args := #[x, y], argTypes := ts }, T, ps, af, gd⟩ ρ w K :=
  stp_run (by simp [execOp, resolve, invoke, builtin, hx, hy, Builtin.max_, Builtin.max2, mx]) kk
theorem s_min {ts : Array TypeId} (hx : ρ.ev x = .int k m) (hy : ρ.ev y = .int k n) (kk : K (.int k (mn m n)) w) : stp P ⟨d, .call { callee := .builtin .min, args := #[x, y], argTypes := ts }, T, ps, af, gd⟩ ρ w K :=
  stp_run (by simp [execOp, resolve, invoke, builtin, hx, hy, Builtin.min_, Builtin.min2, mn]) kk
end

/-! ### Calls -/
section
variable {P : Program} {ρ : Env} {w : World} {K : Value → World → Prop} {d : Option Nat} {T : TypeId} {ps : String} {af : Array Edge} {gd : Option (Nat × Bool)}
def okF (P : Program) (f : FuncId) : Bool :=
  match P.funcs[f]? with
  | none => false
  | some fn => fn.body.isSome && !(fn.name == "runtime.NumGoroutine")
theorem run_call {f : FuncId} (hf : okF P f = true) (args : Array Value) : (callFunc f args).run P w = .ok (.enter f args) w := by
  unfold okF at hf
  unfold callFunc
  cases h : P.funcs[f]? with
  | none => simp [h] at hf
  | some fn =>
    rw [h] at hf
    simp only [Bool.and_eq_true, Bool.not_eq_true'] at hf
    have h2 : fn.body.isNone = false := by cases hb : fn.body <;> simp_all
    have h3 : (fn.name == "runtime.NumGoroutine") = false := hf.2
    simp only [Sem.run_bind, run_program, Result.andThen_ok, h]
    rw [if_neg (by rw [h3]; simp), if_neg (by rw [h2]; simp)]
    rfl
theorem s_call {f : FuncId} {as : Array Operand} {ts : Array TypeId} {vs : Array Value} (hf : okF P f = true) (ha : as.map ρ.ev = vs) (kk : Calls P f vs w fun e w' => ∃ v, e = .returned v ∧ K v w') :
    stp P ⟨d, .call { callee := .value (.func f), args := as, argTypes := ts }, T, ps, af, gd⟩ ρ w K := by
  have : (execOp ρ.ev ⟨d, .call { callee := .value (.func f), args := as, argTypes := ts }, T, ps, af, gd⟩).run P w = .ok (.enter f vs) w := by
    simp [execOp, resolve, Deferred.ofValue, Env.ev, invoke, ha, run_call hf]
  unfold stp; rw [this]; exact kk
end
end Go.Tl
