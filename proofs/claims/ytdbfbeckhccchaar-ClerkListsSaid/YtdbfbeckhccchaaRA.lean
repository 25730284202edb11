/- The basis: environments as functions, and weakest preconditions of code over them. Plain theorems about the model; no program in sight. -/
import Derived.Test.YtdbfbeckhccchaaRP
import Derived.Calls
import Derived.Orders
import Derived.Tactics
import Derived.Scope
import Derived.KernelRfl
namespace Go.Tl
open Go
set_option linter.unusedVariables false

/-! ### Environments -/
abbrev Env := Nat → Value
def Env.up (ρ : Env) (d : Nat) (v : Value) : Env := fun j => bif Nat.beq j d then v else ρ j
def Env.put (ρ : Env) : Option Nat → Value → Env
  | some d, v => ρ.up d v
  | none, _ => ρ
def Env.ev (ρ : Env) : Operand → Value
  | .tmp t => ρ t
  | .const v => v
  | .global g => .pointer (some ⟨g, 0, none⟩)
  | .func f => .func (.func f) #[] #[]
structure Sees (n : Nat) (ρ : Env) (a : Act) : Prop where
  sz : a.tmps.size = n
  rd : ∀ j, j < n → a.tmps.getD j undef = ρ j
  df : a.defers = []
def okX (n : Nat) : Operand → Bool
  | .tmp t => t < n
  | _ => true
theorem Sees.ev {n : Nat} {ρ : Env} {a : Act} (h : Sees n ρ a) {x : Operand} (hx : okX n x = true) : a.eval x = ρ.ev x := by
  cases x with
  | tmp t => exact h.rd t (by simpa [okX] using hx)
  | _ => rfl
theorem Sees.put {n : Nat} {ρ : Env} {a : Act} (h : Sees n ρ a) {d : Option Nat} (hd : (d.all (· < n)) = true) (v : Value) : Sees n (ρ.put d v) (a.put d v) := by
  cases d with
  | none => exact h
  | some d =>
    have hd' : d < n := by simpa using hd
    refine ⟨?_, fun j hj => ?_, h.df⟩
    · simp [Act.put, h.sz]
    · have := h.rd j hj
      simp only [Act.put, Env.put, Env.up, Array.getD_eq_getD_getElem?, Array.getElem?_setIfInBounds, h.sz] at this ⊢
      by_cases e : d = j
      · subst e
        simp [hd']
      · have e2 : Nat.beq j d = false := by
          cases h : Nat.beq j d with
          | false => rfl
          | true => exact absurd (Nat.eq_of_beq_eq_true h).symm e
        rw [if_neg e, e2]; exact this

/-! ### Code -/
abbrev Post := Exit → Env → World → Prop
def liftQ (n : Nat) (Q : Post) : Exit → Act → World → Prop := fun e a w => ∃ ρ, Sees n ρ a ∧ Q e ρ w
def EW (P : Program) (n : Nat) (c : Code) (Q : Post) (ρ : Env) (w : World) : Prop := ∀ a, Sees n ρ a → c.wp P (liftQ n Q) a w
def thn (J : Env → World → Prop) (Q : Post) : Post
  | .normal, ρ, w => J ρ w
  | e, ρ, w => Q e ρ w
def inB (id : Nat) (Q : Post) : Post
  | .exit id', ρ, w => bif Nat.beq id' id then Q .normal ρ w else Q (.exit id') ρ w
  | e, ρ, w => Q e ρ w
section
variable {P : Program} {n : Nat} {Q : Post} {ρ : Env} {w : World}
theorem EW.mono {c : Code} {Q' : Post} (h : EW P n c Q ρ w) (hq : ∀ e ρ w, Q e ρ w → Q' e ρ w) : EW P n c Q' ρ w :=
  fun a ha => Go.wp_mono (h a ha) fun _ _ _ ⟨ρ, hs, q⟩ => ⟨ρ, hs, hq _ _ _ q⟩
theorem EW.seqJ {x y : Code} (J : Env → World → Prop) (hy : ∀ ρ w, J ρ w → EW P n y Q ρ w) (hx : EW P n x (thn J Q) ρ w) : EW P n (.seq x y) Q ρ w := by
  intro a ha
  refine wp_seq (Go.wp_mono (hx a ha) ?_)
  rintro e a w ⟨ρ, hs, q⟩
  cases e with
  | normal => exact hy _ _ q a hs
  | _ => exact ⟨ρ, hs, q⟩
theorem EW.seq {x y : Code} (hx : EW P n x (thn (EW P n y Q) Q) ρ w) : EW P n (.seq x y) Q ρ w := .seqJ _ (fun _ _ h => h) hx
theorem EW.skip (h : Q .normal ρ w) : EW P n .skip Q ρ w := fun a ha => wp_skip ⟨ρ, ha, h⟩
theorem EW.label {l : Nat} (h : Q .normal ρ w) : EW P n (.label l) Q ρ w := fun a ha => wp_label ⟨ρ, ha, h⟩
theorem EW.ret (h : Q .ret ρ w) : EW P n .ret Q ρ w := fun a ha => wp_ret ⟨ρ, ha, h⟩
theorem EW.exit {id : Nat} (h : Q (.exit id) ρ w) : EW P n (.exit id) Q ρ w := fun a ha => wp_exit ⟨ρ, ha, h⟩
theorem EW.cond {c : Operand} {x y : Code} {b : Bool} (hn : okX n c = true) (hc : ρ.ev c = .bool b) (h : EW P n (bif b then x else y) Q ρ w) : EW P n (.cond c x y) Q ρ w :=
  fun a ha => wp_cond (t := b) ((ha.ev hn).trans hc) (by have := h a ha; cases b <;> exact this)
theorem EW.block {id : Nat} {c : Code} (h : EW P n c (inB id Q) ρ w) : EW P n (.block id c) Q ρ w := by
  intro a ha
  refine wp_block (Go.wp_mono (h a ha) ?_)
  rintro e a w ⟨ρ, hs, q⟩
  cases e with
  | exit id' =>
    simp only [inB] at q
    simp only [Exit.inBlock]
    cases hb : Nat.beq id' id with
    | true => rw [if_pos (Nat.eq_of_beq_eq_true hb)]; rw [hb] at q; exact ⟨ρ, hs, q⟩
    | false => rw [if_neg (Nat.ne_of_beq_eq_false hb)]; rw [hb] at q; exact ⟨ρ, hs, q⟩
  | _ => exact ⟨ρ, hs, q⟩

theorem EW.loopN_ {σ R : Type} {b : σ → Option (σ ⊕ R)} {body : Code} {r : R} (Inv : σ → Env → World → Prop)
    (round : ∀ s o ρ w, Inv s ρ w → b s = some o → (∀ r', o = .inr r' → r' = r) → EW P n body (thn (fun ρ w => ∃ s', o = .inl s' ∧ Inv s' ρ w) Q) ρ w) :
    ∀ k s ρ w, loopN b k s = some r → Inv s ρ w → EW P n (.loop body) Q ρ w := by
  intro k s ρ w hk hI a ha
  let I : Act → World → Prop := fun a w => ∃ k s ρ, Sees n ρ a ∧ Inv s ρ w ∧ loopN b k s = some r
  have key : ∀ k s ρ a w, Sees n ρ a → Inv s ρ w → loopN b k s = some r → ∀ (bb : Frame) (kk : List Item) (cs : List Frame),
      ∃ e a' w', liftQ n Q e a' w' ∧ Arrives P (lone (bb.at a (.code body :: .inLoop body :: kk)) cs w) bb kk cs e a' w' := by
    intro k
    induction k with
    | zero => intro s ρ a w _ _ h; cases h
    | succ k ih =>
      intro s ρ a w ha hI hk bb kk cs
      simp only [loopN] at hk
      cases hb : b s with
      | none => rw [hb] at hk; cases hk
      | some o =>
        rw [hb] at hk
        have hr : ∀ r', o = .inr r' → r' = r := by
          rintro r' rfl; simpa using hk
        obtain ⟨e, a₁, w₁, ⟨ρ₁, hs₁, hq⟩, harr⟩ := round s o ρ w hI hb hr a ha bb (.inLoop body :: kk) cs
        cases e with
        | normal =>
          obtain ⟨s', rfl, hI'⟩ := hq
          obtain ⟨e₂, a₂, w₂, hq₂, harr₂⟩ := ih s' ρ₁ a₁ w₁ hs₁ hI' hk bb kk cs
          exact ⟨e₂, a₂, w₂, hq₂, .of_steps (Steps.trans harr (.one step_inLoop)) harr₂⟩
        | exit id => exact ⟨_, a₁, w₁, ⟨ρ₁, hs₁, hq⟩, .pass (x := .inLoop body) rfl (fun _ _ => .inl (by simp)) harr⟩
        | goto l => exact ⟨_, a₁, w₁, ⟨ρ₁, hs₁, hq⟩, .pass (x := .inLoop body) rfl (fun _ _ => .inl (by simp)) harr⟩
        | ret => exact ⟨_, a₁, w₁, ⟨ρ₁, hs₁, hq⟩, .pass (x := .inLoop body) rfl (fun _ _ => .inl (by simp)) harr⟩
        | panic ch => exact ⟨_, a₁, w₁, ⟨ρ₁, hs₁, hq⟩, .pass (x := .inLoop body) rfl (fun _ _ => .inl (by simp)) harr⟩
        | outgrown => exact ⟨_, a₁, w₁, ⟨ρ₁, hs₁, hq⟩, .pass (x := .inLoop body) rfl (fun _ _ => .inl (by simp)) harr⟩
  intro bb kk cs
  obtain ⟨e, a', w', hq, harr⟩ := key k s ρ a w ha hI hk bb kk cs
  exact ⟨e, a', w', hq, .of_steps (.one step_loop) harr⟩
theorem EW.loop {σ R : Type} {b : σ → Option (σ ⊕ R)} {body : Code} {r : R} {s : σ} (Inv : σ → Env → World → Prop)
    (h : Tl.loop b s = some r) (h0 : Inv s ρ w)
    (round : ∀ s o ρ w, Inv s ρ w → b s = some o → (∀ r', o = .inr r' → r' = r) → EW P n body (thn (fun ρ w => ∃ s', o = .inl s' ∧ Inv s' ρ w) Q) ρ w) :
    EW P n (.loop body) Q ρ w := by
  obtain ⟨k, hk⟩ := loop_some h
  exact EW.loopN_ Inv round k s ρ w hk h0
end

/-! ### Regions -/
def stp (P : Program) (o : Oper) (ρ : Env) (w : World) (K : Value → World → Prop) : Prop :=
  match (execOp ρ.ev o).run P w with
  | .ok (.value v) w' => K v w'
  | .ok .skip w' => K undef w'
  | .ok (.enter f args) w' => Calls P f args w' fun e w'' => ∃ v, e = .returned v ∧ K v w''
  | _ => False
def want (ops : Array Oper) (ρ : Env) (o : Oper) : Bool :=
  match o.guard with
  | none => true
  | some (j, b) => match (ops[j]?).bind (·.dst) with
    | some d => match ρ d with
      | .bool x => x == b
      | _ => false
    | none => false
def EWL (P : Program) (ops : Array Oper) (K : Env → World → Prop) : List Oper → Env → World → Prop
  | [], ρ, w => K ρ w
  | o :: r, ρ, w => bif want ops ρ o then stp P o ρ w (fun v w' => EWL P ops K r (ρ.put o.dst v) w') else EWL P ops K r (ρ.put o.dst undef) w
def notSelect : Op → Bool
  | .select .. => false
  | _ => true
def okOp (n : Nat) (ops : Array Oper) (o : Oper) : Bool :=
  o.dst.all (· < n) && notSelect o.op && o.op.operands.all (okX n) && (match o.guard with | none => true | some (j, _) => match (ops[j]?).bind (·.dst) with | some d => d < n | none => true)
section
variable {P : Program} {n : Nat} {Q : Post} {ρ : Env} {w : World} {ops : Array Oper}
theorem stp_mono {o : Oper} {K K' : Value → World → Prop} (h : stp P o ρ w K) (hk : ∀ v w, K v w → K' v w) : stp P o ρ w K' := by
  unfold stp at *
  split at h <;> first
    | exact hk _ _ h
    | exact Calls.mono h fun e w ⟨v, he, hv⟩ => ⟨v, he, hk _ _ hv⟩
    | exact h.elim
theorem want_eq {a : Act} {o : Oper} (ha : Sees n ρ a) (ho : okOp n ops o = true) : Region.wanted o (yielded ops a.tmps) = want ops ρ o := by
  unfold Region.wanted want
  cases hg : o.guard with
  | none => rfl
  | some g =>
    obtain ⟨j, b⟩ := g
    simp only [yielded]
    cases hd : (ops[j]?).bind (·.dst) with
    | none => simp
    | some d =>
      have hdn : d < n := by
        simp only [okOp, hg, hd, Bool.and_eq_true] at ho
        simpa using ho.2
      have hr := ha.rd d hdn
      have hs : d < a.tmps.size := by rw [ha.sz]; exact hdn
      simp only [Array.getD_eq_getD_getElem?, Array.getElem?_eq_getElem hs, Option.getD_some] at hr
      simp only [Option.bind_some, Array.getElem?_eq_getElem hs, hr]
      cases ρ d <;> simp
theorem upon_stp {a : Act} {o : Oper} (ha : Sees n ρ a) (ho : okOp n ops o = true) {K : Value → World → Prop} {K' : Act → World → Prop} {Q' : Exit → Act → World → Prop}
    (h : stp P o ρ w K) (hk : ∀ v w, K v w → K' (a.put o.dst v) w) : o.wp P a w K' Q' := by
  have he : execOp a.eval o = execOp ρ.ev o := by
    simp only [okOp, Bool.and_eq_true] at ho
    refine execOp_congr o (fun cs b h => by have := ho.1.1.2; rw [h] at this; simp [notSelect] at this) fun x hx => ha.ev ?_
    exact (Array.all_eq_true_iff_forall_mem.1 ho.1.2) x hx
  unfold Oper.wp
  rw [he]
  unfold stp at h
  split at h
  · rename_i v w' hr; rw [hr]; exact hk _ _ h
  · rename_i w' hr; rw [hr]; exact hk _ _ h
  · rename_i f args w' hr
    rw [hr]
    simp only [Oper.upon]
    refine Calls.mono h ?_
    rintro e w'' ⟨v, rfl, hv⟩
    exact hk _ _ hv
  · exact h.elim
theorem wpList_of {K : Env → World → Prop} (hK : ∀ ρ w, K ρ w → Q .normal ρ w) : ∀ (l : List Oper) (ρ : Env) (w : World) (a : Act), Sees n ρ a → (∀ o ∈ l, okOp n ops o = true) → EWL P ops K l ρ w → wpList P ops (liftQ n Q) l a w
  | [], ρ, w, a, ha, _, h => ⟨ρ, ha, hK _ _ h⟩
  | o :: r, ρ, w, a, ha, ho, h => by
    have hoo := ho o (by simp)
    have hdst : (o.dst.all (· < n)) = true := by simp only [okOp, Bool.and_eq_true] at hoo; exact hoo.1.1.1
    simp only [EWL] at h
    simp only [wpList, want_eq ha hoo]
    cases hw : want ops ρ o with
    | true =>
      rw [hw] at h
      rw [if_pos rfl]
      exact .inl (upon_stp ha hoo h fun v w' hv => wpList_of hK r _ w' _ (ha.put hdst v) (fun o h => ho o (by simp [h])) hv)
    | false =>
      rw [hw] at h
      rw [if_neg (by simp)]
      exact wpList_of hK r _ w _ (ha.put hdst undef) (fun o h => ho o (by simp [h])) h
theorem EW.region {id : Nat} {l : List Oper} (hok : l.all (okOp n l.toArray) = true) (h : EWL P l.toArray (Q .normal) l ρ w) : EW P n (.region id l.toArray false) Q ρ w := by
  intro a ha
  exact wp_region_lit (wpList_of (fun _ _ h => h) l ρ w a ha (List.all_eq_true.1 hok) h)
end
end Go.Tl
