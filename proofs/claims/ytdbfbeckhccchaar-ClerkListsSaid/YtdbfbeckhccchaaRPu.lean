/- ClerkLists: the pure law. -/
import Derived.Test.YtdbfbeckhccchaaRFn
import Derived.Test.YtdbfbeckhccchaaRN
namespace Go.Tl
open Go
set_option linter.unusedVariables false
set_option linter.unusedSimpArgs false
attribute [local simp] Option.bind_some Option.map_some bif_true bif_false
/-! ### Wishes there and back -/
def hopc (h : ref18uHop) : memo_Hop := ⟨h.channel, h.amount, h.id⟩
def hopr (h : memo_Hop) : ref18uHop := ⟨h.channel, h.amount, h.id⟩
def cnd (c : ref10uCond) : api_Cond := ⟨c.id, c.by_, c.amount, c.hash, c.expiry⟩
def cndr (c : api_Cond) : ref10uCond := ⟨c.id, c.by_, c.amount, c.hash, c.expiry⟩
def opc (o : ref12uOp) : pact_Op := ⟨o.kind, o.amount, cnd o.cond, o.id⟩
def opr (o : pact_Op) : ref12uOp := ⟨o.kind, o.amount, cndr o.cond, o.id⟩
def wsh (w : ref20uWish) : clerk_Wish := ⟨opc w.op, w.trail.map hopc⟩
def wshr (w : clerk_Wish) : ref20uWish := ⟨opr w.op, w.trail.map hopr⟩
theorem opr_opc (o : ref12uOp) : opr (opc o) = o := rfl
theorem opc_opr (o : pact_Op) : opc (opr o) = o := rfl
theorem wshr_wsh (w : ref20uWish) : wshr (wsh w) = w := by
  obtain ⟨o, t⟩ := w
  simp only [wsh, wshr, opr_opc, List.map_map]
  congr 1
  exact List.map_id'' (fun h => rfl) t
theorem map_wshr (l : List ref20uWish) : (l.map wsh).map wshr = l := by rw [List.map_map]; exact List.map_id'' (fun w => wshr_wsh w) l
theorem law12 (o : ref12uOp) : law12uOp o = some (opc o) := rfl
theorem sig0 : ∃ s, law04uTo ref04uSig.zero = some s := by
  unfold law04uTo
  obtain ⟨r, h, _⟩ := loop_tot (b := law04uTo_b1) (fun (i, a, _, x) => 0 ≤ i ∧ i ≤ 32 ∧ a.open_.length = 32 ∧ a.other.length = 32 ∧ x.open_.length = 32 ∧ x.other.length = 32) (fun (i, _, _, _) => (32 - i).toNat) (fun _ => True) (by
    rintro ⟨i, a, z, x⟩ ⟨h0, h1, h2, h3, h4, h5⟩
    simp only [law04uTo_b1]
    by_cases hi : i < 32
    · right
      obtain ⟨y1, e1⟩ := ix_ex (xs := a.open_) h0 (by omega)
      obtain ⟨y2, e2⟩ := ix_ex (xs := a.other) h0 (by omega)
      obtain ⟨y3, e3⟩ := ix_ex (xs := x.open_) h0 (by omega)
      obtain ⟨y4, e4⟩ := ix_ex (xs := x.other) h0 (by omega)
      rw [dlt_t hi, bif_true, e1, Option.bind_some, e2, Option.bind_some, e3, Option.bind_some, e4, Option.bind_some, wrap_i64 (by omega) (by omega)]
      refine ⟨_, rfl, ⟨by omega, by omega, h2, h3, by simp [upd, h4], by simp [upd, h5]⟩, ?_⟩
      simp only; omega
    · left; rw [dlt_f hi]; exact ⟨_, rfl, trivial⟩) (0, ref04uSig.zero, lamp_Sig.zero, lamp_Sig.zero) ⟨by decide, by decide, rfl, rfl, rfl, rfl⟩
  exact ⟨r, h⟩
theorem sig0r : ∃ s, law04uFrom lamp_Sig.zero = some s := by
  unfold law04uFrom
  obtain ⟨r, h, _⟩ := loop_tot (b := law04uFrom_b1) (fun (i, a, _, x) => 0 ≤ i ∧ i ≤ 32 ∧ a.open_.length = 32 ∧ a.other.length = 32 ∧ x.open_.length = 32 ∧ x.other.length = 32) (fun (i, _, _, _) => (32 - i).toNat) (fun _ => True) (by
    rintro ⟨i, a, z, x⟩ ⟨h0, h1, h2, h3, h4, h5⟩
    simp only [law04uFrom_b1]
    by_cases hi : i < 32
    · right
      obtain ⟨y1, e1⟩ := ix_ex (xs := a.open_) h0 (by omega)
      obtain ⟨y2, e2⟩ := ix_ex (xs := a.other) h0 (by omega)
      obtain ⟨y3, e3⟩ := ix_ex (xs := x.open_) h0 (by omega)
      obtain ⟨y4, e4⟩ := ix_ex (xs := x.other) h0 (by omega)
      rw [dlt_t hi, bif_true, e1, Option.bind_some, e2, Option.bind_some, e3, Option.bind_some, e4, Option.bind_some, wrap_i64 (by omega) (by omega)]
      refine ⟨_, rfl, ⟨by omega, by omega, h2, h3, by simp [upd, h4], by simp [upd, h5]⟩, ?_⟩
      simp only; omega
    · left; rw [dlt_f hi]; exact ⟨_, rfl, trivial⟩) (0, lamp_Sig.zero, ref04uSig.zero, ref04uSig.zero) ⟨by decide, by decide, rfl, rfl, rfl, rfl⟩
  exact ⟨r, h⟩
theorem ring0 : ∃ s, law05uTo ref05uSig.zero = some s := by
  obtain ⟨s, h⟩ := sig0
  unfold law05uTo
  show ∃ s, (law04uTo ref04uSig.zero).bind _ = some s
  rw [h, Option.bind_some]
  exact ⟨_, loop_end rfl⟩
theorem ring0r : ∃ s, law05uFrom ring_Sig.zero = some s := by
  obtain ⟨s, h⟩ := sig0r
  unfold law05uFrom
  show ∃ s, (law04uFrom lamp_Sig.zero).bind _ = some s
  rw [h, Option.bind_some]
  exact ⟨_, loop_end rfl⟩
theorem trailTo (o : ref12uOp) (l : List ref18uHop) (hl : l.length ≤ 1000) : ∃ m, law18uTo { kind := 0, channel := 0, round := 0, op := o, trail := l, sig := ref05uSig.zero } = some m ∧ m.trail = l.map hopc := by
  obtain ⟨s, hs⟩ := ring0
  unfold law18uTo
  rw [law12, Option.bind_some]
  show ∃ m, (law05uTo ref05uSig.zero).bind _ = some m ∧ _
  rw [hs, Option.bind_some]
  have := loop_fold (b := law18uTo_b1 { kind := 0, channel := 0, round := 0, op := o, trail := l, sig := ref05uSig.zero } (opc o) s) l (fun i t => ((i : Int), t)) (fun t x => t ++ [hopc x]) (fun i t => t.length = i)
    (fun t => some { kind := 0, channel := 0, round := 0, op := opc o, trail := t, sig := s })
    (fun i h t ht => by
      simp only [law18uTo_b1]
      rw [dlt_t (by omega), bif_true, ix_nat h, Option.bind_some, app_ok (by simp; omega), Option.bind_some, wrap_s (by omega)]
      exact ⟨rfl, by simp [ht]⟩)
    (fun t ht => by simp only [law18uTo_b1]; rw [dlt_f (by omega)]; rfl) [] rfl
  refine ⟨_, this, ?_⟩
  simp only [foldl_snoc, List.nil_append]
theorem trailFrom (o : pact_Op) (l : List memo_Hop) (hl : l.length ≤ 1000) : law18uFrom { kind := 0, channel := 0, round := 0, op := o, trail := l, sig := ring_Sig.zero } = some { kind := 0, channel := 0, round := 0, op := opr o, trail := l.map hopr, sig := (law05uFrom ring_Sig.zero).getD ref05uSig.zero } := by
  obtain ⟨s, hs⟩ := ring0r
  rw [hs]
  unfold law18uFrom
  show (some (cndr o.cond)).bind _ = _
  rw [Option.bind_some]
  show (law05uFrom ring_Sig.zero).bind _ = _
  rw [hs, Option.bind_some]
  have := loop_fold (b := law18uFrom_b1 { kind := 0, channel := 0, round := 0, op := o, trail := l, sig := ring_Sig.zero } (cndr o.cond) s) l (fun i t => ((i : Int), t)) (fun t x => t ++ [hopr x]) (fun i t => t.length = i)
    (fun t => some { kind := 0, channel := 0, round := 0, op := opr o, trail := t, sig := s })
    (fun i h t ht => by
      simp only [law18uFrom_b1]
      rw [dlt_t (by omega), bif_true, ix_nat h, Option.bind_some, app_ok (by simp; omega), Option.bind_some, wrap_s (by omega)]
      exact ⟨rfl, by simp [ht]⟩)
    (fun t ht => by simp only [law18uFrom_b1]; rw [dlt_f (by omega)]; rfl) [] rfl
  rw [show ((0 : Int), ([] : List ref18uHop)) = (((0 : Nat) : Int), []) from rfl, this]
  simp only [foldl_snoc, List.nil_append]; rfl
/-- Lists that are not too long, of trails that aren't. -/
def Sm (l : List ref20uWish) : Prop := l.length ≤ 1000 ∧ ∀ w ∈ l, w.trail.length ≤ 1000
def Smc (l : List clerk_Wish) : Prop := l.length ≤ 1000 ∧ ∀ w ∈ l, w.trail.length ≤ 1000
theorem wishes (l : List ref20uWish) (h : Sm l) : law20uWishes l = some (l.map wsh) := by
  unfold law20uWishes
  have := loop_fold (b := law20uWishes_b1 l) l (fun i t => (t, (i : Int))) (fun t x => t ++ [wsh x]) (fun i t => t.length = i) (fun t => some t)
    (fun i hi t ht => by
      have h1 := h.1
      obtain ⟨m, hm, ht2⟩ := trailTo ref12uOp.zero l[i].trail (h.2 _ (List.getElem_mem hi))
      simp only [law20uWishes_b1]
      rw [dlt_t (by omega), bif_true, ix_nat hi, Option.bind_some, law12, Option.bind_some, hm, Option.bind_some, app_ok (by simp; omega), Option.bind_some, wrap_s (by omega), ht2]
      exact ⟨rfl, by simp [ht]⟩)
    (fun t ht => by simp only [law20uWishes_b1]; rw [dlt_f (by omega)]; rfl) [] rfl
  rw [show (([] : List clerk_Wish), (0 : Int)) = ([], ((0 : Nat) : Int)) from rfl, this]
  simp only [foldl_snoc, List.nil_append]
theorem from_ (l : List clerk_Wish) (h : Smc l) : law20uFrom l = some (l.map wshr) := by
  unfold law20uFrom
  have := loop_fold (b := law20uFrom_b1 l) l (fun i t => (t, (i : Int))) (fun t x => t ++ [wshr x]) (fun i t => t.length = i) (fun t => some t)
    (fun i hi t ht => by
      have h1 := h.1
      simp only [law20uFrom_b1]
      rw [dlt_t (by omega), bif_true, ix_nat hi, Option.bind_some, trailFrom _ _ (h.2 _ (List.getElem_mem hi)), Option.bind_some, app_ok (by simp; omega), Option.bind_some, wrap_s (by omega)]
      exact ⟨rfl, by simp [ht]⟩)
    (fun t ht => by simp only [law20uFrom_b1]; rw [dlt_f (by omega)]; rfl) [] rfl
  rw [show (([] : List ref20uWish), (0 : Int)) = ([], ((0 : Nat) : Int)) from rfl, this]
  simp only [foldl_snoc, List.nil_append]
/-! ### Whether two are the same -/
def sameB (a b : ref12uOp) : Bool := bif (decide (a.kind = 3) || decide (a.kind = 4)) && (decide (b.kind = 3) || decide (b.kind = 4)) then decide (a.id = b.id) else decide (a = b)
theorem refSame (a b : ref12uOp) : ref20uSame a b = some (sameB a b) := by
  unfold ref20uSame sameB
  by_cases h1 : a.kind = 3 <;> by_cases h2 : a.kind = 4 <;> by_cases h3 : b.kind = 3 <;> by_cases h4 : b.kind = 4 <;> simp [h1, h2, h3, h4]
theorem opc_inj {a b : ref12uOp} : opc a = opc b ↔ a = b := ⟨fun h => by have := congrArg opr h; rwa [opr_opc, opr_opc] at this, fun h => by rw [h]⟩
theorem clSame (a b : ref12uOp) (t : List memo_Hop) : clerk_Wish_Same ⟨opc a, t⟩ (opc b) = some (sameB a b) := by
  unfold clerk_Wish_Same sameB
  have e1 : (opc a).kind = a.kind := rfl
  have e2 : (opc b).kind = b.kind := rfl
  have e3 : (opc a).id = a.id := rfl
  have e4 : (opc b).id = b.id := rfl
  have e5 : ∀ {p q : Prop} [Decidable p] [Decidable q], (p ↔ q) → decide p = decide q := fun h => by simp [h]
  simp only [e1, e2, e3, e4]
  by_cases h1 : a.kind = 3 <;> by_cases h2 : a.kind = 4 <;> by_cases h3 : b.kind = 3 <;> by_cases h4 : b.kind = 4 <;> simp [h1, h2, h3, h4, opc_inj, eq_comm (a := b.id)]
  all_goals first
    | omega
    | (intro h; subst h; simp_all)
/-! ### One more behind -/
theorem contains (l : List ref20uWish) (w : ref20uWish) (hl : l.length ≤ 1000) : slices_ContainsFunc_clerk_Wish_clerk_Wish_c31 (l.map wsh) (wsh w) = some (l.any fun x => sameB x.op w.op) := by
  unfold slices_ContainsFunc_clerk_Wish_clerk_Wish_c31 slices_IndexFunc_clerk_Wish_clerk_Wish_c31
  obtain ⟨r, h, hq⟩ := loop_tot (b := slices_IndexFunc_clerk_Wish_clerk_Wish_c31ub1 (l.map wsh) (wsh w)) (fun i => 0 ≤ i ∧ i ≤ l.length ∧ ∀ (j : Nat) (h : j < l.length), (j : Int) < i → sameB l[j].op w.op = false) (fun i => ((l.length : Int) - i).toNat) (fun r => decide (0 ≤ r) = l.any fun x => sameB x.op w.op) (by
    rintro i ⟨h0, h1, h2⟩
    obtain ⟨i, rfl⟩ := Int.eq_ofNat_of_zero_le h0
    simp only [slices_IndexFunc_clerk_Wish_clerk_Wish_c31ub1, clerk_Add_1, List.length_map]
    by_cases hi : i < l.length
    · rw [dlt_t (by omega), bif_true, ix_nat (by simpa using hi), Option.bind_some, List.getElem_map]
      show (∃ r, (((clerk_Wish_Same ⟨opc l[i].op, _⟩ (opc w.op)).bind _).bind _) = _ ∧ _) ∨ ∃ s', (((clerk_Wish_Same ⟨opc l[i].op, _⟩ (opc w.op)).bind _).bind _) = _ ∧ _
      rw [clSame, Option.bind_some, Option.bind_some]
      cases hb : sameB l[i].op w.op with
      | true =>
        left; refine ⟨_, rfl, ?_⟩
        rw [decide_eq_true (by omega : (0 : Int) ≤ i)]
        exact (List.any_eq_true.2 ⟨l[i], List.getElem_mem hi, hb⟩).symm
      | false =>
        right; refine ⟨_, rfl, ?_⟩
        rw [wrap_s (by omega)]
        refine ⟨⟨by omega, by omega, fun j hj hji => ?_⟩, by omega⟩
        by_cases e : j = i
        · subst e; exact hb
        · exact h2 j hj (by omega)
    · left; rw [dlt_f (by omega)]; refine ⟨_, rfl, ?_⟩
      rw [List.any_eq_false.2 fun x hx => ?_]; rfl
      obtain ⟨j, hj, rfl⟩ := List.mem_iff_getElem.1 hx
      simp [h2 j hj (by omega)]) 0 ⟨by omega, by omega, fun j hj h => by omega⟩
  rw [h, Option.bind_some, hq]
theorem clAdd (l : List ref20uWish) (w : ref20uWish) (hl : l.length ≤ 1000) (hw : w.trail.length ≤ 1000) : clerk_Add (l.map wsh) (wsh w) = some ((bif l.any (fun x => sameB x.op w.op) then l else l ++ [w]).map wsh) := by
  unfold clerk_Add
  rw [contains l w hl, Option.bind_some]
  cases l.any (fun x => sameB x.op w.op) with
  | true => rfl
  | false =>
    simp only [bif_false, slices_Clone_clerk_Wish_clerk_Wish, clerk_Wish_Twin, slices_Clone_memo_Hop_memo_Hop]
    rw [app_ok (by simp; omega), Option.bind_some, Option.bind_some, app_ok (by simp [wsh]; omega), Option.bind_some, Option.bind_some, Option.bind_some, app_ok (by simp; omega), Option.bind_some]
    simp [wsh]
theorem runL_any {α σ R : Type} (p : α → Bool) (r : R) (fin : σ → R) (s : σ) : ∀ xs : List α, runL (fun x s => bif p x then Sum.inr r else Sum.inl s) fin xs s = bif xs.any p then r else fin s
  | [] => rfl
  | x :: xs => by
    simp only [runL, List.any_cons]
    cases p x with
    | true => rfl
    | false => simp only [bif_false, Bool.false_or]; exact runL_any p r fin s xs
theorem refAdd (l : List ref20uWish) (w : ref20uWish) (hl : l.length ≤ 1000) : ref20uAdd l w = some (bif l.any (fun x => sameB x.op w.op) then l else l ++ [w]) := by
  unfold ref20uAdd
  rw [app_ok (by simp; omega), Option.bind_some, List.nil_append]
  have := loop_run (b := ref20uAdd_b1 l l) l (fun i s => ((i : Int), s)) (fun x s => bif sameB x.op w.op then Sum.inr l else Sum.inl s) (fun s => l ++ [s]) (fun _ s => s = w)
    (fun i hi s hs => by
      subst hs
      simp only [ref20uAdd_b1]
      rw [dlt_t (by omega), bif_true, ix_nat hi, Option.bind_some, refSame, Option.bind_some, wrap_s (by omega)]
      cases sameB l[i].op s.op with
      | true => exact ⟨rfl, fun s' h => by cases h⟩
      | false => exact ⟨rfl, fun s' h => by cases h; rfl⟩)
    (fun s hs => by
      simp only [ref20uAdd_b1]; rw [dlt_f (by omega), app_ok (by simp; omega)]; rfl) w rfl
  rw [show ((0 : Int), w) = (((0 : Nat) : Int), w) from rfl, this, runL_any]
/-! ### Alike -/
theorem alike (l : List ref20uWish) (h : Sm l) : ref20uAlike l l = some true := by
  unfold ref20uAlike
  rw [show decide ((l.length : Int) ≠ (l.length : Int)) = false by simp, bif_false]
  obtain ⟨r, hr, hq⟩ := loop_tot (b := ref20uAlike_b1 l l) (fun i => 0 ≤ i ∧ i ≤ l.length) (fun i => ((l.length : Int) - i).toNat) (fun r => r = true) (by
    rintro i ⟨h0, h1⟩
    obtain ⟨i, rfl⟩ := Int.eq_ofNat_of_zero_le h0
    have hlen := h.1
    simp only [ref20uAlike_b1]
    by_cases hi : i < l.length
    · right
      have ht := h.2 _ (List.getElem_mem hi)
      rw [dlt_t (by omega), bif_true, ix_nat hi, Option.bind_some, Option.bind_some, Option.bind_some, Option.bind_some]
      rw [show decide (l[i].op ≠ l[i].op) = false by simp, bif_false, show decide ((l[i].trail.length : Int) ≠ (l[i].trail.length : Int)) = false by simp, bif_false]
      obtain ⟨r, hr, rfl⟩ := loop_tot (b := ref20uAlike_b2 l l i) (fun k => 0 ≤ k ∧ k ≤ l[i].trail.length) (fun k => ((l[i].trail.length : Int) - k).toNat) (fun r => r = .inl (((i + 1 : Nat) : Int))) (by
        rintro k ⟨g0, g1⟩
        obtain ⟨k, rfl⟩ := Int.eq_ofNat_of_zero_le g0
        simp only [ref20uAlike_b2]
        rw [ix_nat hi, Option.bind_some]
        by_cases hk : k < l[i].trail.length
        · right
          rw [dlt_t (by omega), bif_true, Option.bind_some, ix_nat hk, Option.bind_some, Option.bind_some, ix_nat hk, Option.bind_some]
          rw [show decide (l[i].trail[k] ≠ l[i].trail[k]) = false by simp, bif_false, wrap_s (by omega)]
          exact ⟨_, rfl, ⟨by omega, by omega⟩, by omega⟩
        · left; rw [dlt_f (by omega)]
          exact ⟨_, rfl, by rw [wrap_s (by omega)]⟩) 0 ⟨by omega, by omega⟩
      exact ⟨_, hr, ⟨by omega, by omega⟩, by omega⟩
    · left; rw [dlt_f (by omega)]; exact ⟨_, rfl, rfl⟩) 0 ⟨by omega, by omega⟩
  rw [hr, hq]
/-! ### Awake -/
theorem awake20 : law20uawake = some true := by
  have e : ({ op := pact_Op.zero, trail := [] } : clerk_Wish) = wsh ⟨ref12uOp.zero, []⟩ := rfl
  unfold law20uawake
  rw [e, show ([] : List clerk_Wish) = ([] : List ref20uWish).map wsh from rfl, clAdd _ _ (by simp) (by simp), Option.bind_some]
  simp only [List.any_nil, bif_false, List.nil_append]
  rw [clAdd _ _ (by simp) (by simp), Option.bind_some]
  simp [clerk_Rules_Right, money_Fee.zero, sameB, ref12uOp.zero]
end Go.Tl
