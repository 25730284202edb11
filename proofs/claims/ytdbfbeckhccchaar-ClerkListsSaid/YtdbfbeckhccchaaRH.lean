/- Regions that draw their order: facts, each made by one operation and used up by at most one. -/
import Derived.Test.YtdbfbeckhccchaaRG
namespace Go.Tl
open Go
set_option linter.unusedVariables false
set_option linter.unusedSimpArgs false

/-- A fact about some temporaries and a world, that stays while neither they nor its colours are touched. -/
structure SF where
  p : Env → GW → Prop
  ts : List Nat
  cs : List Nat
  st : ∀ {m : Nat → Prop} {ρ ρ' : Env} {g h : GW}, Stp m g h → ¬ m 0 → (∀ c ∈ cs, ¬ m c) → (∀ t ∈ ts, ρ' t = ρ t) → p ρ g → p ρ' h
def SF.val (t : Nat) (v : Value) : SF := ⟨fun ρ _ => ρ t = v, [t], [], fun _ _ _ ht h => (ht t (by simp)).trans h⟩
def SF.agg {α : Type} (t : Nat) (d : Kd α) (h0 : d.nc = 0) (e : α) : SF :=
  ⟨fun ρ g => ∃ cs : List Value, ρ t = .agg cs.toArray ∧ d.M g 0 e cs, [t], [], fun s hm _ ht ⟨cs, h, k⟩ => ⟨cs, (ht t (by simp)).trans h, Kd.upK h0 s hm k⟩⟩
def SF.sl {α : Type} (t : Nat) (d : Kd α) (h0 : d.nc = 0) (c : Nat) (e : List α) : SF :=
  ⟨fun ρ g => ∃ v, ρ t = v ∧ Sl d g c e v, [t], [c], fun s hm hc ht ⟨v, h, k⟩ => ⟨v, (ht t (by simp)).trans h, Sl.up h0 s hm (hc c (by simp)) k⟩⟩
def SF.row {α : Type} (t : Nat) (e : TypeId) (d : Kd α) (h0 : d.nc = 0) (c : Nat) (x : List α) : SF :=
  ⟨fun ρ g => ∃ v, ρ t = v ∧ Row e d g c x v, [t], [c], fun s hm hc ht ⟨v, h, k⟩ => ⟨v, (ht t (by simp)).trans h, Row.up h0 s hm (hc c (by simp)) k⟩⟩
/-- A place in an element of a slice. -/
def SF.ep {α : Type} (t : Nat) (d : Kd α) (h0 : d.nc = 0) (c : Nat) (e : α) (off : Nat → Nat) : SF :=
  ⟨fun ρ g => ∃ b o L, ρ t = .pointer (some ⟨b, off o, none⟩) ∧ Imm g b c L ∧ At d g 0 e L o, [t], [c], fun s hm hc ht ⟨b, o, L, h, k, a⟩ => ⟨b, o, L, (ht t (by simp)).trans h, Imm.up s (hc c (by simp)) k, At.up a s hm (fun k hk => by omega)⟩⟩
/-- A variable that t points to. -/
def SF.box {α : Type} (t c : Nat) (T : TypeId) (d : Kd α) (h0 : d.nc = 0) (e : α) : SF :=
  ⟨fun ρ g => ∃ b L, ρ t = .pointer (some ⟨b, 0, none⟩) ∧ Blk g b c T L ∧ L.length = d.sz ∧ At d g 0 e L 0, [t], [c], fun s hm hc ht ⟨b, L, h, k, l, a⟩ => ⟨b, L, (ht t (by simp)).trans h, Blk.up s (hc c (by simp)) k, l, At.up a s hm (fun k hk => by omega)⟩⟩
/-- A variable that was there. -/
def SF.bx {α : Type} (b c : Nat) (T : TypeId) (d : Kd α) (h0 : d.nc = 0) (e : α) : SF :=
  ⟨fun ρ g => ∃ L, Blk g b c T L ∧ L.length = d.sz ∧ At d g 0 e L 0, [], [c], fun s hm hc ht ⟨L, k, l, a⟩ => ⟨L, Blk.up s (hc c (by simp)) k, l, At.up a s hm (fun k hk => by omega)⟩⟩
def SF.tt : SF := ⟨fun _ _ => True, [], [], fun _ _ _ _ _ => trivial⟩
def SF.two (f f' : SF) : SF :=
  ⟨fun ρ g => f.p ρ g ∧ f'.p ρ g, f.ts ++ f'.ts, f.cs ++ f'.cs, fun s hm hc ht k => ⟨f.st s hm (fun c h => hc c (by simp [h])) (fun t h => ht t (by simp [h])) k.1, f'.st s hm (fun c h => hc c (by simp [h])) (fun t h => ht t (by simp [h])) k.2⟩⟩
/-- A pair that a call handed back: its parts, as facts about values. -/
structure VF where
  p : GW → Value → Prop
  cs : List Nat
  st : ∀ {m : Nat → Prop} {g h : GW} {v : Value}, Stp m g h → ¬ m 0 → (∀ c ∈ cs, ¬ m c) → p g v → p h v
def SF.of (t : Nat) (f : VF) : SF := ⟨fun ρ g => ∃ v, ρ t = v ∧ f.p g v, [t], f.cs, fun s hm hc ht ⟨v, h, k⟩ => ⟨v, (ht t (by simp)).trans h, f.st s hm hc k⟩⟩
def VF.eq (u : Value) : VF := ⟨fun _ v => v = u, [], fun _ _ _ k => k⟩
def VF.agg {α : Type} (d : Kd α) (h0 : d.nc = 0) (e : α) : VF := ⟨fun g v => ∃ cs : List Value, v = .agg cs.toArray ∧ d.M g 0 e cs, [], fun s hm _ ⟨cs, h, k⟩ => ⟨cs, h, Kd.upK h0 s hm k⟩⟩
def VF.sl {α : Type} (d : Kd α) (h0 : d.nc = 0) (c : Nat) (e : List α) : VF := ⟨fun g v => Sl d g c e v, [c], fun s hm hc k => Sl.up h0 s hm (hc c (by simp)) k⟩
def VF.row {α : Type} (e : TypeId) (d : Kd α) (h0 : d.nc = 0) (c : Nat) (x : List α) : VF := ⟨fun g v => Row e d g c x v, [c], fun s hm hc k => Row.up h0 s hm (hc c (by simp)) k⟩
def VF.two (f f' : VF) : VF := ⟨fun g v => ∃ a b, v = .tuple #[a, b] ∧ f.p g a ∧ f'.p g b, f.cs ++ f'.cs, fun s hm hc ⟨a, b, h, k, k'⟩ => ⟨a, b, h, f.st s hm (fun c h => hc c (by simp [h])) k, f'.st s hm (fun c h => hc c (by simp [h])) k'⟩⟩
def VF.three (f f' f'' : VF) : VF := ⟨fun g v => ∃ a b c, v = .tuple #[a, b, c] ∧ f.p g a ∧ f'.p g b ∧ f''.p g c, f.cs ++ f'.cs ++ f''.cs, fun s hm hc ⟨a, b, c, h, k, k', k''⟩ => ⟨a, b, c, h, f.st s hm (fun c h => hc c (by simp [h])) k, f'.st s hm (fun c h => hc c (by simp [h])) k', f''.st s hm (fun c h => hc c (by simp [h])) k''⟩⟩
/-- Two temporaries that lead into one block. -/
def SF.rel (t t0 : Nat) (o : Nat) : SF := ⟨fun ρ _ => ∃ b, ρ t0 = .pointer (some ⟨b, 0, none⟩) ∧ ρ t = .pointer (some ⟨b, o, none⟩), [t, t0], [], fun _ _ _ ht ⟨b, h, k⟩ => ⟨b, (ht t0 (by simp)).trans h, (ht t (by simp)).trans k⟩⟩
/-- A place in a row. -/
def SF.erow (x t : Nat) (o : Nat) : SF := ⟨fun ρ _ => ∃ b m c, ρ x = .slice (some ⟨b, 0, none⟩) m c ∧ ρ t = .pointer (some ⟨b, o, none⟩), [x, t], [], fun _ _ _ ht ⟨b, m, c, h, k⟩ => ⟨b, m, c, (ht x (by simp)).trans h, (ht t (by simp)).trans k⟩⟩
theorem pf_erow {ρ : Env} {g : GW} {x t o b m c : Nat} (h : ρ x = .slice (some ⟨b, 0, none⟩) m c) (k : ρ t = .pointer (some ⟨b, o, none⟩)) : (SF.erow x t o).p ρ g := ⟨b, m, c, h, k⟩
theorem ptr_inj {b b' : Nat} {v : Value} (h : v = .pointer (some ⟨b, 0, none⟩)) (k : v = .pointer (some ⟨b', 0, none⟩)) : b = b' := by
  rw [h] at k; injection k with k; injection k with k; injection k
section
variable {ρ : Env} {g : GW} {α : Type} {t t0 c o b T : Nat} {d : Kd α} {e : α} {xs : List α} {cs L : List Value} {v : Value} {off : Nat → Nat} {f f' f'' : VF}
theorem pf_val (h : ρ t = v) : (SF.val t v).p ρ g := h
theorem pf_agg (h0 : d.nc = 0) (h : ρ t = .agg cs.toArray) (m : d.M g 0 e cs) : (SF.agg t d h0 e).p ρ g := ⟨cs, h, m⟩
theorem pf_sl (h0 : d.nc = 0) (h : ρ t = v) (m : Sl d g c xs v) : (SF.sl t d h0 c xs).p ρ g := ⟨v, h, m⟩
theorem pf_row (h0 : d.nc = 0) (h : ρ t = v) (m : Row T d g c xs v) : (SF.row t T d h0 c xs).p ρ g := ⟨v, h, m⟩
theorem pf_ep (h0 : d.nc = 0) (h : ρ t = .pointer (some ⟨b, off o, none⟩)) (m : Imm g b c L) (a : At d g 0 e L o) : (SF.ep t d h0 c e off).p ρ g := ⟨b, o, L, h, m, a⟩
theorem pf_box (h0 : d.nc = 0) (h : ρ t = .pointer (some ⟨b, 0, none⟩)) (m : Blk g b c T L) (l : L.length = d.sz) (a : At d g 0 e L 0) : (SF.box t c T d h0 e).p ρ g := ⟨b, L, h, m, l, a⟩
theorem pf_bx (h0 : d.nc = 0) (m : Blk g b c T L) (l : L.length = d.sz) (a : At d g 0 e L 0) : (SF.bx b c T d h0 e).p ρ g := ⟨L, m, l, a⟩
theorem pf_rel (h : ρ t0 = .pointer (some ⟨b, 0, none⟩)) (k : ρ t = .pointer (some ⟨b, o, none⟩)) : (SF.rel t t0 o).p ρ g := ⟨b, h, k⟩
theorem pf_of (h : ρ t = v) (k : f.p g v) : (SF.of t f).p ρ g := ⟨v, h, k⟩
theorem pv_eq : (VF.eq v).p g v := rfl
theorem pv_agg (h0 : d.nc = 0) (m : d.M g 0 e cs) : (VF.agg d h0 e).p g (.agg cs.toArray) := ⟨cs, rfl, m⟩
theorem pv_sl (h0 : d.nc = 0) (m : Sl d g c xs v) : (VF.sl d h0 c xs).p g v := m
theorem pv_row (h0 : d.nc = 0) (m : Row T d g c xs v) : (VF.row T d h0 c xs).p g v := m
theorem pv_2 {a b : Value} (h : f.p g a) (k : f'.p g b) : (VF.two f f').p g (.tuple #[a, b]) := ⟨a, b, rfl, h, k⟩
theorem pv_3 {a b c : Value} (h : f.p g a) (k : f'.p g b) (l : f''.p g c) : (VF.three f f' f'').p g (.tuple #[a, b, c]) := ⟨a, b, c, rfl, h, k, l⟩
end

/-- A fact of a region: made by an operation (none: it was there), used up by one (none: it stays). -/
structure DF where
  f : SF
  pr : Option Nat
  co : Option Nat
def bnd1 (l : List Oper) (i j : Nat) : Bool :=   -- j comes before i, by an edge
  match l[i]? with
  | some o => o.after.toList.any fun e => Region.binds .any e && Nat.beq e.on j
  | none => false
/-- The operations, and what else is known of their order: (i, k, j): j comes before i, by way of k. -/
structure LO where
  l : List Oper
  tc : List (Nat × Nat × Nat)
def bnd_ (l : LO) (i j : Nat) : Bool := bnd1 l.l i j || l.tc.any fun t => Nat.beq t.1 i && Nat.beq t.2.2 j
def tcOK (l : List Oper) : List (Nat × Nat × Nat) → Bool   -- the last one is told by those behind it
  | [] => true
  | (i, k, j) :: r => bnd1 l i k && (bnd1 l k j || r.any fun t => Nat.beq t.1 k && Nat.beq t.2.2 j) && tcOK l r
def optB (x : Option Nat) (p : Nat → Bool) : Bool :=
  match x with
  | some j => p j
  | none => false
/-- The fact is at hand when operation i begins. -/
def avail (l : LO) (i : Nat) (f : DF) : Bool :=
  (f.pr.isNone || optB f.pr (bnd_ l i)) && (f.co.isNone || optB f.co (fun k => Nat.beq k i || bnd_ l k i))
/-- The fact may be at hand, and is to stay, while operation i runs. -/
def rel (l : LO) (i : Nat) (f : DF) : Bool :=
  !(optB f.pr (Nat.beq i)) && !(optB f.co (Nat.beq i)) && !(optB f.pr fun j => bnd_ l j i) && !(optB f.co (bnd_ l i))
def prOK (l : List Oper) (F : List DF) : Bool := F.all fun f => match f.pr with | some j => Nat.blt j l.length | none => true
def low (l : List Oper) : Bool := (List.range l.length).all fun i => match l[i]? with
  | some o => o.after.toList.all fun e => !Region.binds .any e || Nat.blt e.on i
  | none => true
def dstOK (l : LO) (F : List DF) : Bool := (List.range l.l.length).all fun i => match (l.l[i]?).bind (·.dst) with
  | some d => F.all fun f => !(rel l i f) || f.f.ts.all fun t => !(Nat.beq t d)
  | none => true
def mOf (mu : List (Nat × (Nat → Prop))) (i : Nat) : Nat → Prop :=
  match mu with
  | [] => no
  | (j, m) :: r => bif Nat.beq j i then m else mOf r i
def nots (m : Nat → Prop) : List Nat → Prop
  | [] => True
  | c :: r => ¬ m c ∧ nots m r
def relOK (l : LO) (i : Nat) (m : Nat → Prop) : List DF → Prop
  | [] => True
  | f :: r => (bif rel l i f then nots m f.f.cs else True) ∧ relOK l i m r
def muOK (l : LO) (F : List DF) : List (Nat × (Nat → Prop)) → Prop
  | [] => True
  | (i, m) :: r => (¬ m 0 ∧ relOK l i m F) ∧ muOK l F r
theorem nots_mem {m : Nat → Prop} : ∀ {cs : List Nat}, nots m cs → ∀ c ∈ cs, ¬ m c
  | c :: r, h, c', hc => by
    rcases List.mem_cons.1 hc with rfl | hc
    · exact h.1
    · exact nots_mem h.2 c' hc
theorem nots_no : ∀ (cs : List Nat), nots no cs
  | [] => trivial
  | c :: r => ⟨no_, nots_no r⟩
theorem relOK_mem {l : LO} {i : Nat} {m : Nat → Prop} : ∀ {F : List DF}, relOK l i m F → ∀ f ∈ F, rel l i f = true → ∀ c ∈ f.f.cs, ¬ m c
  | f :: r, h, f', hf, hr => by
    rcases List.mem_cons.1 hf with rfl | hf
    · have := h.1; rw [hr] at this; exact nots_mem this
    · exact relOK_mem h.2 f' hf hr
theorem muOK_mOf {l : LO} {F : List DF} : ∀ {mu : List (Nat × (Nat → Prop))}, muOK l F mu → ∀ i, ¬ mOf mu i 0 ∧ ∀ f ∈ F, rel l i f = true → ∀ c ∈ f.f.cs, ¬ mOf mu i c
  | [], _, i => ⟨fun h => h, fun _ _ _ _ _ h => h⟩
  | (j, m) :: r, h, i => by
    simp only [mOf]
    cases hb : Nat.beq j i with
    | true => rw [Nat.eq_of_beq_eq_true hb] at h; exact ⟨h.1.1, relOK_mem h.1.2⟩
    | false => exact muOK_mOf h.2 i
theorem optB_some {x : Option Nat} {p : Nat → Bool} (h : optB x p = true) : ∃ j, x = some j ∧ p j = true := by
  cases x with
  | none => cases h
  | some j => exact ⟨j, rfl, h⟩
theorem bnd1uspec {l : List Oper} {i j : Nat} {o : Oper} (ho : l[i]? = some o) : bnd1 l i j = true ↔ ∃ e ∈ o.after, Region.binds .any e = true ∧ e.on = j := by
  unfold bnd1
  rw [ho]
  show (o.after.toList.any fun e => Region.binds .any e && Nat.beq e.on j) = true ↔ _
  rw [List.any_eq_true]
  constructor
  · rintro ⟨e, he, h1⟩
    rw [Bool.and_eq_true] at h1
    exact ⟨e, Array.mem_toList_iff.1 he, h1.1, Nat.eq_of_beq_eq_true h1.2⟩
  · rintro ⟨e, he, h1, h2⟩
    exact ⟨e, Array.mem_toList_iff.2 he, by rw [Bool.and_eq_true]; exact ⟨h1, by rw [h2]; exact Nat.beq_refl _⟩⟩
def Closed (l : List Oper) (dn : Nat → Bool) : Prop := ∀ i o, l[i]? = some o → dn i = true → ∀ e ∈ o.after, Region.binds .any e = true → dn e.on = true
theorem bnd1udone {l : List Oper} {dn : Nat → Bool} (h : Closed l dn) {i j : Nat} (hb : bnd1 l i j = true) (hi : dn i = true) : dn j = true := by
  cases ho : l[i]? with
  | none => simp [bnd1, ho] at hb
  | some o =>
    obtain ⟨e, he, hbd, rfl⟩ := (bnd1uspec ho).1 hb
    exact h i o ho hi e he hbd
theorem tc_mem {l : List Oper} : ∀ {tc : List (Nat × Nat × Nat)}, tcOK l tc = true → ∀ i j, (tc.any fun t => Nat.beq t.1 i && Nat.beq t.2.2 j) = true → ∃ k, bnd1 l i k = true ∧ ∀ dn, Closed l dn → dn k = true → dn j = true
  | (a, k, b) :: r, h, i, j, hm => by
    simp only [tcOK, Bool.and_eq_true, Bool.or_eq_true] at h
    rw [List.any_cons, Bool.or_eq_true, Bool.and_eq_true] at hm
    rcases hm with ⟨h1, h2⟩ | hm
    · have h1 := Nat.eq_of_beq_eq_true h1
      have h2 := Nat.eq_of_beq_eq_true h2
      subst h1; subst h2
      refine ⟨k, h.1.1, fun dn hc hk => ?_⟩
      rcases h.1.2 with h3 | h3
      · exact bnd1udone hc h3 hk
      · obtain ⟨k', hk', hd⟩ := tc_mem h.2 k b h3
        exact hd dn hc (bnd1udone hc hk' hk)
    · exact tc_mem h.2 i j hm
theorem bnd_done {l : LO} (ht : tcOK l.l l.tc = true) {dn : Nat → Bool} (h : Closed l.l dn) {i j : Nat} (hb : bnd_ l i j = true) (hi : dn i = true) : dn j = true := by
  rw [bnd_, Bool.or_eq_true] at hb
  rcases hb with hb | hb
  · exact bnd1udone h hb hi
  · obtain ⟨k, hk, hd⟩ := tc_mem ht i j hb
    exact hd dn h (bnd1udone h hk hi)
theorem bnd_pre {l : LO} (ht : tcOK l.l l.tc = true) {dn : Nat → Bool} (h : Closed l.l dn) {i j : Nat} {o : Oper} (ho : l.l[i]? = some o) (hp : ∀ e ∈ o.after, Region.binds .any e = true → dn e.on = true) (hb : bnd_ l i j = true) : dn j = true := by
  have h1 : ∀ k, bnd1 l.l i k = true → dn k = true := fun k hk => by
    obtain ⟨e, he, hbd, rfl⟩ := (bnd1uspec ho).1 hk
    exact hp e he hbd
  rw [bnd_, Bool.or_eq_true] at hb
  rcases hb with hb | hb
  · exact h1 j hb
  · obtain ⟨k, hk, hd⟩ := tc_mem ht i j hb
    exact hd dn h (h1 k hk)

section
variable {P : Program} {n : Nat} {Q : Post} {g0 : GW} {M Z : Nat → Prop}
def Phi (l : List Oper) (F : List DF) (dn : Nat → Bool) (ρ : Env) (g : GW) : Prop :=
  ∀ f ∈ F, (∀ j, f.pr = some j → dn j = true) → (∀ k, f.co = some k → dn k = false) → f.f.p ρ g
theorem EW.draw {l : List Oper} {id : Nat} {ρ : Env} {g : GW} (tc : List (Nat × Nat × Nat)) (F : List DF) (mu : List (Nat × (Nat → Prop))) (hfo : P.follows .mixedOrders = true) (hok : l.all (okOp n l.toArray) = true) (hlow : low l = true) (htc : tcOK l tc = true) (hdst : dstOK ⟨l, tc⟩ F = true) (hpr : prOK l F = true) (hmu : muOK ⟨l, tc⟩ F mu)
    (I : Inv M Z g0 g) (h0 : ∀ f ∈ F, f.pr = none → f.f.p ρ g)
    (step : ∀ i o, l[i]? = some o → ∀ ρ g, Inv M Z g0 g → (∀ (k : Nat) (f : DF), F[k]? = some f → avail ⟨l, tc⟩ i f = true → f.f.p ρ g) →
      (bif want l.toArray ρ o then stp P o ρ g.w (fun v w' => ∃ h, w' = h.w ∧ Stp (mOf mu i) g h ∧ Inv M Z g0 h ∧ ∀ f ∈ F, f.pr = some i → f.f.p (ρ.put o.dst v) h) else mOf mu i = no ∧ ∀ f ∈ F, f.pr = some i → f.f.p (ρ.put o.dst undef) g))
    (fin : ∀ ρ g, Inv M Z g0 g → (∀ (k : Nat) (f : DF), F[k]? = some f → f.co = none → f.f.p ρ g) → Q .normal ρ g.w) : EW P n (.region id l.toArray true) Q ρ g.w := by
  intro a ha
  have low' : ∀ i o, l[i]? = some o → ∀ e ∈ o.after, Region.binds .any e = true → e.on < i := by
    intro i o ho e he hb
    have hi : i < l.length := (List.getElem?_eq_some_iff.1 ho).1
    have := List.all_eq_true.1 hlow i (List.mem_range.2 hi)
    rw [ho] at this
    have := List.all_eq_true.1 this e (Array.mem_toList_iff.2 he)
    rw [hb] at this
    simp [Nat.blt] at this
    omega
  have key : ∀ fuel (ls : Array Bool) ρ g a, Sees n ρ a → Inv M Z g0 g → ls.size = l.length →
      (∀ i o, l[i]? = some o → ls.getD i false = true → ∀ e ∈ o.after, Region.binds .any e = true → ls.getD e.on false = true) →
      Phi l F (fun i => ls.getD i false) ρ g → (List.range l.length).countP (fun i => !ls.getD i false) ≤ fuel → wpAny P .any l.toArray (liftQ n Q) fuel ls a g.w := by
    intro fuel
    have done : ∀ (ls : Array Bool) ρ g a, Sees n ρ a → Inv M Z g0 g → ls.size = l.length → Phi l F (fun i => ls.getD i false) ρ g → Region.ready .any l.toArray ls = [] → liftQ n Q .normal a g.w := by
      intro ls ρ g a ha I hsz hP hr
      have all : ∀ i, i < l.length → ls.getD i false = true := by
        intro i
        induction i using Nat.strongRecOn with
        | _ i ih =>
          intro hi
          cases hb : ls.getD i false with
          | true => rfl
          | false =>
            exfalso
            have : i ∈ Region.ready .any l.toArray ls := by
              rw [mem_ready]
              refine ⟨?_, l[i], by simp [hi], fun e he hbd => ?_⟩
              · have hs : i < ls.size := by omega
                simp [Array.getD, hs] at hb ⊢; exact hb
              · have := low' i l[i] (List.getElem?_eq_getElem hi) e he hbd
                exact ih e.on this (by omega)
            rw [hr] at this; cases this
      refine ⟨ρ, ha, fin ρ g I fun k f hk hc => hP f (List.mem_of_getElem? hk) (fun j hj => ?_) (fun q hq => by rw [hc] at hq; cases hq)⟩
      refine all j ?_
      have := List.all_eq_true.1 hpr f (List.mem_of_getElem? hk)
      rw [hj] at this
      simp [Nat.blt] at this
      omega
    induction fuel with
    | zero =>
      intro ls ρ g a ha I hsz hcl hP hc
      have hnil : Region.ready .any l.toArray ls = [] := by
        cases hr : Region.ready .any l.toArray ls with
        | nil => rfl
        | cons i r =>
          exfalso
          have hi : i ∈ Region.ready .any l.toArray ls := by rw [hr]; simp
          rw [mem_ready] at hi
          obtain ⟨h1, o, ho, _⟩ := hi
          have hil : i < l.length := by simpa using (Array.getElem?_eq_some_iff.1 ho).1
          have hz : (List.range l.length).countP (fun i => !ls.getD i false) = 0 := by omega
          rw [List.countP_eq_zero] at hz
          have := hz i (List.mem_range.2 hil)
          have hs : i < ls.size := by omega
          simp [Array.getD, hs] at h1 this
          rw [h1] at this; cases this
      exact ⟨hnil, done ls ρ g a ha I hsz hP hnil⟩
    | succ fuel ih =>
      intro ls ρ g a ha I hsz hcl hP hc
      refine ⟨done ls ρ g a ha I hsz hP, fun i hi => ?_⟩
      rw [mem_ready] at hi
      obtain ⟨h1, o, ho, hpre⟩ := hi
      have ho' : l[i]? = some o := by simpa using ho
      have hil : i < l.length := (List.getElem?_eq_some_iff.1 ho').1
      have hs : i < ls.size := by omega
      have hni : ls.getD i false = false := by simp [Array.getD, hs] at h1 ⊢; exact h1
      have hoo := List.all_eq_true.1 hok o (List.mem_of_getElem? ho')
      have hdstn : (o.dst.all (· < n)) = true := by simp only [okOp, Bool.and_eq_true] at hoo; exact hoo.1.1.1
      have hset : ∀ j, (ls.setIfInBounds i true).getD j false = (ls.getD j false || Nat.beq j i) := by
        intro j
        by_cases e : j = i
        · subst e; simp [Array.getD, hs, Nat.beq_refl]
        · have e2 : Nat.beq j i = false := by
            cases h : Nat.beq j i with
            | false => rfl
            | true => exact absurd (Nat.eq_of_beq_eq_true h) e
          rw [getD_set_ne false (fun x => e x.symm), e2, Bool.or_false]
      have hcl' : ∀ j o', l[j]? = some o' → (ls.setIfInBounds i true).getD j false = true → ∀ e ∈ o'.after, Region.binds .any e = true → (ls.setIfInBounds i true).getD e.on false = true := by
        intro j o' ho2 hj e he hbd
        rw [hset] at hj ⊢
        by_cases ej : j = i
        · subst ej
          rw [ho'] at ho2; injection ho2 with ho2; subst ho2
          rw [hpre e he hbd]; rfl
        · have e2 : Nat.beq j i = false := by
            cases h : Nat.beq j i with
            | false => rfl
            | true => exact absurd (Nat.eq_of_beq_eq_true h) ej
          rw [e2, Bool.or_false] at hj
          rw [hcl j o' ho2 hj e he hbd]; rfl
      have hcnt : (List.range l.length).countP (fun j => !(ls.setIfInBounds i true).getD j false) ≤ fuel := by
        have hlt : (List.range l.length).countP (fun j => !(ls.setIfInBounds i true).getD j false) < (List.range l.length).countP (fun j => !ls.getD j false) := by
          have hle : ∀ (r : List Nat), i ∈ r → r.countP (fun j => !(ls.setIfInBounds i true).getD j false) < r.countP (fun j => !ls.getD j false) := by
            intro r
            have hmono : ∀ (r : List Nat), r.countP (fun j => !(ls.setIfInBounds i true).getD j false) ≤ r.countP (fun j => !ls.getD j false) := by
              intro r
              refine List.countP_mono_left fun j _ hj => ?_
              rw [hset] at hj
              cases h : ls.getD j false with
              | false => rfl
              | true => rw [h] at hj; cases hj
            induction r with
            | nil => intro h; cases h
            | cons q r ihr =>
              intro hq
              rw [List.countP_cons, List.countP_cons]
              rcases List.mem_cons.1 hq with rfl | hq
              · have h3 := hmono r
                have h4 : (!(ls.setIfInBounds i true).getD i false) = false := by rw [hset, Nat.beq_refl]; simp
                have h5 : (!ls.getD i false) = true := by rw [hni]; rfl
                rw [if_neg (by rw [h4]; simp), if_pos h5]
                omega
              · have h3 := ihr hq
                have h4 : (if (!(ls.setIfInBounds i true).getD q false) = true then 1 else 0) ≤ (if (!ls.getD q false) = true then 1 else 0) := by
                  rw [hset]
                  cases h : ls.getD q false <;> cases h' : Nat.beq q i <;> simp
                omega
          exact hle _ (List.mem_range.2 hil)
        omega
      -- what is at hand
      have av : ∀ (k : Nat) (f : DF), F[k]? = some f → avail ⟨l, tc⟩ i f = true → f.f.p ρ g := by
        intro k f hk hav
        simp only [avail, Bool.and_eq_true, Bool.or_eq_true] at hav
        refine hP f (List.mem_of_getElem? hk) (fun j hj => ?_) (fun q hq => ?_)
        · rcases hav.1 with h | h
          · rw [hj] at h; cases h
          · rw [hj] at h
            exact bnd_pre (l := ⟨l, tc⟩) htc (dn := fun i => ls.getD i false) (fun i o h1 h2 e he hb => hcl i o h1 h2 e he hb) ho' hpre h
        · rcases hav.2 with h | h
          · rw [hq] at h; cases h
          · rw [hq] at h
            simp only [optB, Bool.or_eq_true] at h
            rcases h with h | h
            · rw [Nat.eq_of_beq_eq_true h]; exact hni
            · show ls.getD q false = false
              cases hb : ls.getD q false with
              | false => rfl
              | true =>
                have := bnd_done (l := ⟨l, tc⟩) htc (dn := fun i => ls.getD i false) (fun i o h1 h2 e he hb => hcl i o h1 h2 e he hb) h hb
                rw [hni] at this; cases this
      have mo := muOK_mOf hmu i
      have after : ∀ (ρ' : Env) (h : GW), Stp (mOf mu i) g h → (∀ t, o.dst ≠ some t → ρ' t = ρ t) → (∀ f ∈ F, f.pr = some i → f.f.p ρ' h) → Phi l F (fun j => (ls.setIfInBounds i true).getD j false) ρ' h := by
        intro ρ' h s hρ hnew f hf hpr hco
        by_cases hfi : f.pr = some i
        · exact hnew f hf hfi
        · have hrel : rel ⟨l, tc⟩ i f = true := by
            simp only [rel, Bool.and_eq_true, Bool.not_eq_true']
            refine ⟨⟨⟨?_, ?_⟩, ?_⟩, ?_⟩
            · cases hx : f.pr with
              | none => rfl
              | some j =>
                show Nat.beq i j = false
                cases hy : Nat.beq i j with
                | false => rfl
                | true => rw [Nat.eq_of_beq_eq_true hy] at hfi; exact absurd hx hfi
            · cases hx : f.co with
              | none => rfl
              | some j =>
                show Nat.beq i j = false
                cases hy : Nat.beq i j with
                | false => rfl
                | true =>
                  have := hco j hx
                  simp only [hset] at this
                  rw [← Nat.eq_of_beq_eq_true hy, Nat.beq_refl, Bool.or_true] at this
                  cases this
            · cases hx : f.pr with
              | none => rfl
              | some j =>
                show bnd_ ⟨l, tc⟩ j i = false
                cases hy : bnd_ ⟨l, tc⟩ j i with
                | false => rfl
                | true =>
                  exfalso
                  have h2 := hpr j hx
                  simp only [hset] at h2
                  have hji : ¬ j = i := fun e => hfi (e ▸ hx)
                  have e2 : Nat.beq j i = false := by
                    cases h : Nat.beq j i with
                    | false => rfl
                    | true => exact absurd (Nat.eq_of_beq_eq_true h) hji
                  rw [e2, Bool.or_false] at h2
                  have := bnd_done (l := ⟨l, tc⟩) htc (dn := fun i => ls.getD i false) (fun i o h1 h2 e he hb => hcl i o h1 h2 e he hb) hy h2
                  rw [hni] at this; cases this
            · cases hx : f.co with
              | none => rfl
              | some k =>
                show bnd_ ⟨l, tc⟩ i k = false
                cases hy : bnd_ ⟨l, tc⟩ i k with
                | false => rfl
                | true =>
                  exfalso
                  have h3 : ls.getD k false = true := bnd_pre (l := ⟨l, tc⟩) htc (dn := fun i => ls.getD i false) (fun i o h1 h2 e he hb => hcl i o h1 h2 e he hb) ho' hpre hy
                  have h2 := hco k hx
                  simp only [hset] at h2
                  rw [h3] at h2; cases h2
          have hold : f.f.p ρ g := by
            refine hP f hf (fun j hj => ?_) (fun k hk => ?_)
            · have h2 := hpr j hj
              simp only [hset] at h2
              have hji : ¬ j = i := fun e => hfi (e ▸ hj)
              have e2 : Nat.beq j i = false := by
                cases h : Nat.beq j i with
                | false => rfl
                | true => exact absurd (Nat.eq_of_beq_eq_true h) hji
              rwa [e2, Bool.or_false] at h2
            · have h2 := hco k hk
              simp only [hset] at h2
              show ls.getD k false = false
              cases h : ls.getD k false with
              | false => rfl
              | true => rw [h] at h2; cases h2
          refine f.f.st s mo.1 (mo.2 f hf hrel) (fun t ht => hρ t fun hd => ?_) hold
          have h5 := List.all_eq_true.1 hdst i (List.mem_range.2 hil)
          rw [ho', Option.bind_some, hd] at h5
          have h6 := List.all_eq_true.1 h5 f hf
          rw [hrel, Bool.not_true, Bool.false_or] at h6
          have h7 := List.all_eq_true.1 h6 t ht
          rw [Nat.beq_refl] at h7; cases h7
      have hput : ∀ (v : Value) t, o.dst ≠ some t → (ρ.put o.dst v) t = ρ t := by
        intro v t ht
        cases hd : o.dst with
        | none => rfl
        | some d =>
          have : Nat.beq t d = false := by
            cases h : Nat.beq t d with
            | false => rfl
            | true => rw [hd, Nat.eq_of_beq_eq_true h] at ht; exact absurd rfl ht
          simp [Env.put, Env.up, this]
      have hst := step i o ho' ρ g I av
      unfold wpOp
      rw [ho]
      simp only [want_eq ha hoo]
      cases hw : want l.toArray ρ o with
      | true =>
        rw [hw] at hst
        rw [if_pos rfl]
        refine .inl (upon_stp ha hoo hst ?_)
        rintro v w' ⟨h, rfl, s, I', hnew⟩
        exact ih _ _ h _ (ha.put hdstn v) I' (by simpa using hsz) hcl' (after _ h s (hput v) hnew) hcnt
      | false =>
        rw [hw] at hst
        rw [if_neg (by simp)]
        have hst' : mOf mu i = no ∧ ∀ f ∈ F, f.pr = some i → f.f.p (ρ.put o.dst undef) g := hst
        exact ih _ _ g _ (ha.put hdstn undef) I (by simpa using hsz) hcl' (after _ g (by rw [hst'.1]; exact Stp.refl _ _) (hput undef) hst'.2) hcnt
  refine wp_region_any hfo ?_
  have hrep : ∀ i, (Array.replicate l.toArray.size false).getD i false = false := by
    intro i; simp only [Array.getD_eq_getD_getElem?, Array.getElem?_replicate]; split <;> rfl
  refine key l.toArray.size _ ρ g.dr a ha I.dr (by simp) (fun i o ho hb => by rw [hrep] at hb; cases hb) ?_ ?_
  · intro f hf hpr _
    have : f.pr = none := by
      cases hx : f.pr with
      | none => rfl
      | some j => have := hpr j hx; simp only [hrep] at this; cases this
    exact f.f.st (Stp.dr g) no_ (fun _ _ => no_) (fun _ _ => rfl) (h0 f hf this)
  · have := List.countP_le_length (p := fun i => !(Array.replicate l.toArray.size false).getD i false) (l := List.range l.length)
    simpa using this
/-! For a text: an operation at a time. -/
def isPr (i : Nat) (f : DF) : Bool := optB f.pr (Nat.beq i)
def newsL (ρ : Env) (g : GW) : List DF → Prop
  | [] => True
  | f :: r => f.f.p ρ g ∧ newsL ρ g r
theorem nwc {ρ : Env} {g : GW} {f : DF} {r : List DF} (h : f.f.p ρ g) (k : newsL ρ g r) : newsL ρ g (f :: r) := ⟨h, k⟩
theorem nwn {ρ : Env} {g : GW} : newsL ρ g [] := trivial
theorem newsL_mem {ρ : Env} {g : GW} : ∀ {F : List DF}, newsL ρ g F → ∀ f ∈ F, f.f.p ρ g
  | f :: r, h, f', hf => by
    rcases List.mem_cons.1 hf with rfl | hf
    · exact h.1
    · exact newsL_mem h.2 f' hf
theorem news_of {ρ : Env} {g : GW} {F : List DF} {i : Nat} (h : newsL ρ g (F.filter (isPr i))) : ∀ f ∈ F, f.pr = some i → f.f.p ρ g := fun f hf hp =>
  newsL_mem h f (List.mem_filter.2 ⟨hf, by simp [isPr, hp, optB, Nat.beq_refl]⟩)
theorem pres_of {ρ : Env} {g : GW} {F : List DF} (h : newsL ρ g (F.filter (·.pr.isNone))) : ∀ f ∈ F, f.pr = none → f.f.p ρ g := fun f hf hp =>
  newsL_mem h f (List.mem_filter.2 ⟨hf, by simp [hp]⟩)
def StepAt (P : Program) (M Z : Nat → Prop) (g0 : GW) (l : LO) (F : List DF) (mu : List (Nat × (Nat → Prop))) (i : Nat) (o : Oper) : Prop :=
  ∀ ρ g, Inv M Z g0 g → (∀ (k : Nat) (f : DF), F[k]? = some f → avail l i f = true → f.f.p ρ g) →
    (bif want l.l.toArray ρ o then stp P o ρ g.w (fun v w' => ∃ h, w' = h.w ∧ Stp (mOf mu i) g h ∧ Inv M Z g0 h ∧ newsL (ρ.put o.dst v) h (F.filter (isPr i))) else mOf mu i = no ∧ newsL (ρ.put o.dst undef) g (F.filter (isPr i)))
def AllSteps (P : Program) (M Z : Nat → Prop) (g0 : GW) (l : LO) (F : List DF) (mu : List (Nat × (Nat → Prop))) : Nat → List Oper → Prop
  | _, [] => True
  | i, o :: r => StepAt P M Z g0 l F mu i o ∧ AllSteps P M Z g0 l F mu (i + 1) r
theorem AllSteps.get {l : LO} {F : List DF} {mu : List (Nat × (Nat → Prop))} : ∀ (i : Nat) {r : List Oper} {k : Nat}, AllSteps P M Z g0 l F mu k r → ∀ o, r[i]? = some o → StepAt P M Z g0 l F mu (k + i) o
  | _, [], _, _, o', ho => by simp at ho
  | 0, o :: r, k, h, o', ho => by
    rw [List.getElem?_cons_zero] at ho
    cases ho
    exact And.left h
  | i + 1, o :: r, k, h, o', ho => by
    rw [List.getElem?_cons_succ] at ho
    have h2 := AllSteps.get i (And.right h) o' ho
    have e : k + 1 + i = k + (i + 1) := Nat.add_right_comm k 1 i
    exact e ▸ h2
theorem dcons {l : LO} {F : List DF} {mu : List (Nat × (Nat → Prop))} {i : Nat} {o : Oper} {r : List Oper} (h : StepAt P M Z g0 l F mu i o) (k : AllSteps P M Z g0 l F mu (i + 1) r) : AllSteps P M Z g0 l F mu i (o :: r) := ⟨h, k⟩
theorem dnil {l : LO} {F : List DF} {mu : List (Nat × (Nat → Prop))} {i : Nat} : AllSteps P M Z g0 l F mu i [] := trivial
theorem EW.drawn {l : List Oper} {id : Nat} {ρ : Env} {g : GW} (tc : List (Nat × Nat × Nat)) (F : List DF) (mu : List (Nat × (Nat → Prop))) (hfo : P.follows .mixedOrders = true) (hok : l.all (okOp n l.toArray) = true) (hst : (low l && dstOK ⟨l, tc⟩ F && prOK l F && tcOK l tc) = true) (hmu : muOK ⟨l, tc⟩ F mu)
    (I : Inv M Z g0 g) (h0 : newsL ρ g (F.filter (·.pr.isNone))) (steps : AllSteps P M Z g0 ⟨l, tc⟩ F mu 0 l)
    (fin : ∀ ρ g, Inv M Z g0 g → (∀ (k : Nat) (f : DF), F[k]? = some f → f.co = none → f.f.p ρ g) → ∃ ρ', ρ' = ρ ∧ Q .normal ρ' g.w) : EW P n (.region id l.toArray true) Q ρ g.w := by
  rw [Bool.and_eq_true, Bool.and_eq_true, Bool.and_eq_true] at hst
  refine EW.draw tc F mu hfo hok hst.1.1.1 hst.2 hst.1.1.2 hst.1.2 hmu I (pres_of h0) (fun i o ho ρ g I av => ?_) (fun ρ g I av => by obtain ⟨ρ', rfl, h⟩ := fin ρ g I av; exact h)
  have h := AllSteps.get i steps o ho
  rw [Nat.zero_add] at h
  have h := h ρ g I av
  cases hw : want l.toArray ρ o with
  | true =>
    rw [hw] at h
    exact stp_mono h fun v w ⟨g', e, s, I', k⟩ => ⟨g', e, s, I', news_of k⟩
  | false =>
    rw [hw] at h
    exact ⟨h.1, news_of h.2⟩
theorem ddo {l : List Oper} {F : List DF} {mu : List (Nat × (Nat → Prop))} {i : Nat} {d : Nat} {q : Op} {t : TypeId} {ps : String} {af : Array Edge} {gd : Option (Nat × Bool)} {ρ ρ' : Env} {g : GW} (e : ρ' = ρ) (hw : want l.toArray ρ' ⟨some d, q, t, ps, af, gd⟩ = true)
    (h : stp P ⟨some d, q, t, ps, af, gd⟩ ρ' g.w (fun v w' => ∃ h, w' = h.w ∧ Stp (mOf mu i) g h ∧ Inv M Z g0 h ∧ newsL (ρ'.up d v) h (F.filter (isPr i)))) :
    bif want l.toArray ρ ⟨some d, q, t, ps, af, gd⟩ then stp P ⟨some d, q, t, ps, af, gd⟩ ρ g.w (fun v w' => ∃ h, w' = h.w ∧ Stp (mOf mu i) g h ∧ Inv M Z g0 h ∧ newsL (ρ.put (some d) v) h (F.filter (isPr i))) else mOf mu i = no ∧ newsL (ρ.put (some d) undef) g (F.filter (isPr i)) := by
  subst e; rw [hw]; exact h
theorem ddon {l : List Oper} {F : List DF} {mu : List (Nat × (Nat → Prop))} {i : Nat} {q : Op} {t : TypeId} {ps : String} {af : Array Edge} {gd : Option (Nat × Bool)} {ρ ρ' : Env} {g : GW} (e : ρ' = ρ) (hw : want l.toArray ρ' ⟨none, q, t, ps, af, gd⟩ = true)
    (h : stp P ⟨none, q, t, ps, af, gd⟩ ρ' g.w (fun v w' => ∃ h, w' = h.w ∧ Stp (mOf mu i) g h ∧ Inv M Z g0 h ∧ newsL ρ' h (F.filter (isPr i)))) :
    bif want l.toArray ρ ⟨none, q, t, ps, af, gd⟩ then stp P ⟨none, q, t, ps, af, gd⟩ ρ g.w (fun v w' => ∃ h, w' = h.w ∧ Stp (mOf mu i) g h ∧ Inv M Z g0 h ∧ newsL (ρ.put none v) h (F.filter (isPr i))) else mOf mu i = no ∧ newsL (ρ.put none undef) g (F.filter (isPr i)) := by
  subst e; rw [hw]; exact h
theorem dskip {l : List Oper} {F : List DF} {mu : List (Nat × (Nat → Prop))} {i : Nat} {o : Oper} {ρ ρ' : Env} {g : GW} (e : ρ' = ρ) (hw : want l.toArray ρ' o = false) (hm : mOf mu i = no) (h : newsL (ρ'.put o.dst undef) g (F.filter (isPr i))) :
    bif want l.toArray ρ o then stp P o ρ g.w (fun v w' => ∃ h, w' = h.w ∧ Stp (mOf mu i) g h ∧ Inv M Z g0 h ∧ newsL (ρ.put o.dst v) h (F.filter (isPr i))) else mOf mu i = no ∧ newsL (ρ.put o.dst undef) g (F.filter (isPr i)) := by
  subst e; rw [hw]; exact ⟨hm, h⟩
theorem stpc {m m1 m2 : Nat → Prop} {g h k : GW} (s : Stp m1 g h) (t : Stp m2 h k) (h1 : ∀ c, m1 c → m c) (h2 : ∀ c, m2 c → m c) : Stp m g k := (s.mono h1).trans (t.mono h2)
theorem not_or_ {m k : Nat → Prop} {c : Nat} (h : ¬ m c) (h' : ¬ k c) : ¬ or_ m k c := fun x => x.elim h h'
theorem stp.wld {o : Oper} {ρ : Env} {w w' : World} {K : Value → World → Prop} (e : w' = w) (h : stp P o ρ w K) : stp P o ρ w' K := e ▸ h
end
end Go.Tl
