/- The operations as a walk meets them: values by their kinds; calls by their contracts; what a function hands back. -/
import Derived.Test.YtdbfbeckhccchaaRF
namespace Go.Tl
open Go
set_option linter.unusedVariables false
set_option linter.unusedSimpArgs false

/-! ### The pure side's steps -/
theorem bnd {α β : Type} {x : Option α} {f : α → Option β} {r : β} (h : x.bind f = some r) : ∃ a, x = some a ∧ f a = some r := by
  cases x with
  | none => cases h
  | some a => exact ⟨a, rfl, h⟩
theorem bif_t {α : Type} {b : Bool} {x y r : α} (hb : b = true) (h : (bif b then x else y) = r) : x = r := by subst hb; exact h
theorem bif_f {α : Type} {b : Bool} {x y r : α} (hb : b = false) (h : (bif b then x else y) = r) : y = r := by subst hb; exact h
theorem grd {α : Type} {b : Bool} {x : Option α} {r : α} (h : (bif b then x else none) = some r) : b = true ∧ x = some r := by cases b with
  | true => exact ⟨rfl, h⟩
  | false => cases h
theorem som {α : Type} {x r : α} (h : some x = some r) : x = r := Option.some.inj h

/-! ### Environments and branches -/
section
variable {P : Program} {n : Nat} {Q : Post} {ρ ρ' ρ0 : Env} {w : World}
theorem up1 {j : Nat} {v : Value} (e : ρ' = ρ) (h : ρ j = v) : ρ'.up j v = ρ := by
  subst e; subst h
  funext k
  simp only [Env.up]
  cases hb : Nat.beq k j with
  | true => rw [Nat.eq_of_beq_eq_true hb]; rfl
  | false => rfl
theorem EW.re {c : Code} (e : ρ' = ρ) (h : EW P n c Q ρ' w) : EW P n c Q ρ w := e ▸ h
theorem EW.condS {c : Operand} {x y : Code} {b : Bool} (hn : okX n c = true) (hc : ρ.ev c = .bool b) (ht : b = true → EW P n x Q ρ w) (hf : b = false → EW P n y Q ρ w) : EW P n (.cond c x y) Q ρ w := by
  refine EW.cond hn hc ?_
  cases b
  · exact hf rfl
  · exact ht rfl
theorem EW.condT {c : Operand} {x y : Code} (hn : okX n c = true) (hc : ρ.ev c = .bool true) (h : EW P n x Q ρ w) : EW P n (.cond c x y) Q ρ w := EW.cond hn hc h
theorem EW.condF {c : Operand} {x y : Code} (hn : okX n c = true) (hc : ρ.ev c = .bool false) (h : EW P n y Q ρ w) : EW P n (.cond c x y) Q ρ w := EW.cond hn hc h
end
/-! ### Colours -/
section
variable {Z M : Nat → Prop} {a b c k : Nat}
theorem zpv (h : (Nat.ble a c && Nat.blt c b) = true) : or_ Z (iv a b) c := by
  rw [Bool.and_eq_true] at h
  have h2 := h.2
  simp [Nat.blt] at h2
  exact .inr ⟨Nat.le_of_ble_eq_true h.1, by omega⟩
theorem zle (hZ : ∀ c, Z c → c = 0 ∨ b ≤ c) (h1 : Nat.ble k a = true) (h2 : Nat.ble a b = true) : ∀ c, or_ Z (iv a b) c → c = 0 ∨ k ≤ c := by
  have h1 := Nat.le_of_ble_eq_true h1
  have h2 := Nat.le_of_ble_eq_true h2
  rintro c (h | h)
  · rcases hZ c h with h | h
    · exact .inl h
    · right; omega
  · right; have := h.1; omega
theorem nz0 (h : Nat.blt 0 a = true) : ¬ iv a b 0 := fun x => by simp [Nat.blt] at h; have := x.1; omega
theorem no_any {m : Nat → Prop} : ∀ c, no c → m c := fun _ h => h.elim
theorem at_in {m : Nat → Prop} (h : m c) : ∀ k, at_ c k → m k := fun _ e => e ▸ h
end
/-! ### What a call hands back -/
def RR (m Z : Nat → Prop) (g : GW) (post : GW → Value → Prop) : Value → World → Prop := fun v w => ∃ h : GW, w = h.w ∧ Stp m g h ∧ Lo Z h ∧ post h v
theorem ret_ {m Z : Nat → Prop} {g0 g : GW} {a b : Nat} {post : GW → Value → Prop} {v : Value} (I : Inv (or_ m (iv a b)) (or_ Z (iv a b)) g0 g) (l0 : Lo Z g0) (hZ : ∀ c, Z c → c = 0 ∨ b ≤ c) (z0 : Z 0) (ha : Nat.blt 0 a = true)
    (hp : post (g.rc a b 0) v) : RR m Z g0 post v g.w :=
  ⟨g.rc a b 0, rfl, Stp.fin I.s l0 hZ (by simp [Nat.blt] at ha; omega), Lo.fin I.l z0, hp⟩
def PAg {α : Type} (d : Kd α) (r : α) : GW → Value → Prop := fun h v => ∃ cs : List Value, v = .agg cs.toArray ∧ d.M h 0 r cs
def Ob {α : Type} (T : TypeId) (d : Kd α) (g : GW) (i b : Nat) (x : α) : Prop := ∃ L, Blk g b i T L ∧ L.length = d.sz ∧ At d g (i + 1) x L 0
def PEq (u : Value) : GW → Value → Prop := fun _ v => v = u
def PTup (ps : List (GW → Value → Prop)) : GW → Value → Prop := fun h v => ∃ vs : List Value, v = .tuple vs.toArray ∧ go h ps vs
where go (h : GW) : List (GW → Value → Prop) → List Value → Prop
  | [], [] => True
  | p :: ps, v :: vs => p h v ∧ go h ps vs
  | _, _ => False
theorem ptup2 {h : GW} {p q : GW → Value → Prop} {v : Value} (k : PTup [p, q] h v) : ∃ a b, v = .tuple #[a, b] ∧ p h a ∧ q h b := by
  obtain ⟨vs, rfl, k⟩ := k
  match vs, k with
  | [a, b], k => exact ⟨a, b, rfl, k.1, k.2.1⟩
theorem ptup3 {h : GW} {p q r : GW → Value → Prop} {v : Value} (k : PTup [p, q, r] h v) : ∃ a b c, v = .tuple #[a, b, c] ∧ p h a ∧ q h b ∧ r h c := by
  obtain ⟨vs, rfl, k⟩ := k
  match vs, k with
  | [a, b, c], k => exact ⟨a, b, c, rfl, k.1, k.2.1, k.2.2.1⟩
theorem mk2 {h : GW} {p q : GW → Value → Prop} {a b : Value} (h1 : p h a) (h2 : q h b) : PTup [p, q] h (.tuple #[a, b]) := ⟨[a, b], rfl, h1, h2, trivial⟩
theorem mk3 {h : GW} {p q r : GW → Value → Prop} {a b c : Value} (h1 : p h a) (h2 : q h b) (h3 : r h c) : PTup [p, q, r] h (.tuple #[a, b, c]) := ⟨[a, b, c], rfl, h1, h2, h3, trivial⟩
/-- A post beside whose value something else has turned. -/
def PAnd (p : GW → Value → Prop) (q : GW → Prop) : GW → Value → Prop := fun h v => p h v ∧ q h
section
variable {P : Program} {ρ : Env} {w : World} {g g0 : GW} {K : Value → World → Prop} {d : Option Nat} {T T' T2 : TypeId} {ps : String} {af : Array Edge} {gd : Option (Nat × Bool)} {x y z : Operand} {b o s by_ i : Nat} {L seg : List Value} {v : Value} {M Z m : Nat → Prop} {c : Nat} {α : Type} {kd : Kd α} {r : α}
theorem s_cf {f : FuncId} {as : Array Operand} {ts : Array TypeId} {vl : List Value} {post : GW → Value → Prop} (I : Inv M Z g0 g) (hf : okF P f = true) (ha : as.toList.map ρ.ev = vl) (hc : Calls P f vl.toArray g.w (Rets (RR m Z g post))) (hm : ∀ c, m c → M c)
    (k : ∀ h v, Stp m g h → Inv M Z g0 h → post h v → K v h.w) : stp P ⟨d, .call { callee := .value (.func f), args := as, argTypes := ts }, T, ps, af, gd⟩ ρ g.w K := by
  refine s_call hf (vs := vl.toArray) (by rw [← ha]; apply Array.ext'; simp) (Calls.mono hc ?_)
  rintro e w' ⟨v, rfl, h, rfl, s, l, p⟩
  exact ⟨v, rfl, k h v s (I.to s l hm) p⟩
/-! ### Loads by kinds -/
theorem At.sl {α : Type} {d : Kd α} {h0 : d.nc = 0} {xs : List α} (k : At (kSl d h0) g i xs L o) : ∃ v, L[o]? = some v ∧ Sl d g 0 xs v := by
  obtain ⟨v, e, h⟩ := Sl.of h0 k
  exact ⟨v, seg1 e, h⟩
theorem At.row {α : Type} {e : TypeId} {d : Kd α} {h0 : d.nc = 0} {xs : List α} (k : At (kRow e d h0) g i xs L o) : ∃ v, L[o]? = some v ∧ Row e d g i xs v := by
  obtain ⟨v, e, h⟩ := Row.of h0 k
  exact ⟨v, seg1 e, h⟩
theorem At.ptr {α : Type} {T : TypeId} {d : Kd α} {x : α} (k : At (kPtr T d) g i x L o) : ∃ b, L[o]? = some (.pointer (some ⟨b, 0, none⟩)) ∧ Ob T d g i b x := by
  obtain ⟨b, L', e, hb, hd⟩ := k
  exact ⟨b, seg1 e, L', hb, d.len hd, At.whole hd⟩
theorem s_ldS {f : α → Value} {zz : α} {hf : ∀ x, (f x).oneCell' = true} (ht : tinf P T = some (false, s, by_)) (hx : ρ.ev x = .pointer (some ⟨b, o, none⟩)) (hc : Cells w b L) (a : At (kScal f zz hf) g i r L o) (k : K (f r) w) : stp P ⟨d, .load T x, T', ps, af, gd⟩ ρ w K :=
  s_ld1 ht hx hc a.sc k
theorem At.numI {k' : IntKind} {n : Nat} {xs : List Int} {j : Int} {y : Int} (a : At (kNums k' n) g i xs L o) (h : ix xs j = some y) : L[o + j.toNat * 1]? = some (.int k' y) := by
  obtain ⟨_, hj, rfl⟩ := ix_some h
  rw [Nat.mul_one]
  exact a.num _ hj
theorem At.eltI {α : Type} {d : Kd α} {n : Nat} {h0 : d.nc = 0} {xs : List α} {j : Int} {y : α} (a : At (kArr n d h0) g i xs L o) (h : ix xs j = some y) : At d g 0 y L (o + j.toNat * d.sz) := by
  obtain ⟨_, hj, rfl⟩ := ix_some h
  exact a.elt _ hj
theorem s_ldN {k' : IntKind} {n : Nat} {xs : List Int} {j : Int} {y : Int} (ht : tinf P T = some (false, s, by_)) (hx : ρ.ev x = .pointer (some ⟨b, o + j.toNat * 1, none⟩)) (hc : Cells w b L) (a : At (kNums k' n) g i xs L o) (h : ix xs j = some y) (k : K (.int k' y) w) : stp P ⟨d, .load T x, T', ps, af, gd⟩ ρ w K :=
  s_ld1 ht hx hc (a.numI h) k
theorem s_ldK (ht : tinf P T = some (true, s, by_)) (hx : ρ.ev x = .pointer (some ⟨b, o, none⟩)) (hc : Cells w b L) (a : At kd g i r L o) (hs : kd.sz = s) (h0 : Nat.blt 0 s = true) (k : ∀ cs : List Value, kd.M g i r cs → K (.agg cs.toArray) w) : stp P ⟨d, .load T x, T', ps, af, gd⟩ ρ w K := by
  subst hs
  exact s_ldA ht hx hc (a.fits (by simp [Nat.blt] at h0; omega)) (k _ a)
theorem s_ldSl {h0 : kd.nc = 0} {xs : List α} (ht : tinf P T = some (false, s, by_)) (hx : ρ.ev x = .pointer (some ⟨b, o, none⟩)) (hc : Cells w b L) (a : At (kSl kd h0) g i xs L o) (k : ∀ v, Sl kd g 0 xs v → K v w) : stp P ⟨d, .load T x, T', ps, af, gd⟩ ρ w K := by
  obtain ⟨v, e, h⟩ := a.sl
  exact s_ld1 ht hx hc e (k v h)
theorem s_ldRow {e : TypeId} {h0 : kd.nc = 0} {xs : List α} (ht : tinf P T = some (false, s, by_)) (hx : ρ.ev x = .pointer (some ⟨b, o, none⟩)) (hc : Cells w b L) (a : At (kRow e kd h0) g i xs L o) (k : ∀ v, Row e kd g i xs v → K v w) : stp P ⟨d, .load T x, T', ps, af, gd⟩ ρ w K := by
  obtain ⟨v, e, h⟩ := a.row
  exact s_ld1 ht hx hc e (k v h)
theorem s_ldPtr {T1 : TypeId} (ht : tinf P T = some (false, s, by_)) (hx : ρ.ev x = .pointer (some ⟨b, o, none⟩)) (hc : Cells w b L) (a : At (kPtr T1 kd) g i r L o) (k : ∀ b', Ob T1 kd g i b' r → K (.pointer (some ⟨b', 0, none⟩)) w) : stp P ⟨d, .load T x, T', ps, af, gd⟩ ρ w K := by
  obtain ⟨b', e, h⟩ := a.ptr
  exact s_ld1 ht hx hc e (k b' h)
/-! ### Stores by kinds -/
theorem s_stK {a : Bool} {T1 : TypeId} {cs : List Value} (I : Inv M Z g0 g) (ht : tinf P T = some (a, s, by_)) (hx : ρ.ev x = .pointer (some ⟨b, o, none⟩)) (hy : cv (ρ.ev y) = cs) (hr : kd.M g i r cs) (hs : kd.sz = s) (hb : Blk g b c T1 L) (hl : Nat.ble (o + s) L.length = true) (hc0 : c ≠ 0) (hi : ∀ k, k < kd.nc → ¬ at_ c (i + k)) (hM : M c)
    (k : ∀ h L', Stp (at_ c) g h → Inv M Z g0 h → Blk h b c T1 L' → Upd L L' o s → At kd h i r L' o → K undef h.w) : stp P ⟨d, .store T x y, T2, ps, af, gd⟩ ρ g.w K := by
  subst hs
  have hlen := kd.len hr
  have hl' := Nat.le_of_ble_eq_true hl
  refine s_st I ht hx hy (kd.one hr) hlen hb hl' hM fun h s I hb' => k h _ s I hb' ?_ ?_
  · have := Upd.spl (L := L) (seg := cs) (a := o) (by omega); rwa [hlen] at this
  · exact At.put (kd.up s (fun e => hc0 e.symm) hi hr) (by omega)
end
/-! ### More of the walk's small change -/
theorem beq_ {e x c : Bool} (h : e = x) : (e == c) = (x == c) := by rw [h]
theorem not_t {b : Bool} (h : b = false) : (!b) = true := by rw [h]; rfl
theorem not_f {b : Bool} (h : b = true) : (!b) = false := by rw [h]; rfl
theorem nc0 {n : Nat} {p : Nat → Prop} : ∀ k, k < 0 → ¬ p (n + k) := fun _ h => absurd h (Nat.not_lt_zero _)
theorem nov {n i : Nat} : ∀ k, k < n → ¬ no (i + k) := fun _ _ h => h
theorem ble_ {a n m : Nat} (h : n = m) (h2 : Nat.ble a m = true) : Nat.ble a n = true := by rw [h]; exact h2
theorem out_ {α σ : Type} {x : Option α} {o : σ ⊕ α} {r : α} (h : x.map Sum.inr = some o) (hr : ∀ r', o = .inr r' → r' = r) : x = some r := by
  cases x with
  | none => cases h
  | some a => rw [hr a (Option.some.inj h).symm]
theorem Stp.rc1 (g : GW) (a d : Nat) : Stp (at_ a) g (g.rc a (a + 1) d) := (Stp.rc g a (a + 1) d).mono fun c h => by have := h.1; have := h.2; show c = a; omega
theorem EWL.wld {P : Program} {ops : Array Oper} {K : Env → World → Prop} {l : List Oper} {ρ : Env} {w w' : World} (e : w' = w) (h : EWL P ops K l ρ w) : EWL P ops K l ρ w' := e ▸ h
section
variable {Z : Nat → Prop} {a b c i p n : Nat}
theorem lent_ (h : c = 0 ∨ b ≤ c) (h2 : Nat.ble a b = true) : c = 0 ∨ a ≤ c := h.imp id (Nat.le_trans (Nat.le_of_ble_eq_true h2))
theorem at_hc (h : c = 0 ∨ b ≤ c) (h1 : Nat.blt 0 p = true) (h2 : Nat.blt p b = true) : ¬ at_ p c := fun e => by
  simp [Nat.blt] at h1 h2
  have e : c = p := e
  omega
theorem iv_z (hZ : ∀ c, Z c → c = 0 ∨ b ≤ c) (h0 : Nat.blt 0 a = true) (h : Z c) : ¬ iv a b c := fun x => by
  have h1 := x.1; have h2 := x.2
  simp [Nat.blt] at h0
  rcases hZ c h with h | h <;> omega
end
theorem allc {α : Type} {g : GW} {i : Nat} {x : α} {f : Fd α} {r : List (Fd α)} {s : List Value} {ss : List (List Value)} (h : f.M g i x s) (k : AllM g i x r ss) : AllM g i x (f :: r) (s :: ss) := ⟨h, k⟩
theorem alln {α : Type} {g : GW} {i : Nat} {x : α} : AllM g i x ([] : List (Fd α)) [] := trivial
theorem alls {α : Type} {d : Kd α} {g : GW} {x : α} {r : List α} {s : List Value} {ss : List (List Value)} (h : d.M g 0 x s) (k : AllS d g r ss) : AllS d g (x :: r) (s :: ss) := ⟨h, k⟩
theorem alle {α : Type} {d : Kd α} {g : GW} : AllS d g ([] : List α) [] := trivial
theorem kl {α : Type} {d : Kd α} {g : GW} {i : Nat} {r : α} {cs : List Value} (h : d.M g i r cs) : cs.length = d.sz := d.len h
def fokL (ρ : Env) (lens : List Nat) : List (Nat × Operand) → Prop
  | [] => True
  | (i, x) :: r => lens[i]? = some (cv (ρ.ev x)).length ∧ fokL ρ lens r
theorem fok_of {ρ : Env} {zs : List (List Value)} {lens : List Nat} (h : zs.map List.length = lens) : ∀ ps, fokL ρ lens ps → fok ρ zs ps
  | [], _ => trivial
  | (i, x) :: r, ⟨h1, h2⟩ => by
    refine ⟨?_, fok_of h r h2⟩
    subst h
    rw [List.getElem?_map] at h1
    cases hz : zs[i]? with
    | none => rw [hz] at h1; cases h1
    | some z =>
      obtain ⟨hi, rfl⟩ := List.getElem?_eq_some_iff.1 hz
      rw [hz] at h1
      exact ⟨hi, by simpa using h1⟩
section
variable {P : Program} {ρ : Env} {w : World} {g g0 : GW} {K : Value → World → Prop} {d : Option Nat} {T T' T2 : TypeId} {ps : String} {af : Array Edge} {gd : Option (Nat × Bool)} {x y z : Operand} {b o s by_ i : Nat} {L seg : List Value} {v : Value} {M Z m : Nat → Prop} {c : Nat} {α : Type} {kd : Kd α} {xs : List α} {r : α}
theorem s_pT {b : Bool} (hc : ρ.ev x = .bool b) (h : b = true) (k : K (ρ.ev y) w) : stp P ⟨d, .pick x y z, T, ps, af, gd⟩ ρ w K := by subst h; exact s_pick1 hc k
theorem s_pF {b : Bool} (hc : ρ.ev x = .bool b) (h : b = false) (k : K (ρ.ev z) w) : stp P ⟨d, .pick x y z, T, ps, af, gd⟩ ρ w K := by subst h; exact s_pick0 hc k
theorem s_bldK {t : TypeId} {parts : Array (Nat × Operand)} {lens : List Nat} (zs : List (List Value)) (hz : tzero P t = some zs.flatten) (hl : zs.map List.length = lens) (hp : tpl P t = some (plz zs)) (hf : fokL ρ lens parts.toList) (hm : kd.M g 0 r (fset ρ zs parts.toList).flatten) (k : ∀ cs : List Value, kd.M g 0 r cs → K (.agg cs.toArray) w) :
    stp P ⟨d, .build t parts, T', ps, af, gd⟩ ρ w K := s_bld zs hz hp (fok_of hl _ hf) (k _ hm)
theorem s_bslK {t e n q m : _} {a : Bool} {zc : List Value} {parts : Array (Nat × Operand)} (c : Nat) (I : Inv M Z g0 g) (h1 : tsl P t = some e) (h2 : tinf P e = some (a, n, q)) (hz : tzero P e = some zc) (hzl : zc.length = n) (hm : m = xs.length) (hm2 : m * n ≤ 16777216) (hn : kd.sz = n) (hpos : 0 < n)
    (hf : fokL ρ (List.replicate m n) parts.toList) (hs : Seg kd g xs (fset ρ (List.replicate m zc) parts.toList).flatten) (hnc : kd.nc = 0) (hlc : Z c)
    (k : ∀ h v, Stp no g h → Inv M Z g0 h → Row e kd h c xs v → K v h.w) : stp P ⟨d, .buildSlice t m parts, T', ps, af, gd⟩ ρ g.w K :=
  s_bsl c I h1 h2 hz hzl hm hm2 hn hpos (fok_of (by simp [hzl]) _ hf) hs hnc hlc k
/-- An element's place, to read. -/
theorem s_idxS {t e n q : _} {a : Bool} {k' : IntKind} {i : Int} {r : α} (h1 : tsl P t = some e) (h2 : tinf P e = some (a, n, q)) (hn : kd.sz = n) (hr : Sl kd g c xs (ρ.ev x)) (hy : ρ.ev y = .int k' i) (hi : ix xs i = some r)
    (k : ∀ b o L, Imm g b c L → At kd g 0 r L o → K (.pointer (some ⟨b, o, none⟩)) w) : stp P ⟨d, .indexAddr t x y, T', ps, af, gd⟩ ρ w K := by
  subst hn
  obtain ⟨h0, hl, rfl⟩ := ix_some hi
  obtain ⟨a, c, hv, _, h3⟩ := hr
  rcases h3 with rfl | ⟨b, o, L, rfl, hc, hL, hs⟩
  · simp at hl
  · exact s_ia h1 h2 hv hy h0 (by omega) (k _ _ _ hc (hs.elt (Nat.le_refl _) _ hl))
theorem s_boxK {cs : List Value} (c : Nat) (I : Inv M Z g0 g) (hc : Z c) (hm : kd.M g 0 r cs) (hx : cv (ρ.ev x) = cs) (hnc : kd.nc = 0) (k : ∀ h b, Stp no g h → Inv M Z g0 h → Blk h b c T cs → cs.length = kd.sz → At kd h 0 r cs 0 → K (.pointer (some ⟨b, 0, none⟩)) h.w) : stp P ⟨d, .box T x, T', ps, af, gd⟩ ρ g.w K :=
  s_box c I hc hx fun h b s I hb => k h b s I hb (kl hm) (At.whole (Kd.upK hnc s no_ hm))
theorem s_newK (kd : Kd α) (c : Nat) (I : Inv M Z g0 g) (hc : Z c) (hz : tzero P T = some kd.zc) (hok : kd.zok = true) (k : ∀ h b L, Stp no g h → Inv M Z g0 h → Blk h b c T L → L.length = kd.sz → At kd h 0 kd.z L 0 → K (.pointer (some ⟨b, 0, none⟩)) h.w) : stp P ⟨d, .alloc T, T', ps, af, gd⟩ ρ g.w K :=
  s_new c I hc hz fun h b s I hb => k h b _ s I hb (kl (kd.zk hok (g := h) (i := 0))) (At.whole (kd.zk hok))
theorem At.alen {n : Nat} {d : Kd α} {h0 : d.nc = 0} {x : List α} (k : At (kArr n d h0) g i x L o) : x.length = n := k.1
theorem At.nlen {n : Nat} {k' : IntKind} {x : List Int} (k : At (kNums k' n) g i x L o) : x.length = n := k.1
theorem ixA {n : Nat} {i : Int} (hl : xs.length = n) (h : ix xs i = some r) : 0 ≤ i ∧ (i.toNat < xs.length) ∧ i < n := by
  obtain ⟨h0, h1, _⟩ := ix_some h
  exact ⟨h0, h1, by omega⟩
end
end Go.Tl
