/- Variables of the caller's that a function gets by their pointers; rows that it gets for its own. -/
import Derived.Test.YtdbfbeckhccchaaRH
namespace Go.Tl
open Go
set_option linter.unusedVariables false
set_option linter.unusedSimpArgs false

section
variable {Z : Nat → Prop} {B B' c d a n : Nat}
theorem ne_od (h : B ≤ c) (hd : Nat.blt d B = true) : c ≠ d := by simp [Nat.blt] at hd; omega
theorem ne_ld (h : c = 0 ∨ B ≤ c) (h0 : Nat.blt 0 d = true) (hd : Nat.blt d B = true) : c ≠ d := by simp [Nat.blt] at h0 hd; omega
theorem ne_zd (hZ : ∀ c, Z c → c = 0 ∨ B ≤ c) (z : Z c) (h0 : Nat.blt 0 d = true) (hd : Nat.blt d B = true) : c ≠ d := ne_ld (hZ c z) h0 hd
theorem iv_o (h : B ≤ c) : ¬ iv a B c := fun x => by have := x.2; omega
theorem iv_l (h : c = 0 ∨ B ≤ c) (ha : Nat.blt 0 a = true) : ¬ iv a B c := fun x => by simp [Nat.blt] at ha; have := x.1; have := x.2; omega
theorem le_b (h : Nat.ble B' B = true) (h2 : B ≤ c) : B' ≤ c := Nat.le_trans (Nat.le_of_ble_eq_true h) h2
theorem lent_o (h : B ≤ c) (h2 : Nat.ble a B = true) : c = 0 ∨ a ≤ c := .inr (Nat.le_trans (Nat.le_of_ble_eq_true h2) h)
theorem iv_d (h : (Nat.ble a c && Nat.blt c (a + n)) = false) : ¬ iv a (a + n) c := fun x => by
  have h1 := x.1; have h2 := x.2
  have : (Nat.ble a c && Nat.blt c (a + n)) = true := by simp [Nat.blt]; omega
  rw [this] at h; cases h
end
/-- A variable whose data has no blocks of its own. -/
def Ob0 {α : Type} (T : TypeId) (d : Kd α) (g : GW) (i b : Nat) (x : α) : Prop := ∃ L, Blk g b i T L ∧ L.length = d.sz ∧ At d g 0 x L 0
def POb {α : Type} (T : TypeId) (d : Kd α) (i : Nat) (x : α) : GW → Value → Prop := fun h v => ∃ b, v = .pointer (some ⟨b, 0, none⟩) ∧ Ob0 T d h i b x
theorem Blk.rc {g : GW} {b c : Nat} {T : TypeId} {L : List Value} (k : Blk g b c T L) (d : Nat) : Blk (g.rc c (c + 1) d) b d T L :=
  ⟨k.1, by simp [GW.rc, k.2.1], k.2.2⟩
theorem Ob0.up {α : Type} {T : TypeId} {d : Kd α} {g h : GW} {m : Nat → Prop} {i b : Nat} {x : α} (h0 : d.nc = 0) (s : Stp m g h) (hm : ¬ m 0) (hi : ¬ m i) (k : Ob0 T d g i b x) : Ob0 T d h i b x := by
  obtain ⟨L, hb, hl, ha⟩ := k
  exact ⟨L, hb.up s hi, hl, ha.up s hm (fun k hk => by omega)⟩
theorem Upd.wide {L L' : List Value} {a a' n n' : Nat} (h : Upd L L' a' n') (h1 : a ≤ a') (h2 : a' + n' ≤ a + n) : Upd L L' a n := ⟨h.1, fun q hq => h.2 q (by omega)⟩
theorem tf_ {b : Bool} (h : b = true) (h' : b = false) : False := by rw [h] at h'; cases h'
theorem Sl.kdv {α : Type} {d : Kd α} {g : GW} {xs : List α} {v : Value} (h0 : d.nc = 0) (k : Sl d g 0 xs v) : (kSl d h0).M g 0 xs (cv v) := by
  have := Sl.kd (i := 0) h0 k
  rwa [cv_one (by obtain ⟨_, _, rfl, _⟩ := k; rfl)]
theorem mk0 {h : GW} : PTup [] h (.tuple #[]) := ⟨[], rfl, trivial⟩
theorem ptup0 {h : GW} {v : Value} (k : PTup [] h v) : v = .tuple #[] := by
  obtain ⟨vs, rfl, k⟩ := k
  match vs, k with
  | [], _ => rfl
end Go.Tl
