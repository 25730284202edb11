/- Functions' beginnings and ends; values built; slices of slices; orders drawn. -/
import Derived.Test.YtdbfbeckhccchaaRE
namespace Go.Tl
open Go
set_option linter.unusedVariables false
set_option linter.unusedSimpArgs false

/-! ### Beginning and end of a function -/
def argE (l : List Value) : Env := fun j => l.getD j undef
def resE (rs : Array ResultVar) (ρ : Env) : Sem Value := do
  let vs ← rs.mapM fun
    | .tmp t => pure (ρ t)
    | .cell a t => do loadVar t (← asAddr (ρ a))
  pure (if h : vs.size = 1 then vs[0] else .tuple vs)
def okR (n : Nat) : ResultVar → Bool
  | .tmp t => t < n
  | .cell a _ => a < n
/-- What a call hands back. -/
def Ends (P : Program) (rs : Array ResultVar) (R : Value → World → Prop) : Post := fun e ρ w => (e = .ret ∨ e = .normal) ∧ ∃ v, (resE rs ρ).run P w = .ok v w ∧ R v w
def Rets (R : Value → World → Prop) : Ending → World → Prop := fun e w => ∃ v, e = .returned v ∧ R v w
theorem list_mapM_congr {α β : Type} {f g : α → Sem β} : ∀ (l : List α), (∀ a ∈ l, f a = g a) → l.mapM f = l.mapM g
  | [], _ => rfl
  | a :: l, h => by rw [List.mapM_cons, List.mapM_cons, h a (by simp), list_mapM_congr l (fun a ha => h a (by simp [ha]))]
theorem calls_of {P : Program} {f : FuncId} {fn : Func} {c : Code} {args : List Value} {w : World} {R : Value → World → Prop}
    (hf : P.funcs[f]? = some fn) (hb : fn.body = some c) (hn : args.length ≤ fn.ntmps) (hr : fn.results.all (okR fn.ntmps) = true)
    (h : EW P fn.ntmps c (Ends P fn.results R) (argE args) w) : Calls P f args.toArray w (Rets R) := by
  refine calls_of_wp hf hb ?_
  have hs : Sees fn.ntmps (argE args) { tmps := args.toArray ++ Array.replicate (fn.ntmps - args.toArray.size) undef, defers := [] } := by
    refine ⟨by simp; omega, fun j hj => ?_, rfl⟩
    simp only [argE, Array.getD_eq_getD_getElem?, List.getD_eq_getElem?_getD, Array.getElem?_append, List.size_toArray, List.getElem?_toArray]
    split
    · rfl
    · rename_i hh
      rw [List.getElem?_eq_none (by omega), Array.getElem?_replicate]
      split <;> rfl
  refine Go.wp_mono (h _ hs) ?_
  rintro e a w ⟨ρ, ha, he, v, hv, hR⟩
  have hres : results fn a.tmps = resE fn.results ρ := by
    unfold results resE
    congr 1
    rw [Array.mapM_eq_mapM_toList, Array.mapM_eq_mapM_toList]
    congr 1
    refine list_mapM_congr _ fun x hx => ?_
    have hok := (Array.all_eq_true_iff_forall_mem.1 hr) x (Array.mem_toList_iff.1 hx)
    cases x with
    | tmp t =>
      have : t < fn.ntmps := by simpa [okR] using hok
      simp only [ha.rd t this]
    | cell q t =>
      have : q < fn.ntmps := by simpa [okR] using hok
      simp only [ha.rd q this]
  rcases he with rfl | rfl
  · exact ⟨ha.df, v, by rw [hres]; exact hv, v, rfl, hR⟩
  · exact ⟨ha.df, v, by rw [hres]; exact hv, v, rfl, hR⟩
section
variable {P : Program} {ρ : Env} {w : World} {R : Value → World → Prop}
theorem ends0 {e : Exit} (he : e = .ret ∨ e = .normal) (h : R (.tuple #[]) w) : Ends P #[] R e ρ w := ⟨he, _, by simp [resE], h⟩
theorem ends1 {a : Nat} {e : Exit} (he : e = .ret ∨ e = .normal) (h : R (ρ a) w) : Ends P #[.tmp a] R e ρ w := ⟨he, _, by simp [resE], h⟩
theorem ends2 {a b : Nat} {e : Exit} (he : e = .ret ∨ e = .normal) (h : R (.tuple #[ρ a, ρ b]) w) : Ends P #[.tmp a, .tmp b] R e ρ w := ⟨he, _, by simp [resE], h⟩
theorem ends3 {a b c : Nat} {e : Exit} (he : e = .ret ∨ e = .normal) (h : R (.tuple #[ρ a, ρ b, ρ c]) w) : Ends P #[.tmp a, .tmp b, .tmp c] R e ρ w := ⟨he, _, by simp [resE], h⟩
theorem run_lvA {T : TypeId} {s by_ b o : Nat} {L : List Value} (ht : tinf P T = some (true, s, by_)) (hc : Cells w b L) (hl : o + s ≤ L.length) : (loadVar T ⟨b, o, none⟩).run P w = .ok (.agg ((L.drop o).take s).toArray) w := by
  have := run_ldA ht hc hl
  simpa [Instr.loadAt, Instr.sureAddr] using this
theorem run_lv1 {T : TypeId} {s by_ b o : Nat} {L : List Value} {v : Value} (ht : tinf P T = some (false, s, by_)) (hc : Cells w b L) (hv : L[o]? = some v) : (loadVar T ⟨b, o, none⟩).run P w = .ok v w := by
  have := run_ld1 ht ((hc.cell o).trans hv)
  simpa [Instr.loadAt, Instr.sureAddr] using this
/-- One result, that lies in a variable. -/
theorem endsC {a : Nat} {e : Exit} {T : TypeId} {ad : Addr} {v : Value} (he : e = .ret ∨ e = .normal) (hp : ρ a = .pointer (some ad)) (hv : (loadVar T ad).run P w = .ok v w) (h : R v w) : Ends P #[.cell a T] R e ρ w :=
  ⟨he, v, by simp [resE, hp, asAddr, hv], h⟩
theorem endsCt {a b : Nat} {e : Exit} {T : TypeId} {ad : Addr} {v : Value} (he : e = .ret ∨ e = .normal) (hp : ρ a = .pointer (some ad)) (hv : (loadVar T ad).run P w = .ok v w) (h : R (.tuple #[v, ρ b]) w) : Ends P #[.cell a T, .tmp b] R e ρ w :=
  ⟨he, _, by simp [resE, hp, asAddr, hv], h⟩
theorem endsCtt {a b c : Nat} {e : Exit} {T : TypeId} {ad : Addr} {v : Value} (he : e = .ret ∨ e = .normal) (hp : ρ a = .pointer (some ad)) (hv : (loadVar T ad).run P w = .ok v w) (h : R (.tuple #[v, ρ b, ρ c]) w) : Ends P #[.cell a T, .tmp b, .tmp c] R e ρ w :=
  ⟨he, _, by simp [resE, hp, asAddr, hv], h⟩
theorem endsCCt {a b c : Nat} {e : Exit} {T T' : TypeId} {ad ad' : Addr} {v v' : Value} (he : e = .ret ∨ e = .normal) (hp : ρ a = .pointer (some ad)) (hv : (loadVar T ad).run P w = .ok v w) (hp' : ρ b = .pointer (some ad')) (hv' : (loadVar T' ad').run P w = .ok v' w) (h : R (.tuple #[v, v', ρ c]) w) : Ends P #[.cell a T, .cell b T', .tmp c] R e ρ w :=
  ⟨he, _, by simp [resE, hp, asAddr, hv, hp', hv'], h⟩
theorem endsTCt {a b c : Nat} {e : Exit} {T' : TypeId} {ad' : Addr} {v' : Value} (he : e = .ret ∨ e = .normal) (hp' : ρ b = .pointer (some ad')) (hv' : (loadVar T' ad').run P w = .ok v' w) (h : R (.tuple #[ρ a, v', ρ c]) w) : Ends P #[.tmp a, .cell b T', .tmp c] R e ρ w :=
  ⟨he, _, by simp [resE, asAddr, hp', hv'], h⟩
theorem endsTC {a b : Nat} {e : Exit} {T' : TypeId} {ad' : Addr} {v' : Value} (he : e = .ret ∨ e = .normal) (hp' : ρ b = .pointer (some ad')) (hv' : (loadVar T' ad').run P w = .ok v' w) (h : R (.tuple #[ρ a, v']) w) : Ends P #[.tmp a, .cell b T'] R e ρ w :=
  ⟨he, _, by simp [resE, asAddr, hp', hv'], h⟩
end

/-! ### Parts laid into cells -/
theorem fill_seg (off : Nat) : ∀ (vs : List Value) (k : Nat) (cells : Array Value), off + k + vs.length ≤ cells.size →
    (vs.zipIdx k).foldl (fun cs (x : Value × Nat) => cs.setIfInBounds (off + x.2) x.1) cells = (spl cells.toList (off + k) vs).toArray
  | [], k, cells, h => by apply Array.ext'; simp [spl]
  | v :: vs, k, cells, h => by
    simp at h
    rw [List.zipIdx_cons, List.foldl_cons, fill_seg off vs (k + 1) _ (by simp; omega)]
    congr 1
    apply List.ext_getElem?
    intro q
    rw [spl_get _ _ _ _ (by simp; omega), spl_get _ _ _ _ (by simp; omega)]
    simp only [Array.toList_setIfInBounds, List.length_cons]
    by_cases h1 : off + k = q
    · subst h1
      rw [if_neg (by omega), if_pos (by omega), List.getElem?_set_self (by simp; omega), Nat.sub_self]; rfl
    · by_cases h2 : off + (k + 1) ≤ q ∧ q < off + (k + 1) + vs.length
      · rw [if_pos h2, if_pos (by omega), show q - (off + k) = q - (off + (k + 1)) + 1 by omega]; simp
      · rw [if_neg h2, if_neg (by omega), List.getElem?_set_ne h1]
theorem foldl_zipIdx (off : Nat) (v : Value) (cells : Array Value) (h : off + (cv v).length ≤ cells.size) :
    v.cells.zipIdx.foldl (fun cs (x : Value × Nat) => cs.setIfInBounds (off + x.2) x.1) cells = (spl cells.toList off (cv v)).toArray := by
  have := fill_seg off (cv v) 0 cells (by simpa using h)
  rw [← Array.foldl_toList]
  simpa [cv] using this
/-- Offsets one behind the other. -/
def tot : List (List Value) → Nat
  | [] => 0
  | z :: r => z.length + tot r
theorem tot_flatten : ∀ zs : List (List Value), zs.flatten.length = tot zs
  | [] => rfl
  | z :: r => by simp [tot, tot_flatten r]
def ofs : List (List Value) → Nat → Nat
  | z :: r, i + 1 => z.length + ofs r i
  | _, _ => 0
theorem spl_flatten : ∀ (zs : List (List Value)) (i : Nat) (seg : List Value), (h : i < zs.length) → zs[i].length = seg.length → ofs zs i + seg.length ≤ zs.flatten.length ∧ spl zs.flatten (ofs zs i) seg = (zs.set i seg).flatten
  | z :: r, 0, seg, h, hl => by
    simp at hl
    refine ⟨by simp [ofs]; omega, ?_⟩
    simp [ofs, spl, ← hl]
  | z :: r, i + 1, seg, h, hl => by
    obtain ⟨h1, h2⟩ := spl_flatten r i seg (by simpa using h) (by simpa using hl)
    refine ⟨by simp [ofs] at h1 ⊢; omega, ?_⟩
    simp only [List.set_cons_succ, List.flatten_cons, ← h2, ofs, spl]
    rw [List.take_append, List.take_of_length_le (by omega), List.drop_append, List.drop_eq_nil_of_le (by omega)]
    simp [Nat.add_sub_cancel_left, Nat.add_assoc]
def fset (ρ : Env) (zs : List (List Value)) : List (Nat × Operand) → List (List Value)
  | [] => zs
  | (i, x) :: r => fset ρ (zs.set i (cv (ρ.ev x))) r
def fok (ρ : Env) (zs : List (List Value)) : List (Nat × Operand) → Prop
  | [] => True
  | (i, x) :: r => (∃ h : i < zs.length, zs[i].length = (cv (ρ.ev x)).length) ∧ fok ρ zs r
theorem ofs_congr : ∀ (zs zs' : List (List Value)), zs.map List.length = zs'.map List.length → ∀ i, ofs zs i = ofs zs' i
  | [], [], _, _ => rfl
  | z :: r, z' :: r', h, 0 => rfl
  | z :: r, z' :: r', h, i + 1 => by simp at h; simp [ofs, h.1, ofs_congr r r' h.2 i]
theorem fok_congr {ρ : Env} {zs zs' : List (List Value)} (h : zs.map List.length = zs'.map List.length) : ∀ ps, fok ρ zs ps → fok ρ zs' ps
  | [], _ => trivial
  | (i, x) :: r, ⟨⟨hi, hl⟩, hr⟩ => by
    refine ⟨?_, fok_congr h r hr⟩
    have e := congrArg (·[i]?) h
    simp only [List.getElem?_map] at e
    have hi' : i < zs'.length := by have := congrArg List.length h; simp at this; omega
    refine ⟨hi', ?_⟩
    rw [List.getElem?_eq_getElem hi, List.getElem?_eq_getElem hi'] at e
    simp at e
    omega
theorem run_fill {ρ : Env} {place : Nat → Option (Nat × Nat)} (zs0 : List (List Value)) (hpl : ∀ i, i < zs0.length → place i = some (ofs zs0 i, (zs0.getD i []).length)) :
    ∀ (ps : List (Nat × Operand)) (zs : List (List Value)), zs.map List.length = zs0.map List.length → fok ρ zs0 ps →
    Instr.fill place zs.flatten.toArray (ps.map fun (x : Nat × Operand) => (x.1, ρ.ev x.2)) = some (fset ρ zs ps).flatten.toArray
  | [], zs, _, _ => rfl
  | (i, x) :: r, zs, hz, ⟨⟨hi, hl⟩, hr⟩ => by
    have hi' : i < zs.length := by have := congrArg List.length hz; simp at this; omega
    have hli : zs[i].length = (cv (ρ.ev x)).length := by
      have e := congrArg (·[i]?) hz
      simp only [List.getElem?_map, List.getElem?_eq_getElem hi, List.getElem?_eq_getElem hi'] at e
      simp at e; omega
    have hsp := spl_flatten zs i (cv (ρ.ev x)) hi' hli
    have hof := ofs_congr zs zs0 hz i
    have hsz : (ρ.ev x).cells.size = (cv (ρ.ev x)).length := by simp [cv]
    have hg : (zs0.getD i []).length = (cv (ρ.ev x)).length := by simp [List.getD, List.getElem?_eq_getElem hi]; omega
    simp only [List.map_cons, Instr.fill, hpl i hi]
    have h9 := hsp.1
    rw [hof, ← hsz] at h9
    rw [if_neg (fun hh => by
      rw [Bool.or_eq_true, decide_eq_true_eq, decide_eq_true_eq] at hh
      rcases hh with hh | hh
      · exact hh (hsz.trans hg.symm)
      · exact Nat.not_lt.2 h9 hh)]
    rw [foldl_zipIdx _ _ _ (by rw [← hof]; simpa using hsp.1), ← hof]
    have e2 : (zs.flatten.toArray).toList = zs.flatten := rfl
    rw [e2, hsp.2]
    refine run_fill zs0 hpl r _ ?_ hr
    rw [← hz]
    apply List.ext_getElem?
    intro q
    simp only [List.getElem?_map, List.getElem?_set]
    by_cases e : i = q
    · subst e; rw [if_pos rfl, if_pos hi', List.getElem?_eq_getElem hi']; simp [hli]
    · rw [if_neg e]
/-- Where the parts of a type lie. -/
def tpl (P : Program) (t : TypeId) : Option (List (Nat × Nat)) :=
  match P.underlying t with
  | some (.struct fs) => if fs.all (fun f => (tinf P f.type).isSome) then some (fs.toList.map fun f => (f.offset, ((tinf P f.type).getD (true, 0, 0)).2.1)) else none
  | some (.array n e) => match tinf P e with
    | some (_, s, _) => some ((List.range n).map fun i => (i * s, s))
    | none => none
  | _ => none
def plz (zs : List (List Value)) : List (Nat × Nat) := (List.range zs.length).map fun i => (ofs zs i, (zs.getD i []).length)
theorem ofs_same : ∀ (zs : List (List Value)) (s : Nat), (∀ z ∈ zs, z.length = s) → ∀ i, i ≤ zs.length → ofs zs i = i * s
  | [], s, _, i, h => by simp at h; subst h; simp [ofs]
  | z :: r, s, h, 0, _ => by simp [ofs]
  | z :: r, s, h, i + 1, hi => by simp [ofs, ofs_same r s (fun z hz => h z (by simp [hz])) i (by simpa using hi), h z (by simp), Nat.succ_mul, Nat.add_comm]
section
variable {P : Program} {ρ : Env} {w : World} {g g0 : GW} {K : Value → World → Prop} {d : Option Nat} {T T' T2 : TypeId} {ps : String} {af : Array Edge} {gd : Option (Nat × Bool)} {x y z : Operand} {b o s by_ : Nat} {L seg : List Value} {v : Value} {M Z : Nat → Prop} {c : Nat} {α : Type} {kd : Kd α} {xs ys : List α}
theorem run_places : ∀ (l : List Field), (l.all fun f => (tinf P f.type).isSome) = true → (l.mapM (fun f => do pure (f.offset, ← sizeOf f.type) : Field → Sem (Nat × Nat))).run P w = .ok (l.map fun f => (f.offset, ((tinf P f.type).getD (true, 0, 0)).2.1)) w
  | [], _ => rfl
  | f :: l, h => by
    simp only [List.all_cons, Bool.and_eq_true] at h
    obtain ⟨⟨a, n, q⟩, ht⟩ := Option.isSome_iff_exists.1 h.1
    rw [List.mapM_cons]
    have ih := run_places l h.2
    simp only [Sem.run_bind, run_size ht, Result.andThen_ok, Sem.run_pure, ih, List.map_cons, ht, Option.getD_some]
theorem s_bld {t : TypeId} {parts : Array (Nat × Operand)} (zs : List (List Value)) (hz : tzero P t = some zs.flatten) (hp : tpl P t = some (plz zs)) (hf : fok ρ zs parts.toList) (k : K (.agg (fset ρ zs parts.toList).flatten.toArray) w) :
    stp P ⟨d, .build t parts, T', ps, af, gd⟩ ρ w K := by
  refine stp_run ?_ k
  obtain ⟨zv, h1, h2⟩ := tzero_run hz w
  have h3 : zv.cells = zs.flatten.toArray := by rw [← h2]
  have hpl : ∀ (l : List (Nat × Nat)), l = plz zs → ∀ i, i < zs.length → l[i]? = some (ofs zs i, (zs.getD i []).length) := by
    rintro _ rfl i hi; simp [plz, hi]
  have hm : (parts.map (fun (x : Nat × Operand) => (x.1, ρ.ev x.2))).toList = parts.toList.map (fun (x : Nat × Operand) => (x.1, ρ.ev x.2)) := by simp
  simp only [execOp, Instr.build, Sem.run_bind, h1, Result.andThen_ok]
  unfold tpl at hp
  split at hp
  · rename_i fs hu
    split at hp
    · rename_i hall
      injection hp with hp
      have hpl' := run_places (P := P) (w := w) fs.toList (by simpa using hall)
      have hrun := run_fill (ρ := ρ) (place := fun i => ((fs.toList.map fun f => (f.offset, ((tinf P f.type).getD (true, 0, 0)).2.1)).toArray)[i]?) zs (fun i hi => by simpa using hpl _ hp i hi) parts.toList zs rfl hf
      simp only [run_und hu, Result.andThen_ok, Array.mapM_eq_mapM_toList, Sem.run_bind, Sem.run_map, hpl', h3]
      rw [hm, hrun]
      rfl
    · cases hp
  · rename_i n e hu
    split at hp
    · rename_i a s q ht
      injection hp with hp
      have hn : n = zs.length := by have := congrArg List.length hp; simpa [plz] using this
      have hrun := run_fill (ρ := ρ) (place := fun i => some (i * s, s)) zs (fun i hi => by
        have := hpl _ hp i hi
        rw [List.getElem?_map, List.getElem?_range (by omega)] at this
        simpa using this) parts.toList zs rfl hf
      simp only [run_und hu, Result.andThen_ok, run_size ht, Sem.run_bind, h3]
      rw [hm, hrun]
      rfl
    · cases hp
  · cases hp
/-- A slice of given elements. -/
theorem s_bsl {t e n q m : _} {a : Bool} {zc : List Value} {parts : Array (Nat × Operand)} (c : Nat) (I : Inv M Z g0 g) (h1 : tsl P t = some e) (h2 : tinf P e = some (a, n, q)) (hz : tzero P e = some zc) (hzl : zc.length = n) (hm : m = xs.length) (hm2 : m * n ≤ 16777216) (hn : kd.sz = n) (hpos : 0 < n)
    (hf : fok ρ (List.replicate m zc) parts.toList) (hs : Seg kd g xs (fset ρ (List.replicate m zc) parts.toList).flatten) (hnc : kd.nc = 0) (hlc : Z c)
    (k : ∀ h v, Stp no g h → Inv M Z g0 h → Row e kd h c xs v → K v h.w) : stp P ⟨d, .buildSlice t m parts, T', ps, af, gd⟩ ρ g.w K := by
  subst hm
  obtain ⟨zv, hzv, hzc⟩ := tzero_run hz g.w
  have hcz : zv.cells = zc.toArray := by rw [← hzc]
  have hrun := run_fill (ρ := ρ) (place := fun i => some (i * n, n)) (List.replicate xs.length zc) (fun i hi => by
    simp at hi
    rw [ofs_same _ n (fun z hz => by simp at hz; rw [hz.2, hzl]) i (by simp; omega)]
    simp [List.getD, hi, hzl]) parts.toList _ rfl hf
  have hobj : ((Array.range (xs.length * n)).map (fun i => zc.toArray[i % zc.toArray.size]!)) = ((List.replicate xs.length zc).flatten).toArray := by
    have := flat_zero zc xs.length (by omega)
    rw [hzl] at this
    rw [← this]
  have hm' : (parts.map (fun (x : Nat × Operand) => (x.1, ρ.ev x.2))).toList = parts.toList.map (fun (x : Nat × Operand) => (x.1, ρ.ev x.2)) := by simp
  refine stp_run (v := .slice (some ⟨g.n, 0, none⟩) xs.length xs.length) (w' := (g.al (.cells ((fset ρ (List.replicate xs.length zc) parts.toList).flatten).toArray e (0, 0)) c).w) ?_ (k _ _ (Stp.al g _ c) ⟨I.s.then (Stp.al g _ c) (fun c h => h.elim), I.l.al _ hlc⟩ ?_)
  · simp only [execOp, Instr.buildSlice, Sem.run_bind, run_und (tsl_und h1), Result.andThen_ok, run_size h2]
    rw [if_neg (by omega)]
    by_cases h0 : xs.length * n = 0
    · have hx0 : xs.length = 0 := by
        rcases Nat.mul_eq_zero.1 h0 with h | h
        · exact h
        · omega
      rw [if_pos h0, h0]
      rw [hx0] at hrun
      have e0 : Array.map (fun i => (#[] : Array Value)[i % (#[] : Array Value).size]!) (Array.range 0) = ((List.replicate 0 zc).flatten).toArray := by apply Array.ext'; simp
      simp only [Sem.run_pure, Result.andThen_ok, Sem.run_bind, e0, hm', hrun, newRow, run_newObj]
      rw [hx0]
      rfl
    · rw [if_neg h0]
      simp only [Sem.run_bind, hzv, Result.andThen_ok, Sem.run_pure, hcz, hobj, hm', hrun, newRow, run_newObj]
      rfl
  · have hseg := hs.up hnc (Stp.al g (.cells ((fset ρ (List.replicate xs.length zc) parts.toList).flatten).toArray e (0, 0)) c) (fun h => h)
    refine Row.mk_ (Blk.al g e _ c) (Nat.le_refl _) ?_ (by rw [hseg.1]) ?_
    · have : xs.length ≤ xs.length * n := Nat.le_mul_of_pos_right _ hpos
      unfold maxLen; omega
    · rw [List.take_of_length_le (by rw [hseg.1]; exact Nat.le_refl _)]; exact hseg
end
/-- A struct's cells out of its fields' cells. -/
def AllM {α : Type} (g : GW) (i : Nat) (x : α) : List (Fd α) → List (List Value) → Prop
  | [], [] => True
  | f :: r, s :: ss => f.M g i x s ∧ AllM g i x r ss
  | _, _ => False
theorem AllM.len {α : Type} {g : GW} {i : Nat} {x : α} : ∀ {fs : List (Fd α)} {ss : List (List Value)}, AllM g i x fs ss → ∀ {n nc s c}, tiles n nc s c fs = true → ss.flatten.length = n - s ∧ ∀ f ∈ fs, f.M g i x ((ss.flatten.drop (f.off - s)).take f.sz)
  | [], [], _, n, nc, s, c, h => by simp [tiles] at h; exact ⟨by simp; omega, by simp⟩
  | f :: r, s1 :: ss, ⟨h1, h2⟩, n, nc, s, c, h => by
    have hle := tiles_le h
    simp only [tiles, Bool.and_eq_true, beq_iff_eq] at h
    obtain ⟨h3, h4⟩ := h2.len h.2
    have hle2 := tiles_le h.2
    have hl := f.len h1
    refine ⟨by simp only [List.flatten_cons, List.length_append, h3]; omega, fun f' hf' => ?_⟩
    rcases List.mem_cons.1 hf' with rfl | hf'
    · rw [show f'.off - s = 0 by omega]
      simp only [List.flatten_cons, List.drop_zero]
      rw [← hl, List.take_left]; exact h1
    · have h5 := hle2.2.2 f' hf'
      simp only [List.flatten_cons]
      rw [List.drop_append, List.drop_eq_nil_of_le (by omega), List.nil_append, show f'.off - s - s1.length = f'.off - (s + f.sz) by omega]
      exact h4 f' hf'
theorem SM.flat {α : Type} {g : GW} {i n nc : Nat} {x : α} {fs : List (Fd α)} {ss : List (List Value)} (ht : tiles n nc 0 0 fs = true) (h : AllM g i x fs ss) : SM n fs g i x ss.flatten := by
  obtain ⟨h1, h2⟩ := h.len ht
  exact ⟨by omega, fun f hf => by simpa using h2 f hf⟩
def AllS {α : Type} (d : Kd α) (g : GW) : List α → List (List Value) → Prop
  | [], [] => True
  | x :: r, s :: ss => d.M g 0 x s ∧ AllS d g r ss
  | _, _ => False
theorem Seg.flat {α : Type} {d : Kd α} {g : GW} : ∀ {xs : List α} {ss : List (List Value)}, AllS d g xs ss → Seg d g xs ss.flatten
  | [], [], _ => Seg.nil
  | x :: r, s :: ss, ⟨h1, h2⟩ => (Seg.single h1).append (Seg.flat h2)

/-! ### Slices of slices -/
section
variable {P : Program} {ρ : Env} {w : World} {g g0 : GW} {K : Value → World → Prop} {d : Option Nat} {T T' T2 : TypeId} {ps : String} {af : Array Edge} {gd : Option (Nat × Bool)} {x y z : Operand} {b o s by_ : Nat} {L seg : List Value} {v : Value} {M Z : Nat → Prop} {c : Nat} {α : Type} {kd : Kd α} {xs ys : List α}
theorem slc_some {lo hi : Int} (h : slc xs lo hi = some ys) : 0 ≤ lo ∧ lo ≤ hi ∧ hi ≤ xs.length ∧ ys = (xs.take hi.toNat).drop lo.toNat := by
  unfold slc at h; split at h
  · rename_i hh; exact ⟨hh.1, hh.2.1, hh.2.2, by simpa using h.symm⟩
  · cases h
theorem Sl.cut {a : Option Addr} {n cap lo hi m : Nat} {v' : Value} (hs : Sl kd g c xs (.slice a n cap)) (h1 : lo ≤ hi) (h2 : hi ≤ xs.length) (hv' : v' = .slice (if cap = lo then a else a.map (·.add (lo * kd.sz))) (hi - lo) (cap - lo)) : Sl kd g c ((xs.take hi).drop lo) v' := by
  subst hv'
  obtain ⟨a', c', e, hc, hx⟩ := hs
  cases e
  have hlen : ((xs.take hi).drop lo).length = hi - lo := by simp; omega
  refine ⟨if cap = lo then a else a.map (·.add (lo * kd.sz)), cap - lo, by rw [hlen], by rw [hlen]; omega, ?_⟩
  by_cases h0 : hi - lo = 0
  · left; exact List.length_eq_zero_iff.1 (by rw [hlen, h0])
  · right
    rcases hx with rfl | ⟨b, o, L, rfl, hi', hl, hseg⟩
    · simp at h2; omega
    · rw [if_neg (by omega)]
      refine ⟨b, o + lo * kd.sz, L, by simp [add_at], hi', ?_, ?_⟩
      · rw [hlen, Nat.add_assoc, ← Nat.add_mul]
        have : (lo + (hi - lo)) * kd.sz ≤ xs.length * kd.sz := Nat.mul_le_mul_right _ (by omega)
        omega
      · have h5 := (hseg.take hi).drop lo
        rw [List.take_take, Nat.min_eq_left (Nat.mul_le_mul_right _ h2)] at h5
        rw [hlen]
        simp only [List.drop_take, List.drop_drop, ← Nat.sub_mul] at h5 ⊢
        exact h5
theorem Sl.size (hs : Sl kd g c xs v) : ∃ a c, v = .slice a xs.length c ∧ xs.length ≤ c := by obtain ⟨a, c, e, h, _⟩ := hs; exact ⟨a, c, e, h⟩
theorem run_sb {k : IntKind} {n : Int} {m : Nat} {cd : BoundsCode} (h0 : 0 ≤ n) (h1 : n ≤ m) : (Instr.sliceBound (.int k n) m cd).run P w = .ok n.toNat w := by
  simp only [Instr.sliceBound, asIntOf, Sem.run_bind, Sem.run_pure, Result.andThen_ok]
  rw [if_pos ⟨h0, h1⟩]; rfl
theorem s_slcLH {t e n q : _} {a : Bool} {k1 k2 : IntKind} {lo hi : Int} {oy oz : Operand} (h1 : tsl P t = some e) (h2 : tinf P e = some (a, n, q)) (hn : kd.sz = n) (hs : Sl kd g c xs (ρ.ev x)) (hy : ρ.ev oy = .int k1 lo) (hz : ρ.ev oz = .int k2 hi) (hl : slc xs lo hi = some ys)
    (k : ∀ v, Sl kd g c ys v → K v g.w) : stp P ⟨d, .slice t x (some oy) (some oz) none, T', ps, af, gd⟩ ρ g.w K := by
  subst hn
  obtain ⟨e1, e2, e3, rfl⟩ := slc_some hl
  obtain ⟨a', cap, hv, hc⟩ := hs.size
  rw [hv] at hs
  refine stp_run ?_ (k _ (hs.cut (lo := lo.toNat) (hi := hi.toNat) (by omega) (by omega) (m := 0) rfl))
  have b1 := run_sb (P := P) (w := g.w) (k := k2) (m := cap) (cd := .sliceAcap) (n := hi) (by omega) (by omega)
  have b2 := run_sb (P := P) (w := g.w) (k := k1) (m := hi.toNat) (cd := .sliceB) (n := lo) (by omega) (by omega)
  simp only [execOp, hv, hy, hz, Instr.sliceAt, Instr.slice, Sem.run_bind, run_und (tsl_und h1), Result.andThen_ok, Instr.sliceBounds, Option.map_some, Option.map_none, Sem.run_pure, if_true, b1, b2, Option.isSome_none, Bool.false_eq_true, if_false, run_size h2]
theorem s_slcL {t e n q : _} {a : Bool} {k1 : IntKind} {lo : Int} {oy : Operand} (h1 : tsl P t = some e) (h2 : tinf P e = some (a, n, q)) (hn : kd.sz = n) (hs : Sl kd g c xs (ρ.ev x)) (hy : ρ.ev oy = .int k1 lo) (hl : slc xs lo xs.length = some ys)
    (k : ∀ v, Sl kd g c ys v → K v g.w) : stp P ⟨d, .slice t x (some oy) none none, T', ps, af, gd⟩ ρ g.w K := by
  subst hn
  obtain ⟨e1, e2, e3, rfl⟩ := slc_some hl
  obtain ⟨a', cap, hv, hc⟩ := hs.size
  rw [hv] at hs
  refine stp_run ?_ (k _ (hs.cut (lo := lo.toNat) (hi := (xs.length : Int).toNat) (by omega) (by omega) (m := 0) rfl))
  have b2 := run_sb (P := P) (w := g.w) (k := k1) (m := xs.length) (cd := .sliceB) (n := lo) (by omega) (by omega)
  simp only [execOp, hv, hy, Instr.sliceAt, Instr.slice, Sem.run_bind, run_und (tsl_und h1), Result.andThen_ok, Instr.sliceBounds, Option.map_some, Option.map_none, Sem.run_pure, b2, Option.isSome_none, Bool.false_eq_true, if_false, run_size h2, Int.toNat_natCast]
theorem s_slcH {t e n q : _} {a : Bool} {k2 : IntKind} {hi : Int} {oz : Operand} (h1 : tsl P t = some e) (h2 : tinf P e = some (a, n, q)) (hn : kd.sz = n) (hs : Sl kd g c xs (ρ.ev x)) (hz : ρ.ev oz = .int k2 hi) (hl : slc xs 0 hi = some ys)
    (k : ∀ v, Sl kd g c ys v → K v g.w) : stp P ⟨d, .slice t x none (some oz) none, T', ps, af, gd⟩ ρ g.w K := by
  subst hn
  obtain ⟨e1, e2, e3, rfl⟩ := slc_some hl
  obtain ⟨a', cap, hv, hc⟩ := hs.size
  rw [hv] at hs
  refine stp_run ?_ (k _ (hs.cut (lo := 0) (hi := hi.toNat) (by omega) (by omega) (m := 0) rfl))
  have b1 := run_sb (P := P) (w := g.w) (k := k2) (m := cap) (cd := .sliceAcap) (n := hi) (by omega) (by omega)
  simp only [execOp, hv, hz, Instr.sliceAt, Instr.slice, Sem.run_bind, run_und (tsl_und h1), Result.andThen_ok, Instr.sliceBounds, Option.map_some, Option.map_none, Sem.run_pure, if_true, b1, Option.isSome_none, Bool.false_eq_true, if_false, run_size h2]
/-- A whole array as a slice; the array is never written again. -/
theorem s_slcA {t e n q m b o : _} {a : Bool} {L : List Value} (h1 : tarr P t = some (m, e)) (h2 : tinf P e = some (a, n, q)) (hn : kd.sz = n) (hx : ρ.ev x = .pointer (some ⟨b, o, none⟩)) (hb : Imm g b c L) (hl : o + m * kd.sz ≤ L.length) (hm : xs.length = m) (hs : Seg kd g xs ((L.drop o).take (m * kd.sz)))
    (k : ∀ v, Sl kd g c xs v → K v g.w) : stp P ⟨d, .slice t x none none none, T', ps, af, gd⟩ ρ g.w K := by
  subst hn
  subst hm
  refine stp_run (v := .slice (some ⟨b, o, none⟩) xs.length xs.length) ?_ (k _ ⟨_, _, rfl, Nat.le_refl _, .inr ⟨b, o, L, rfl, hb, hl, hs⟩⟩)
  simp [execOp, hx, Instr.sliceAt, run_und (tarr_und h1), Instr.sureAddr, Instr.sliceBounds, run_size h2, add_at]
end
end Go.Tl
