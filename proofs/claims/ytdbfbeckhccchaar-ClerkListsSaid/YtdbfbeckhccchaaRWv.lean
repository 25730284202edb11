/- Each Go function does what its pure function says. Written by a program of mine. -/
import Derived.Test.YtdbfbeckhccchaaRWv2
import Derived.Test.YtdbfbeckhccchaaRFn
namespace Go.Tl
open Go
set_option linter.unusedVariables false
set_option linter.unusedSimpArgs false
set_option maxRecDepth 100000
set_option maxHeartbeats 0
theorem law20uClerkLists_ok {g0 : GW} {Z : Nat → Prop} (hZ : ∀ c, Z c → c = 0 ∨ 6600 ≤ c) (z0 : Z 0) (lo : Lo Z g0)  {a0 : (List ref20uWish)} {va0 : Value} {ka0 : Nat} {a1 : ref20uWish} {ca1 : List Value} {a2 : (List Int)} {va2 : Value} (ma0 : Sl k_ref20uWish g0 ka0 a0 va0) (hka0 : ka0 = 0 ∨ 6600 ≤ ka0) (ma1 : k_ref20uWish.M g0 0 a1 ca1) (ma2 : Sl (kInt .u8) g0 0 a2 va2) {r : Bool} (hF0 : law20uClerkLists a0 a1 a2 = some r) :
    Calls P 3 [va0, .agg ca1.toArray, va2].toArray g0.w (Rets (RR (no) Z g0 (PEq (.bool r)))) := by
  refine calls_of Go.Proofs.Try.func3 rfl (Nat.le_of_ble_eq_true rfl) (by kernel_rfl) ?_
  have I : Inv (or_ (no) (iv 6500 6600)) (or_ Z (iv 6500 6600)) g0 g0 := Inv.start (lo.mono (fun _ h => .inl h))
  have fz : ¬ iv 6500 6600 0 := nz0 rfl
  unfold law20uClerkLists at hF0
  refine EW.seq ?_
  refine EW.region (by kernel_rfl) ?_
  refine EWL.op rfl ?_
  refine s_boxK (kd := k_ref20uWish) (r := a1) 6501 I (zpv rfl) ma1 rfl rfl fun g5u b1u s6u I hb2u hl4u ha3u => ?_
  refine EWL.op rfl ?_
  refine s_as ?_
  refine EW.seq ?_
  refine EW.seq ?_
  refine EW.region (by kernel_rfl) ?_
  refine EWL.op rfl ?_
  refine s_mv ?_
  refine EWL.op rfl ?_
  refine s_lenR (kd := k_ref20uWish) (xs := a0) s22 rfl (Sl.rs (Sl.up rfl s6u no_ no_ ma0)) ?_
  refine EWL.op rfl ?_
  refine s_gtr rfl rfl ?_
  refine EWL.op rfl ?_
  refine s_mv ?_
  rcases Bool.eq_false_or_eq_true (decide (300 < (a0.length : Int))) with hb7u | hb7u
  · replace hF0 := bif_t hb7u hF0
    refine EWL.pass (want_of rfl rfl (beq_ hb7u)) ?_
    refine EWL.pass (want_of rfl rfl (beq_ hb7u)) ?_
    refine EWL.pass (want_of rfl rfl (beq_ hb7u)) ?_
    refine EWL.op rfl ?_
    refine s_pT rfl hb7u ?_
    refine EWL.op rfl ?_
    refine s_mv ?_
    refine EWL.pass (want_of rfl rfl rfl) ?_
    refine EWL.pass (want_of rfl rfl rfl) ?_
    refine EWL.pass (want_of rfl rfl rfl) ?_
    refine EWL.pass (want_of rfl rfl rfl) ?_
    refine EWL.op rfl ?_
    refine s_pT rfl rfl ?_
    refine EW.condS rfl rfl (fun hb => ?_) (fun hb => (tf_ rfl hb).elim)
    refine EW.seq ?_
    refine EW.region (by kernel_rfl) ?_
    refine EWL.op rfl ?_
    obtain ⟨r8u, h9u, hF0⟩ := bnd hF0
    refine s_cf I k4 rfl (law20uawake_ok (zle hZ rfl rfl) (.inl z0) I.l h9u) no_any fun g12u v10u s13u I p11u => ?_
    obtain rfl := p11u
    refine EWL.op rfl ?_
    refine s_as ?_
    refine EW.ret ?_
    obtain rfl := som hF0
    refine ends1 (.inl rfl)  ?_
    exact ret_ (g := g12u) I lo hZ z0 rfl rfl
  · replace hF0 := bif_f hb7u hF0
    refine EWL.op (want_of rfl rfl (beq_ hb7u)) ?_
    refine s_mv ?_
    refine EWL.op (want_of rfl rfl (beq_ hb7u)) ?_
    refine s_lenR (kd := (kInt .u8)) (xs := a2) s32 rfl (Sl.rs (Sl.up rfl s6u no_ no_ ma2)) ?_
    refine EWL.op (want_of rfl rfl (beq_ hb7u)) ?_
    refine s_gtr rfl rfl ?_
    refine EWL.op rfl ?_
    refine s_pF rfl hb7u ?_
    refine EWL.op rfl ?_
    refine s_mv ?_
    rcases Bool.eq_false_or_eq_true (decide (20000 < (a2.length : Int))) with hb14u | hb14u
    · replace hF0 := bif_t hb14u hF0
      refine EWL.pass (want_of rfl rfl (beq_ hb14u)) ?_
      refine EWL.pass (want_of rfl rfl (beq_ hb14u)) ?_
      refine EWL.pass (want_of rfl rfl (beq_ hb14u)) ?_
      refine EWL.pass (want_of rfl rfl (beq_ hb14u)) ?_
      refine EWL.op rfl ?_
      refine s_pT rfl hb14u ?_
      refine EW.condS rfl rfl (fun hb => ?_) (fun hb => (tf_ rfl hb).elim)
      refine EW.seq ?_
      refine EW.region (by kernel_rfl) ?_
      refine EWL.op rfl ?_
      obtain ⟨r15u, h16u, hF0⟩ := bnd hF0
      refine s_cf I k4 rfl (law20uawake_ok (zle hZ rfl rfl) (.inl z0) I.l h16u) no_any fun g19u v17u s20u I p18u => ?_
      obtain rfl := p18u
      refine EWL.op rfl ?_
      refine s_as ?_
      refine EW.ret ?_
      obtain rfl := som hF0
      refine ends1 (.inl rfl)  ?_
      exact ret_ (g := g19u) I lo hZ z0 rfl rfl
    · replace hF0 := bif_f hb14u hF0
      refine EWL.op (want_of rfl rfl (beq_ hb14u)) ?_
      refine s_fa f31u1 rfl ?_
      refine EWL.op (want_of rfl rfl (beq_ hb14u)) ?_
      refine s_ldSl t29 rfl (Blk.cells hb2u) (At.fld ha3u 1 rfl) fun v21u m22u => ?_
      refine EWL.op (want_of rfl rfl (beq_ hb14u)) ?_
      refine s_lenR (kd := k_ref18uHop) (xs := a1.trail) s29 rfl (Sl.rs m22u) ?_
      refine EWL.op (want_of rfl rfl (beq_ hb14u)) ?_
      refine s_gtr rfl rfl ?_
      refine EWL.op rfl ?_
      refine s_pF rfl hb14u ?_
      refine EW.condS rfl rfl (fun hb23u => ?_) (fun hb23u => ?_)
      · replace hF0 := bif_t hb23u hF0
        refine EW.seq ?_
        refine EW.region (by kernel_rfl) ?_
        refine EWL.op rfl ?_
        obtain ⟨r24u, h25u, hF0⟩ := bnd hF0
        refine s_cf I k4 rfl (law20uawake_ok (zle hZ rfl rfl) (.inl z0) I.l h25u) no_any fun g28u v26u s29u I p27u => ?_
        obtain rfl := p27u
        refine EWL.op rfl ?_
        refine s_as ?_
        refine EW.ret ?_
        obtain rfl := som hF0
        refine ends1 (.inl rfl)  ?_
        exact ret_ (g := g28u) I lo hZ z0 rfl rfl
      · replace hF0 := bif_f hb23u hF0
        refine EW.skip ?_
        refine EW.seq ?_
        refine EW.seq ?_
        refine EW.region (by kernel_rfl) ?_
        refine EWL.op rfl ?_
        refine s_mv ?_
        refine EWL.op rfl ?_
        refine s_lenR (kd := k_ref20uWish) (xs := a0) s22 rfl (Sl.rs (Sl.up rfl s6u no_ no_ ma0)) ?_
        refine EWL.op rfl ?_
        refine s_mv ?_
        refine EW.block ?_
        refine EW.loop (b := (law20uClerkLists_b1 a0 a1 a2)) (fun (s : Int) ρ w => ∃ (g32u : GW) (v34u : Value) (v37u : Value) (v41u : Value) (x45u : Int) (L47u : List Value), w = g32u.w ∧ Inv (or_ (no) (iv 6500 6600)) (or_ Z (iv 6500 6600)) g0 g32u ∧ x45u = s ∧ ρ 0 = v34u ∧ Sl k_ref20uWish g32u ka0 a0 v34u ∧ ρ 2 = v37u ∧ Sl (kInt .u8) g32u 0 a2 v37u ∧ ρ 4 = .pointer (some ⟨b1u, 0, none⟩) ∧ ρ 31 = v41u ∧ Sl k_ref20uWish g32u ka0 a0 v41u ∧ ρ 32 = .int .i64 (a0.length : Int) ∧ ρ 33 = .int .i64 x45u ∧ Blk g32u b1u 6501 31 L47u ∧ L47u.length = 40 ∧ At k_ref20uWish g32u 0 a1 L47u 0) hF0 ⟨g5u, _, _, _, 0, _, rfl, I, rfl, rfl, (Sl.up rfl s6u no_ no_ ma0), rfl, (Sl.up rfl s6u no_ no_ ma2), rfl, rfl, (Sl.up rfl s6u no_ no_ ma0), rfl, rfl, hb2u, hl4u, ha3u⟩ ?_
        · rintro s_ o51u ρ w ⟨g32u, v34u, v37u, v41u, x45u, L47u, rfl, I, eo, hr33u, m35u, hr36u, m38u, hr39u, hr40u, m42u, hr43u, hr44u, hb48u, hl50u, ha49u⟩ hF1 hr1
          subst eo
          unfold law20uClerkLists_b1 at hF1
          refine EW.re (up1 (up1 (up1 (up1 (up1 (up1 rfl hr33u) hr36u) hr39u) hr40u) hr43u) hr44u) ?_
          refine EW.seq ?_
          refine EW.region (by kernel_rfl) ?_
          refine EWL.op rfl ?_
          refine s_lss rfl rfl ?_
          refine EW.seq ?_
          refine EW.condS rfl rfl (fun hb52u => ?_) (fun hb52u => ?_)
          · replace hF1 := bif_t hb52u hF1
            refine EW.skip ?_
            refine EW.seq ?_
            refine EW.block ?_
            refine EW.seq ?_
            refine EW.region (by kernel_rfl) ?_
            refine EWL.op rfl ?_
            obtain ⟨x53u, h54u, hF1⟩ := bnd hF1
            refine s_idxS s22 t31 rfl m42u rfl h54u fun b55u o56u L57u hc58u ha59u => ?_
            refine EWL.op rfl ?_
            refine s_ldK t31 rfl (Imm.cells hc58u) ha59u rfl rfl fun cs60u m61u => ?_
            refine EWL.op rfl ?_
            refine s_newK k_ref20uWish 6502 I (zpv rfl) z31 rfl fun g67u b62u L66u s68u I hb63u hl65u ha64u => ?_
            refine EWL.opn rfl ?_
            have m69u : k_ref20uWish.M g67u 0 x53u _ := (Kd.upK rfl s68u no_ m61u)
            refine s_stK (kd := k_ref20uWish) I t31 rfl rfl m69u rfl hb63u (ble_ hl65u rfl) (by decide) nc0 (zpv rfl) fun g70u L72u s71u I hb73u hu74u hn75u => ?_
            have ha76u := hn75u
            have hl77u := hu74u.1.trans hl65u
            refine EW.seq ?_
            refine EW.region (by kernel_rfl) ?_
            refine EWL.op rfl ?_
            refine s_fa f31u1 rfl ?_
            refine EWL.op rfl ?_
            refine s_ldSl t29 rfl (Blk.cells hb73u) (At.fld ha76u 1 rfl) fun v78u m79u => ?_
            refine EWL.op rfl ?_
            refine s_lenR (kd := k_ref18uHop) (xs := x53u.trail) s29 rfl (Sl.rs m79u) ?_
            refine EWL.op rfl ?_
            refine s_gtr rfl rfl ?_
            refine EW.condS rfl rfl (fun hb80u => ?_) (fun hb80u => ?_)
            · replace hF1 := bif_t hb80u hF1
              refine EW.seq ?_
              refine EW.region (by kernel_rfl) ?_
              refine EWL.op rfl ?_
              obtain ⟨r81u, h82u, hF1⟩ := bnd hF1
              refine s_cf I k4 rfl (law20uawake_ok (zle hZ rfl rfl) (.inl z0) I.l h82u) no_any fun g85u v83u s86u I p84u => ?_
              obtain rfl := p84u
              refine EWL.op rfl ?_
              refine s_as ?_
              refine EW.ret ?_
              have hF0 := out_ hF1 hr1
              obtain rfl := som hF0
              refine ends1 (.inl rfl)  ?_
              exact ret_ (g := g85u) I lo hZ z0 rfl rfl
            · replace hF1 := bif_f hb80u hF1
              refine EW.skip ?_
              refine EW.region (by kernel_rfl) ?_
              refine EWL.op rfl ?_
              refine s_add rfl rfl ?_
              refine EWL.op rfl ?_
              refine s_mv ?_
              exact ⟨_, (som hF1).symm, g70u, _, _, _, (IntKind.i64.wrap (x45u + 1)), _, rfl, I, rfl, rfl, (Sl.up rfl s71u (Nat.ne_of_beq_eq_false rfl) (ne_ld hka0 rfl rfl) (Sl.up rfl s68u no_ no_ m35u)), rfl, (Sl.up rfl s71u (Nat.ne_of_beq_eq_false rfl) (Nat.ne_of_beq_eq_false rfl) (Sl.up rfl s68u no_ no_ m38u)), rfl, rfl, (Sl.up rfl s71u (Nat.ne_of_beq_eq_false rfl) (ne_ld hka0 rfl rfl) (Sl.up rfl s68u no_ no_ m42u)), rfl, rfl, (Blk.up s71u (Nat.ne_of_beq_eq_false rfl) (Blk.up s68u no_ hb48u)), hl50u, (At.up (At.up ha49u s68u no_ nc0) s71u (Nat.ne_of_beq_eq_false rfl) nc0)⟩
          · replace hF1 := bif_f hb52u hF1
            refine EW.exit ?_
            have hF0 := out_ hF1 hr1
            refine EW.seq ?_
            refine EW.region (by kernel_rfl) ?_
            refine EWL.op rfl ?_
            refine s_ldK t31 rfl (Blk.cells hb48u) ha49u rfl rfl fun cs87u m88u => ?_
            refine EWL.op rfl ?_
            refine s_bslK (kd := k_ref20uWish) (xs := ([a1] : List ref20uWish)) 6503 I s22 t31 z31 rfl rfl (by decide) rfl (by decide) (And.intro (congrArg some (kl (d := k_ref20uWish) m88u).symm) (trivial)) (Seg.flat (d := k_ref20uWish) (g := g32u) (alls m88u alle)) rfl (zpv rfl) fun g91u v89u s92u I m90u => ?_
            refine EWL.op rfl ?_
            obtain ⟨r93u, h94u, hF0⟩ := bnd hF0
            refine s_cf I k5 rfl (law20uWishes_ok (zle hZ rfl rfl) (.inl z0) I.l 6504 (zpv rfl) (Row.sl m90u) (Or.inr (Nat.le_of_ble_eq_true rfl)) h94u) no_any fun g97u v95u s98u I p96u => ?_
            refine EWL.op rfl ?_
            obtain ⟨x99u, h100u, hF0⟩ := bnd hF0
            refine s_idxR s43 t42 p96u rfl h100u fun b101u _ _ lk102u => ?_
            obtain ⟨L103u, hb104u, ha105u, cl106u⟩ := Row.opn p96u lk102u h100u rfl
            refine EWL.op rfl ?_
            refine s_ldK t42 rfl (Imm.cells (Blk.imm hb104u)) ha105u rfl rfl fun cs107u m108u => ?_
            refine EWL.op rfl ?_
            refine s_newK k_clerk_Wish 6505 I (zpv rfl) z42 rfl fun g114u b109u L113u s115u I hb110u hl112u ha111u => ?_
            refine EWL.opn rfl ?_
            have m116u : k_clerk_Wish.M g114u 0 x99u _ := (Kd.upK rfl s115u no_ m108u)
            refine s_stK (kd := k_clerk_Wish) I t42 rfl rfl m116u rfl hb110u (ble_ hl112u rfl) (by decide) nc0 (zpv rfl) fun g117u L119u s118u I hb120u hu121u hn122u => ?_
            have ha123u := hn122u
            have hl124u := hu121u.1.trans hl112u
            refine EW.seq ?_
            refine EW.region (by kernel_rfl) ?_
            refine EWL.op rfl ?_
            refine s_mv ?_
            refine EWL.op rfl ?_
            obtain ⟨r125u, h126u, hF0⟩ := bnd hF0
            refine s_cf I k6 rfl (clerk_Load_ok (zle hZ rfl rfl) (.inl z0) I.l 6506 (zpv rfl) (Sl.up rfl s118u (Nat.ne_of_beq_eq_false rfl) (Nat.ne_of_beq_eq_false rfl) (Sl.up rfl s115u no_ no_ (Sl.up rfl s98u no_ no_ (Sl.up rfl s92u no_ no_ m38u)))) (Or.inl rfl) h126u) no_any fun g129u v127u s130u I p128u => ?_
            obtain ⟨v133u, v134u, rfl, p131u, p132u⟩ := ptup2 p128u
            obtain rfl := p132u
            refine EWL.op rfl ?_
            refine s_mv ?_
            refine EWL.op rfl ?_
            refine s_ext rfl rfl ?_
            refine EWL.op rfl ?_
            refine s_ext rfl rfl ?_
            refine EWL.op rfl ?_
            refine s_as ?_
            refine EWL.op rfl ?_
            refine s_as ?_
            refine EW.seq ?_
            refine EW.region (by kernel_rfl) ?_
            refine EWL.op rfl ?_
            refine s_mv ?_
            refine EWL.op rfl ?_
            obtain ⟨r135u, h136u, hF0⟩ := bnd hF0
            refine s_cf I k7 rfl (ref20uLoad_ok (zle hZ rfl rfl) (.inl z0) I.l 6507 (zpv rfl) (Sl.up rfl s130u no_ no_ (Sl.up rfl s118u (Nat.ne_of_beq_eq_false rfl) (Nat.ne_of_beq_eq_false rfl) (Sl.up rfl s115u no_ no_ (Sl.up rfl s98u no_ no_ (Sl.up rfl s92u no_ no_ m38u))))) h136u) no_any fun g139u v137u s140u I p138u => ?_
            obtain ⟨v143u, v144u, rfl, p141u, p142u⟩ := ptup2 p138u
            obtain rfl := p142u
            refine EWL.op rfl ?_
            refine s_mv ?_
            refine EWL.op rfl ?_
            refine s_ext rfl rfl ?_
            refine EWL.op rfl ?_
            refine s_ext rfl rfl ?_
            refine EWL.op rfl ?_
            refine s_as ?_
            refine EWL.op rfl ?_
            refine s_as ?_
            refine EW.seq ?_
            refine EW.seq ?_
            obtain ⟨r145u, h146u, hF0⟩ := bnd hF0
            obtain ⟨r156u, h157u, hF0⟩ := bnd hF0
            obtain ⟨r162u, h163u, hF0⟩ := bnd hF0
            obtain ⟨r170u, h171u, hF0⟩ := bnd hF0
            obtain ⟨r176u, h177u, hF0⟩ := bnd hF0
            rcases Bool.eq_false_or_eq_true (!r176u) with hb182u | hb182u
            · replace hF0 := bif_t hb182u hF0
              refine EW.drawn [(7, 4, 3)] [⟨SF.sl 0 k_ref20uWish rfl ka0 a0, none, none⟩, ⟨SF.val 9 (.pointer (some ⟨b109u, 0, none⟩)), none, none⟩, ⟨SF.bx b109u 6505 42 k_clerk_Wish rfl x99u, none, none⟩, ⟨SF.val 4 (.pointer (some ⟨b1u, 0, none⟩)), none, none⟩, ⟨SF.bx b1u 6501 31 k_ref20uWish rfl a1, none, none⟩, ⟨SF.sl 58 k_ref20uWish rfl ka0 a0, some 0, none⟩, ⟨SF.row 59 42 k_clerk_Wish rfl 6508 r145u, some 1, some 3⟩, ⟨SF.agg 60 k_clerk_Wish rfl x99u, some 2, none⟩, ⟨SF.sl 61 k_clerk_Wish rfl 0 r156u, some 3, none⟩, ⟨SF.row 62 31 k_ref20uWish rfl 6509 r162u, some 4, none⟩, ⟨SF.sl 63 k_ref20uWish rfl ka0 a0, some 5, none⟩, ⟨SF.agg 64 k_ref20uWish rfl a1, some 6, none⟩, ⟨SF.row 65 31 k_ref20uWish rfl 6510 r170u, some 7, none⟩, ⟨SF.val 66 (.bool r176u), some 8, none⟩, ⟨SF.val 67 (.bool (!r176u)), some 9, none⟩, ⟨SF.val 68 (.bool (!r176u)), some 10, none⟩, ⟨SF.val 76 (undef), some 18, none⟩, ⟨SF.val 77 (.bool true), some 19, none⟩, ⟨SF.val 78 (.bool true), some 20, none⟩, ⟨SF.val 81 (undef), some 23, none⟩, ⟨SF.val 82 (.bool true), some 24, none⟩, ⟨SF.val 83 (.bool true), some 25, none⟩, ⟨SF.val 88 (undef), some 30, none⟩, ⟨SF.val 89 (.bool true), some 31, none⟩, ⟨SF.val 90 (.bool true), some 32, none⟩, ⟨SF.val 98 (undef), some 40, none⟩, ⟨SF.val 99 (.bool true), some 41, none⟩] [(3, at_ 6508)] (by kernel_rfl) (by kernel_rfl) (by kernel_rfl) ?_ I ?_ (dcons ?_ (dcons ?_ (dcons ?_ (dcons ?_ (dcons ?_ (dcons ?_ (dcons ?_ (dcons ?_ (dcons ?_ (dcons ?_ (dcons ?_ (dcons ?_ (dcons ?_ (dcons ?_ (dcons ?_ (dcons ?_ (dcons ?_ (dcons ?_ (dcons ?_ (dcons ?_ (dcons ?_ (dcons ?_ (dcons ?_ (dcons ?_ (dcons ?_ (dcons ?_ (dcons ?_ (dcons ?_ (dcons ?_ (dcons ?_ (dcons ?_ (dcons ?_ (dcons ?_ (dcons ?_ (dcons ?_ (dcons ?_ (dcons ?_ (dcons ?_ (dcons ?_ (dcons ?_ (dcons ?_ (dcons ?_ dnil)))))))))))))))))))))))))))))))))))))))))) ?_
              · exact (And.intro (And.intro (Nat.ne_of_beq_eq_false rfl) (And.intro (And.intro (ne_ld hka0 rfl rfl) trivial) (And.intro trivial (And.intro (And.intro (Nat.ne_of_beq_eq_false rfl) trivial) (And.intro trivial (And.intro (And.intro (Nat.ne_of_beq_eq_false rfl) trivial) (And.intro (And.intro (ne_ld hka0 rfl rfl) trivial) (And.intro trivial (And.intro trivial (And.intro trivial (And.intro trivial (And.intro (And.intro (ne_ld hka0 rfl rfl) trivial) (And.intro trivial (And.intro trivial (And.intro trivial (And.intro trivial (And.intro trivial (And.intro trivial (And.intro trivial (And.intro trivial (And.intro trivial (And.intro trivial (And.intro trivial (And.intro trivial (And.intro trivial (And.intro trivial (And.intro trivial (And.intro trivial trivial)))))))))))))))))))))))))))) trivial)
              · exact (nwc (pf_sl rfl rfl (Sl.up rfl s140u no_ no_ (Sl.up rfl s130u no_ no_ (Sl.up rfl s118u (Nat.ne_of_beq_eq_false rfl) (ne_ld hka0 rfl rfl) (Sl.up rfl s115u no_ no_ (Sl.up rfl s98u no_ no_ (Sl.up rfl s92u no_ no_ m35u))))))) (nwc (pf_val rfl) (nwc (pf_bx rfl (Blk.up s140u no_ (Blk.up s130u no_ hb120u)) hl124u (At.up (At.up ha123u s130u no_ nc0) s140u no_ nc0)) (nwc (pf_val rfl) (nwc (pf_bx rfl (Blk.up s140u no_ (Blk.up s130u no_ (Blk.up s118u (Nat.ne_of_beq_eq_false rfl) (Blk.up s115u no_ (Blk.up s98u no_ (Blk.up s92u no_ hb48u)))))) hl50u (At.up (At.up (At.up (At.up (At.up (At.up ha49u s92u no_ nc0) s98u no_ nc0) s115u no_ nc0) s118u (Nat.ne_of_beq_eq_false rfl) nc0) s130u no_ nc0) s140u no_ nc0)) nwn)))))
              · intro ρ g I av
                obtain ⟨v202u, hr200u, m201u⟩ := av 0 _ rfl (by kernel_rfl)
                refine ddo (up1 rfl hr200u) rfl ?_
                refine s_mv ?_
                exact ⟨_, rfl, (Stp.refl _ _), I, (nwc (pf_sl rfl rfl m201u) nwn)⟩
              · intro ρ g I av
                obtain ⟨v205u, hr203u, m204u⟩ := av 5 _ rfl (by kernel_rfl)
                refine ddo (up1 rfl hr203u) rfl ?_
                refine s_cf I k5 rfl (law20uWishes_ok (zle hZ rfl rfl) (.inl z0) I.l 6508 (zpv rfl) m204u (lent_ hka0 rfl) h146u) no_any fun g208u v206u s209u I p207u => ?_
                exact ⟨_, rfl, s209u, I, (nwc (pf_row rfl rfl p207u) nwn)⟩
              · intro ρ g I av
                obtain ⟨L210u, hb211u, hl212u, ha213u⟩ := av 2 _ rfl (by kernel_rfl)
                have hr214u := av 1 _ rfl (by kernel_rfl)
                refine ddo (up1 rfl hr214u) rfl ?_
                refine s_ldK t42 rfl (Blk.cells hb211u) ha213u rfl rfl fun cs216u m217u => ?_
                exact ⟨_, rfl, (Stp.refl _ _), I, (nwc (pf_agg rfl rfl m217u) nwn)⟩
              · intro ρ g I av
                obtain ⟨v220u, hr218u, m219u⟩ := av 6 _ rfl (by kernel_rfl)
                obtain ⟨_, hr221u, m222u⟩ := av 7 _ rfl (by kernel_rfl)
                refine ddo (up1 (up1 rfl hr218u) hr221u) rfl ?_
                have m223u := Row.rc rfl (by decide) m219u 0
                have s225u := Stp.rc1 g 6508 0
                replace I := I.to s225u (Lo.rc (d := 0) I.l (.inl z0)) (at_in (zpv rfl))
                obtain ⟨g224u, rc_⟩ : ∃ q, q = g.rc 6508 (6508 + 1) 0 := ⟨_, rfl⟩
                rw [← rc_] at m223u s225u I
                refine stp.wld (w := g224u.w) (by rw [rc_]; rfl) ?_
                clear rc_
                refine s_cf I k10 rfl (clerk_Add_ok (zle hZ rfl rfl) (.inl z0) I.l (Row.sl m223u) (Kd.upK rfl s225u (Nat.ne_of_beq_eq_false rfl) m222u) h157u) no_any fun g228u v226u s229u I p227u => ?_
                exact ⟨_, rfl, (stpc s225u s229u (fun _ h => h) no_any), I, (nwc (pf_sl rfl rfl p227u) nwn)⟩
              · intro ρ g I av
                obtain ⟨v232u, hr230u, m231u⟩ := av 8 _ rfl (by kernel_rfl)
                refine ddo (up1 rfl hr230u) rfl ?_
                refine s_cf I k9 rfl (law20uFrom_ok (zle hZ rfl rfl) (.inl z0) I.l 6509 (zpv rfl) m231u (Or.inl rfl) h163u) no_any fun g235u v233u s236u I p234u => ?_
                exact ⟨_, rfl, s236u, I, (nwc (pf_row rfl rfl p234u) nwn)⟩
              · intro ρ g I av
                obtain ⟨v239u, hr237u, m238u⟩ := av 0 _ rfl (by kernel_rfl)
                refine ddo (up1 rfl hr237u) rfl ?_
                refine s_mv ?_
                exact ⟨_, rfl, (Stp.refl _ _), I, (nwc (pf_sl rfl rfl m238u) nwn)⟩
              · intro ρ g I av
                obtain ⟨L240u, hb241u, hl242u, ha243u⟩ := av 4 _ rfl (by kernel_rfl)
                have hr244u := av 3 _ rfl (by kernel_rfl)
                refine ddo (up1 rfl hr244u) rfl ?_
                refine s_ldK t31 rfl (Blk.cells hb241u) ha243u rfl rfl fun cs246u m247u => ?_
                exact ⟨_, rfl, (Stp.refl _ _), I, (nwc (pf_agg rfl rfl m247u) nwn)⟩
              · intro ρ g I av
                obtain ⟨v250u, hr248u, m249u⟩ := av 10 _ rfl (by kernel_rfl)
                obtain ⟨_, hr251u, m252u⟩ := av 11 _ rfl (by kernel_rfl)
                refine ddo (up1 (up1 rfl hr248u) hr251u) rfl ?_
                refine s_cf I k11 rfl (ref20uAdd_ok (zle hZ rfl rfl) (.inl z0) I.l 6510 (zpv rfl) m249u (lent_ hka0 rfl) m252u h171u) no_any fun g255u v253u s256u I p254u => ?_
                exact ⟨_, rfl, s256u, I, (nwc (pf_row rfl rfl p254u) nwn)⟩
              · intro ρ g I av
                obtain ⟨v259u, hr257u, m258u⟩ := av 9 _ rfl (by kernel_rfl)
                obtain ⟨v262u, hr260u, m261u⟩ := av 12 _ rfl (by kernel_rfl)
                refine ddo (up1 (up1 rfl hr257u) hr260u) rfl ?_
                refine s_cf I k8 rfl (ref20uAlike_ok (zle hZ rfl rfl) (.inl z0) I.l (Row.sl m258u) (Or.inr (Nat.le_of_ble_eq_true rfl)) (Row.sl m261u) (Or.inr (Nat.le_of_ble_eq_true rfl)) h177u) no_any fun g265u v263u s266u I p264u => ?_
                obtain rfl := p264u
                exact ⟨_, rfl, s266u, I, (nwc (pf_val rfl) nwn)⟩
              · intro ρ g I av
                have hr267u := av 13 _ rfl (by kernel_rfl)
                refine ddo (up1 rfl hr267u) rfl ?_
                refine s_not rfl ?_
                exact ⟨_, rfl, (Stp.refl _ _), I, (nwc (pf_val rfl) nwn)⟩
              · intro ρ g I av
                have hr269u := av 14 _ rfl (by kernel_rfl)
                refine ddo (up1 rfl hr269u) rfl ?_
                refine s_mv ?_
                exact ⟨_, rfl, (Stp.refl _ _), I, (nwc (pf_val rfl) nwn)⟩
              · intro ρ g I av
                have hr271u := av 15 _ rfl (by kernel_rfl)
                exact dskip (up1 rfl hr271u) (want_of rfl rfl (beq_ hb182u)) rfl nwn
              · intro ρ g I av
                have hr273u := av 15 _ rfl (by kernel_rfl)
                exact dskip (up1 rfl hr273u) (want_of rfl rfl (beq_ hb182u)) rfl nwn
              · intro ρ g I av
                have hr275u := av 15 _ rfl (by kernel_rfl)
                exact dskip (up1 rfl hr275u) (want_of rfl rfl (beq_ hb182u)) rfl nwn
              · intro ρ g I av
                have hr277u := av 15 _ rfl (by kernel_rfl)
                exact dskip (up1 rfl hr277u) (want_of rfl rfl (beq_ hb182u)) rfl nwn
              · intro ρ g I av
                have hr279u := av 15 _ rfl (by kernel_rfl)
                exact dskip (up1 rfl hr279u) (want_of rfl rfl (beq_ hb182u)) rfl nwn
              · intro ρ g I av
                have hr281u := av 15 _ rfl (by kernel_rfl)
                exact dskip (up1 rfl hr281u) (want_of rfl rfl (beq_ hb182u)) rfl nwn
              · intro ρ g I av
                have hr283u := av 15 _ rfl (by kernel_rfl)
                exact dskip (up1 rfl hr283u) (want_of rfl rfl (beq_ hb182u)) rfl nwn
              · intro ρ g I av
                have hr285u := av 15 _ rfl (by kernel_rfl)
                exact dskip (up1 rfl hr285u) (want_of rfl rfl (beq_ hb182u)) rfl (nwc (pf_val rfl) nwn)
              · intro ρ g I av
                have hr287u := av 15 _ rfl (by kernel_rfl)
                have hr289u := av 16 _ rfl (by kernel_rfl)
                refine ddo (up1 (up1 rfl hr287u) hr289u) rfl ?_
                refine s_pT rfl hb182u ?_
                exact ⟨_, rfl, (Stp.refl _ _), I, (nwc (pf_val rfl) nwn)⟩
              · intro ρ g I av
                have hr291u := av 17 _ rfl (by kernel_rfl)
                refine ddo (up1 rfl hr291u) rfl ?_
                refine s_mv ?_
                exact ⟨_, rfl, (Stp.refl _ _), I, (nwc (pf_val rfl) nwn)⟩
              · intro ρ g I av
                have hr293u := av 18 _ rfl (by kernel_rfl)
                exact dskip (up1 rfl hr293u) (want_of rfl rfl rfl) rfl nwn
              · intro ρ g I av
                have hr295u := av 18 _ rfl (by kernel_rfl)
                exact dskip (up1 rfl hr295u) (want_of rfl rfl rfl) rfl nwn
              · intro ρ g I av
                have hr297u := av 18 _ rfl (by kernel_rfl)
                exact dskip (up1 rfl hr297u) (want_of rfl rfl rfl) rfl (nwc (pf_val rfl) nwn)
              · intro ρ g I av
                have hr299u := av 18 _ rfl (by kernel_rfl)
                have hr301u := av 19 _ rfl (by kernel_rfl)
                refine ddo (up1 (up1 rfl hr299u) hr301u) rfl ?_
                refine s_pT rfl rfl ?_
                exact ⟨_, rfl, (Stp.refl _ _), I, (nwc (pf_val rfl) nwn)⟩
              · intro ρ g I av
                have hr303u := av 20 _ rfl (by kernel_rfl)
                refine ddo (up1 rfl hr303u) rfl ?_
                refine s_mv ?_
                exact ⟨_, rfl, (Stp.refl _ _), I, (nwc (pf_val rfl) nwn)⟩
              · intro ρ g I av
                have hr305u := av 21 _ rfl (by kernel_rfl)
                exact dskip (up1 rfl hr305u) (want_of rfl rfl rfl) rfl nwn
              · intro ρ g I av
                have hr307u := av 21 _ rfl (by kernel_rfl)
                exact dskip (up1 rfl hr307u) (want_of rfl rfl rfl) rfl nwn
              · intro ρ g I av
                have hr309u := av 21 _ rfl (by kernel_rfl)
                exact dskip (up1 rfl hr309u) (want_of rfl rfl rfl) rfl nwn
              · intro ρ g I av
                have hr311u := av 21 _ rfl (by kernel_rfl)
                exact dskip (up1 rfl hr311u) (want_of rfl rfl rfl) rfl nwn
              · intro ρ g I av
                have hr313u := av 21 _ rfl (by kernel_rfl)
                exact dskip (up1 rfl hr313u) (want_of rfl rfl rfl) rfl (nwc (pf_val rfl) nwn)
              · intro ρ g I av
                have hr315u := av 21 _ rfl (by kernel_rfl)
                have hr317u := av 22 _ rfl (by kernel_rfl)
                refine ddo (up1 (up1 rfl hr315u) hr317u) rfl ?_
                refine s_pT rfl rfl ?_
                exact ⟨_, rfl, (Stp.refl _ _), I, (nwc (pf_val rfl) nwn)⟩
              · intro ρ g I av
                have hr319u := av 23 _ rfl (by kernel_rfl)
                refine ddo (up1 rfl hr319u) rfl ?_
                refine s_mv ?_
                exact ⟨_, rfl, (Stp.refl _ _), I, (nwc (pf_val rfl) nwn)⟩
              · intro ρ g I av
                have hr321u := av 24 _ rfl (by kernel_rfl)
                exact dskip (up1 rfl hr321u) (want_of rfl rfl rfl) rfl nwn
              · intro ρ g I av
                have hr323u := av 24 _ rfl (by kernel_rfl)
                exact dskip (up1 rfl hr323u) (want_of rfl rfl rfl) rfl nwn
              · intro ρ g I av
                have hr325u := av 24 _ rfl (by kernel_rfl)
                exact dskip (up1 rfl hr325u) (want_of rfl rfl rfl) rfl nwn
              · intro ρ g I av
                have hr327u := av 24 _ rfl (by kernel_rfl)
                exact dskip (up1 rfl hr327u) (want_of rfl rfl rfl) rfl nwn
              · intro ρ g I av
                have hr329u := av 24 _ rfl (by kernel_rfl)
                exact dskip (up1 rfl hr329u) (want_of rfl rfl rfl) rfl nwn
              · intro ρ g I av
                have hr331u := av 24 _ rfl (by kernel_rfl)
                exact dskip (up1 rfl hr331u) (want_of rfl rfl rfl) rfl nwn
              · intro ρ g I av
                have hr333u := av 24 _ rfl (by kernel_rfl)
                exact dskip (up1 rfl hr333u) (want_of rfl rfl rfl) rfl nwn
              · intro ρ g I av
                have hr335u := av 24 _ rfl (by kernel_rfl)
                exact dskip (up1 rfl hr335u) (want_of rfl rfl rfl) rfl (nwc (pf_val rfl) nwn)
              · intro ρ g I av
                have hr337u := av 24 _ rfl (by kernel_rfl)
                have hr339u := av 25 _ rfl (by kernel_rfl)
                refine ddo (up1 (up1 rfl hr337u) hr339u) rfl ?_
                refine s_pT rfl rfl ?_
                exact ⟨_, rfl, (Stp.refl _ _), I, (nwc (pf_val rfl) nwn)⟩
              · intro ρ g I av
                obtain ⟨L183u, hb184u, hl185u, ha186u⟩ := av 4 _ rfl rfl
                obtain ⟨L187u, hb188u, hl189u, ha190u⟩ := av 2 _ rfl rfl
                obtain ⟨v193u, hr191u, m192u⟩ := av 0 _ rfl rfl
                have hr194u := av 3 _ rfl rfl
                have hr196u := av 1 _ rfl rfl
                have hr198u := av 26 _ rfl rfl
                refine ⟨_, (up1 (up1 (up1 (up1 rfl hr191u) hr194u) hr196u) hr198u), ?_⟩
                refine EW.condS rfl rfl (fun hb => ?_) (fun hb => (tf_ rfl hb).elim)
                refine EW.seq ?_
                refine EW.region (by kernel_rfl) ?_
                refine EWL.op rfl ?_
                refine s_as ?_
                refine EW.ret ?_
                obtain rfl := som hF0
                refine ends1 (.inl rfl)  ?_
                exact ret_ (g := g) I lo hZ z0 rfl rfl
            · replace hF0 := bif_f hb182u hF0
              obtain ⟨r341u, h342u, hF0⟩ := bnd hF0
              obtain ⟨r347u, h348u, hF0⟩ := bnd hF0
              obtain ⟨r353u, h354u, hF0⟩ := bnd hF0
              rcases Bool.eq_false_or_eq_true (decide ((strOfNums r347u) ≠ (strOfNums r353u))) with hb359u | hb359u
              · replace hF0 := bif_t hb359u hF0
                refine EW.drawn [(7, 4, 3), (13, 12, 3), (12, 11, 3), (11, 10, 3), (16, 15, 3), (15, 10, 3), (10, 9, 3), (9, 8, 3), (8, 4, 3)] [⟨SF.sl 0 k_ref20uWish rfl ka0 a0, none, none⟩, ⟨SF.val 9 (.pointer (some ⟨b109u, 0, none⟩)), none, none⟩, ⟨SF.bx b109u 6505 42 k_clerk_Wish rfl x99u, none, none⟩, ⟨SF.val 4 (.pointer (some ⟨b1u, 0, none⟩)), none, none⟩, ⟨SF.bx b1u 6501 31 k_ref20uWish rfl a1, none, none⟩, ⟨SF.sl 58 k_ref20uWish rfl ka0 a0, some 0, none⟩, ⟨SF.row 59 42 k_clerk_Wish rfl 6508 r145u, some 1, some 3⟩, ⟨SF.agg 60 k_clerk_Wish rfl x99u, some 2, none⟩, ⟨SF.sl 61 k_clerk_Wish rfl 0 r156u, some 3, none⟩, ⟨SF.row 62 31 k_ref20uWish rfl 6509 r162u, some 4, none⟩, ⟨SF.sl 63 k_ref20uWish rfl ka0 a0, some 5, none⟩, ⟨SF.agg 64 k_ref20uWish rfl a1, some 6, none⟩, ⟨SF.row 65 31 k_ref20uWish rfl 6510 r170u, some 7, none⟩, ⟨SF.val 66 (.bool r176u), some 8, none⟩, ⟨SF.val 67 (.bool (!r176u)), some 9, none⟩, ⟨SF.val 68 (.bool (!r176u)), some 10, none⟩, ⟨SF.sl 69 k_ref20uWish rfl ka0 a0, some 11, none⟩, ⟨SF.row 70 42 k_clerk_Wish rfl 6511 r341u, some 12, none⟩, ⟨SF.row 71 5 (kInt .u8) rfl 6512 r347u, some 13, none⟩, ⟨SF.val 72 (.string (strOfNums r347u)), some 14, none⟩, ⟨SF.sl 73 k_ref20uWish rfl ka0 a0, some 15, none⟩, ⟨SF.row 74 5 (kInt .u8) rfl 6513 r353u, some 16, none⟩, ⟨SF.val 75 (.string (strOfNums r353u)), some 17, none⟩, ⟨SF.val 76 (.bool (decide ((strOfNums r347u) ≠ (strOfNums r353u)))), some 18, none⟩, ⟨SF.val 77 (.bool (decide ((strOfNums r347u) ≠ (strOfNums r353u)))), some 19, none⟩, ⟨SF.val 78 (.bool (decide ((strOfNums r347u) ≠ (strOfNums r353u)))), some 20, none⟩, ⟨SF.val 81 (undef), some 23, none⟩, ⟨SF.val 82 (.bool true), some 24, none⟩, ⟨SF.val 83 (.bool true), some 25, none⟩, ⟨SF.val 88 (undef), some 30, none⟩, ⟨SF.val 89 (.bool true), some 31, none⟩, ⟨SF.val 90 (.bool true), some 32, none⟩, ⟨SF.val 98 (undef), some 40, none⟩, ⟨SF.val 99 (.bool true), some 41, none⟩] [(3, at_ 6508)] (by kernel_rfl) (by kernel_rfl) (by kernel_rfl) ?_ I ?_ (dcons ?_ (dcons ?_ (dcons ?_ (dcons ?_ (dcons ?_ (dcons ?_ (dcons ?_ (dcons ?_ (dcons ?_ (dcons ?_ (dcons ?_ (dcons ?_ (dcons ?_ (dcons ?_ (dcons ?_ (dcons ?_ (dcons ?_ (dcons ?_ (dcons ?_ (dcons ?_ (dcons ?_ (dcons ?_ (dcons ?_ (dcons ?_ (dcons ?_ (dcons ?_ (dcons ?_ (dcons ?_ (dcons ?_ (dcons ?_ (dcons ?_ (dcons ?_ (dcons ?_ (dcons ?_ (dcons ?_ (dcons ?_ (dcons ?_ (dcons ?_ (dcons ?_ (dcons ?_ (dcons ?_ (dcons ?_ dnil)))))))))))))))))))))))))))))))))))))))))) ?_
                · exact (And.intro (And.intro (Nat.ne_of_beq_eq_false rfl) (And.intro (And.intro (ne_ld hka0 rfl rfl) trivial) (And.intro trivial (And.intro (And.intro (Nat.ne_of_beq_eq_false rfl) trivial) (And.intro trivial (And.intro (And.intro (Nat.ne_of_beq_eq_false rfl) trivial) (And.intro (And.intro (ne_ld hka0 rfl rfl) trivial) (And.intro trivial (And.intro trivial (And.intro trivial (And.intro trivial (And.intro (And.intro (ne_ld hka0 rfl rfl) trivial) (And.intro trivial (And.intro trivial (And.intro trivial (And.intro trivial (And.intro trivial (And.intro trivial (And.intro trivial (And.intro trivial (And.intro trivial (And.intro trivial (And.intro trivial (And.intro trivial (And.intro trivial (And.intro trivial (And.intro trivial (And.intro trivial (And.intro trivial (And.intro trivial (And.intro trivial (And.intro trivial (And.intro trivial (And.intro trivial (And.intro trivial trivial))))))))))))))))))))))))))))))))))) trivial)
                · exact (nwc (pf_sl rfl rfl (Sl.up rfl s140u no_ no_ (Sl.up rfl s130u no_ no_ (Sl.up rfl s118u (Nat.ne_of_beq_eq_false rfl) (ne_ld hka0 rfl rfl) (Sl.up rfl s115u no_ no_ (Sl.up rfl s98u no_ no_ (Sl.up rfl s92u no_ no_ m35u))))))) (nwc (pf_val rfl) (nwc (pf_bx rfl (Blk.up s140u no_ (Blk.up s130u no_ hb120u)) hl124u (At.up (At.up ha123u s130u no_ nc0) s140u no_ nc0)) (nwc (pf_val rfl) (nwc (pf_bx rfl (Blk.up s140u no_ (Blk.up s130u no_ (Blk.up s118u (Nat.ne_of_beq_eq_false rfl) (Blk.up s115u no_ (Blk.up s98u no_ (Blk.up s92u no_ hb48u)))))) hl50u (At.up (At.up (At.up (At.up (At.up (At.up ha49u s92u no_ nc0) s98u no_ nc0) s115u no_ nc0) s118u (Nat.ne_of_beq_eq_false rfl) nc0) s130u no_ nc0) s140u no_ nc0)) nwn)))))
                · intro ρ g I av
                  obtain ⟨v379u, hr377u, m378u⟩ := av 0 _ rfl (by kernel_rfl)
                  refine ddo (up1 rfl hr377u) rfl ?_
                  refine s_mv ?_
                  exact ⟨_, rfl, (Stp.refl _ _), I, (nwc (pf_sl rfl rfl m378u) nwn)⟩
                · intro ρ g I av
                  obtain ⟨v382u, hr380u, m381u⟩ := av 5 _ rfl (by kernel_rfl)
                  refine ddo (up1 rfl hr380u) rfl ?_
                  refine s_cf I k5 rfl (law20uWishes_ok (zle hZ rfl rfl) (.inl z0) I.l 6508 (zpv rfl) m381u (lent_ hka0 rfl) h146u) no_any fun g385u v383u s386u I p384u => ?_
                  exact ⟨_, rfl, s386u, I, (nwc (pf_row rfl rfl p384u) nwn)⟩
                · intro ρ g I av
                  obtain ⟨L387u, hb388u, hl389u, ha390u⟩ := av 2 _ rfl (by kernel_rfl)
                  have hr391u := av 1 _ rfl (by kernel_rfl)
                  refine ddo (up1 rfl hr391u) rfl ?_
                  refine s_ldK t42 rfl (Blk.cells hb388u) ha390u rfl rfl fun cs393u m394u => ?_
                  exact ⟨_, rfl, (Stp.refl _ _), I, (nwc (pf_agg rfl rfl m394u) nwn)⟩
                · intro ρ g I av
                  obtain ⟨v397u, hr395u, m396u⟩ := av 6 _ rfl (by kernel_rfl)
                  obtain ⟨_, hr398u, m399u⟩ := av 7 _ rfl (by kernel_rfl)
                  refine ddo (up1 (up1 rfl hr395u) hr398u) rfl ?_
                  have m400u := Row.rc rfl (by decide) m396u 0
                  have s402u := Stp.rc1 g 6508 0
                  replace I := I.to s402u (Lo.rc (d := 0) I.l (.inl z0)) (at_in (zpv rfl))
                  obtain ⟨g401u, rc_⟩ : ∃ q, q = g.rc 6508 (6508 + 1) 0 := ⟨_, rfl⟩
                  rw [← rc_] at m400u s402u I
                  refine stp.wld (w := g401u.w) (by rw [rc_]; rfl) ?_
                  clear rc_
                  refine s_cf I k10 rfl (clerk_Add_ok (zle hZ rfl rfl) (.inl z0) I.l (Row.sl m400u) (Kd.upK rfl s402u (Nat.ne_of_beq_eq_false rfl) m399u) h157u) no_any fun g405u v403u s406u I p404u => ?_
                  exact ⟨_, rfl, (stpc s402u s406u (fun _ h => h) no_any), I, (nwc (pf_sl rfl rfl p404u) nwn)⟩
                · intro ρ g I av
                  obtain ⟨v409u, hr407u, m408u⟩ := av 8 _ rfl (by kernel_rfl)
                  refine ddo (up1 rfl hr407u) rfl ?_
                  refine s_cf I k9 rfl (law20uFrom_ok (zle hZ rfl rfl) (.inl z0) I.l 6509 (zpv rfl) m408u (Or.inl rfl) h163u) no_any fun g412u v410u s413u I p411u => ?_
                  exact ⟨_, rfl, s413u, I, (nwc (pf_row rfl rfl p411u) nwn)⟩
                · intro ρ g I av
                  obtain ⟨v416u, hr414u, m415u⟩ := av 0 _ rfl (by kernel_rfl)
                  refine ddo (up1 rfl hr414u) rfl ?_
                  refine s_mv ?_
                  exact ⟨_, rfl, (Stp.refl _ _), I, (nwc (pf_sl rfl rfl m415u) nwn)⟩
                · intro ρ g I av
                  obtain ⟨L417u, hb418u, hl419u, ha420u⟩ := av 4 _ rfl (by kernel_rfl)
                  have hr421u := av 3 _ rfl (by kernel_rfl)
                  refine ddo (up1 rfl hr421u) rfl ?_
                  refine s_ldK t31 rfl (Blk.cells hb418u) ha420u rfl rfl fun cs423u m424u => ?_
                  exact ⟨_, rfl, (Stp.refl _ _), I, (nwc (pf_agg rfl rfl m424u) nwn)⟩
                · intro ρ g I av
                  obtain ⟨v427u, hr425u, m426u⟩ := av 10 _ rfl (by kernel_rfl)
                  obtain ⟨_, hr428u, m429u⟩ := av 11 _ rfl (by kernel_rfl)
                  refine ddo (up1 (up1 rfl hr425u) hr428u) rfl ?_
                  refine s_cf I k11 rfl (ref20uAdd_ok (zle hZ rfl rfl) (.inl z0) I.l 6510 (zpv rfl) m426u (lent_ hka0 rfl) m429u h171u) no_any fun g432u v430u s433u I p431u => ?_
                  exact ⟨_, rfl, s433u, I, (nwc (pf_row rfl rfl p431u) nwn)⟩
                · intro ρ g I av
                  obtain ⟨v436u, hr434u, m435u⟩ := av 9 _ rfl (by kernel_rfl)
                  obtain ⟨v439u, hr437u, m438u⟩ := av 12 _ rfl (by kernel_rfl)
                  refine ddo (up1 (up1 rfl hr434u) hr437u) rfl ?_
                  refine s_cf I k8 rfl (ref20uAlike_ok (zle hZ rfl rfl) (.inl z0) I.l (Row.sl m435u) (Or.inr (Nat.le_of_ble_eq_true rfl)) (Row.sl m438u) (Or.inr (Nat.le_of_ble_eq_true rfl)) h177u) no_any fun g442u v440u s443u I p441u => ?_
                  obtain rfl := p441u
                  exact ⟨_, rfl, s443u, I, (nwc (pf_val rfl) nwn)⟩
                · intro ρ g I av
                  have hr444u := av 13 _ rfl (by kernel_rfl)
                  refine ddo (up1 rfl hr444u) rfl ?_
                  refine s_not rfl ?_
                  exact ⟨_, rfl, (Stp.refl _ _), I, (nwc (pf_val rfl) nwn)⟩
                · intro ρ g I av
                  have hr446u := av 14 _ rfl (by kernel_rfl)
                  refine ddo (up1 rfl hr446u) rfl ?_
                  refine s_mv ?_
                  exact ⟨_, rfl, (Stp.refl _ _), I, (nwc (pf_val rfl) nwn)⟩
                · intro ρ g I av
                  obtain ⟨v450u, hr448u, m449u⟩ := av 0 _ rfl (by kernel_rfl)
                  have hr451u := av 15 _ rfl (by kernel_rfl)
                  refine ddo (up1 (up1 rfl hr448u) hr451u) (want_of rfl rfl (beq_ hb182u)) ?_
                  refine s_mv ?_
                  exact ⟨_, rfl, (Stp.refl _ _), I, (nwc (pf_sl rfl rfl m449u) nwn)⟩
                · intro ρ g I av
                  have hr453u := av 15 _ rfl (by kernel_rfl)
                  obtain ⟨v457u, hr455u, m456u⟩ := av 16 _ rfl (by kernel_rfl)
                  refine ddo (up1 (up1 rfl hr453u) hr455u) (want_of rfl rfl (beq_ hb182u)) ?_
                  refine s_cf I k5 rfl (law20uWishes_ok (zle hZ rfl rfl) (.inl z0) I.l 6511 (zpv rfl) m456u (lent_ hka0 rfl) h342u) no_any fun g460u v458u s461u I p459u => ?_
                  exact ⟨_, rfl, s461u, I, (nwc (pf_row rfl rfl p459u) nwn)⟩
                · intro ρ g I av
                  have hr462u := av 15 _ rfl (by kernel_rfl)
                  obtain ⟨v466u, hr464u, m465u⟩ := av 17 _ rfl (by kernel_rfl)
                  refine ddo (up1 (up1 rfl hr462u) hr464u) (want_of rfl rfl (beq_ hb182u)) ?_
                  refine s_cf I k12 rfl (clerk_Save_ok (zle hZ rfl rfl) (.inl z0) I.l 6512 (zpv rfl) (Row.sl m465u) (Or.inr (Nat.le_of_ble_eq_true rfl)) h348u) no_any fun g469u v467u s470u I p468u => ?_
                  exact ⟨_, rfl, s470u, I, (nwc (pf_row rfl rfl p468u) nwn)⟩
                · intro ρ g I av
                  have hr471u := av 15 _ rfl (by kernel_rfl)
                  obtain ⟨v475u, hr473u, m474u⟩ := av 18 _ rfl (by kernel_rfl)
                  refine ddo (up1 (up1 rfl hr471u) hr473u) (want_of rfl rfl (beq_ hb182u)) ?_
                  refine s_bs s32 u5 u9 (Sl.rs (Row.sl m474u)) ?_
                  exact ⟨_, rfl, (Stp.refl _ _), I, (nwc (pf_val rfl) nwn)⟩
                · intro ρ g I av
                  obtain ⟨v478u, hr476u, m477u⟩ := av 0 _ rfl (by kernel_rfl)
                  have hr479u := av 15 _ rfl (by kernel_rfl)
                  refine ddo (up1 (up1 rfl hr476u) hr479u) (want_of rfl rfl (beq_ hb182u)) ?_
                  refine s_mv ?_
                  exact ⟨_, rfl, (Stp.refl _ _), I, (nwc (pf_sl rfl rfl m477u) nwn)⟩
                · intro ρ g I av
                  have hr481u := av 15 _ rfl (by kernel_rfl)
                  obtain ⟨v485u, hr483u, m484u⟩ := av 20 _ rfl (by kernel_rfl)
                  refine ddo (up1 (up1 rfl hr481u) hr483u) (want_of rfl rfl (beq_ hb182u)) ?_
                  refine s_cf I k13 rfl (ref20uSave_ok (zle hZ rfl rfl) (.inl z0) I.l 6513 (zpv rfl) m484u (lent_ hka0 rfl) h354u) no_any fun g488u v486u s489u I p487u => ?_
                  exact ⟨_, rfl, s489u, I, (nwc (pf_row rfl rfl p487u) nwn)⟩
                · intro ρ g I av
                  have hr490u := av 15 _ rfl (by kernel_rfl)
                  obtain ⟨v494u, hr492u, m493u⟩ := av 21 _ rfl (by kernel_rfl)
                  refine ddo (up1 (up1 rfl hr490u) hr492u) (want_of rfl rfl (beq_ hb182u)) ?_
                  refine s_bs s32 u5 u9 (Sl.rs (Row.sl m493u)) ?_
                  exact ⟨_, rfl, (Stp.refl _ _), I, (nwc (pf_val rfl) nwn)⟩
                · intro ρ g I av
                  have hr495u := av 15 _ rfl (by kernel_rfl)
                  have hr497u := av 19 _ rfl (by kernel_rfl)
                  have hr499u := av 22 _ rfl (by kernel_rfl)
                  refine ddo (up1 (up1 (up1 rfl hr495u) hr497u) hr499u) (want_of rfl rfl (beq_ hb182u)) ?_
                  refine s_strNe u9 rfl rfl ?_
                  exact ⟨_, rfl, (Stp.refl _ _), I, (nwc (pf_val rfl) nwn)⟩
                · intro ρ g I av
                  have hr501u := av 15 _ rfl (by kernel_rfl)
                  have hr503u := av 23 _ rfl (by kernel_rfl)
                  refine ddo (up1 (up1 rfl hr501u) hr503u) rfl ?_
                  refine s_pF rfl hb182u ?_
                  exact ⟨_, rfl, (Stp.refl _ _), I, (nwc (pf_val rfl) nwn)⟩
                · intro ρ g I av
                  have hr505u := av 24 _ rfl (by kernel_rfl)
                  refine ddo (up1 rfl hr505u) rfl ?_
                  refine s_mv ?_
                  exact ⟨_, rfl, (Stp.refl _ _), I, (nwc (pf_val rfl) nwn)⟩
                · intro ρ g I av
                  have hr507u := av 25 _ rfl (by kernel_rfl)
                  exact dskip (up1 rfl hr507u) (want_of rfl rfl (beq_ hb359u)) rfl nwn
                · intro ρ g I av
                  have hr509u := av 25 _ rfl (by kernel_rfl)
                  exact dskip (up1 rfl hr509u) (want_of rfl rfl (beq_ hb359u)) rfl nwn
                · intro ρ g I av
                  have hr511u := av 25 _ rfl (by kernel_rfl)
                  exact dskip (up1 rfl hr511u) (want_of rfl rfl (beq_ hb359u)) rfl (nwc (pf_val rfl) nwn)
                · intro ρ g I av
                  have hr513u := av 25 _ rfl (by kernel_rfl)
                  have hr515u := av 26 _ rfl (by kernel_rfl)
                  refine ddo (up1 (up1 rfl hr513u) hr515u) rfl ?_
                  refine s_pT rfl hb359u ?_
                  exact ⟨_, rfl, (Stp.refl _ _), I, (nwc (pf_val rfl) nwn)⟩
                · intro ρ g I av
                  have hr517u := av 27 _ rfl (by kernel_rfl)
                  refine ddo (up1 rfl hr517u) rfl ?_
                  refine s_mv ?_
                  exact ⟨_, rfl, (Stp.refl _ _), I, (nwc (pf_val rfl) nwn)⟩
                · intro ρ g I av
                  have hr519u := av 28 _ rfl (by kernel_rfl)
                  exact dskip (up1 rfl hr519u) (want_of rfl rfl rfl) rfl nwn
                · intro ρ g I av
                  have hr521u := av 28 _ rfl (by kernel_rfl)
                  exact dskip (up1 rfl hr521u) (want_of rfl rfl rfl) rfl nwn
                · intro ρ g I av
                  have hr523u := av 28 _ rfl (by kernel_rfl)
                  exact dskip (up1 rfl hr523u) (want_of rfl rfl rfl) rfl nwn
                · intro ρ g I av
                  have hr525u := av 28 _ rfl (by kernel_rfl)
                  exact dskip (up1 rfl hr525u) (want_of rfl rfl rfl) rfl nwn
                · intro ρ g I av
                  have hr527u := av 28 _ rfl (by kernel_rfl)
                  exact dskip (up1 rfl hr527u) (want_of rfl rfl rfl) rfl (nwc (pf_val rfl) nwn)
                · intro ρ g I av
                  have hr529u := av 28 _ rfl (by kernel_rfl)
                  have hr531u := av 29 _ rfl (by kernel_rfl)
                  refine ddo (up1 (up1 rfl hr529u) hr531u) rfl ?_
                  refine s_pT rfl rfl ?_
                  exact ⟨_, rfl, (Stp.refl _ _), I, (nwc (pf_val rfl) nwn)⟩
                · intro ρ g I av
                  have hr533u := av 30 _ rfl (by kernel_rfl)
                  refine ddo (up1 rfl hr533u) rfl ?_
                  refine s_mv ?_
                  exact ⟨_, rfl, (Stp.refl _ _), I, (nwc (pf_val rfl) nwn)⟩
                · intro ρ g I av
                  have hr535u := av 31 _ rfl (by kernel_rfl)
                  exact dskip (up1 rfl hr535u) (want_of rfl rfl rfl) rfl nwn
                · intro ρ g I av
                  have hr537u := av 31 _ rfl (by kernel_rfl)
                  exact dskip (up1 rfl hr537u) (want_of rfl rfl rfl) rfl nwn
                · intro ρ g I av
                  have hr539u := av 31 _ rfl (by kernel_rfl)
                  exact dskip (up1 rfl hr539u) (want_of rfl rfl rfl) rfl nwn
                · intro ρ g I av
                  have hr541u := av 31 _ rfl (by kernel_rfl)
                  exact dskip (up1 rfl hr541u) (want_of rfl rfl rfl) rfl nwn
                · intro ρ g I av
                  have hr543u := av 31 _ rfl (by kernel_rfl)
                  exact dskip (up1 rfl hr543u) (want_of rfl rfl rfl) rfl nwn
                · intro ρ g I av
                  have hr545u := av 31 _ rfl (by kernel_rfl)
                  exact dskip (up1 rfl hr545u) (want_of rfl rfl rfl) rfl nwn
                · intro ρ g I av
                  have hr547u := av 31 _ rfl (by kernel_rfl)
                  exact dskip (up1 rfl hr547u) (want_of rfl rfl rfl) rfl nwn
                · intro ρ g I av
                  have hr549u := av 31 _ rfl (by kernel_rfl)
                  exact dskip (up1 rfl hr549u) (want_of rfl rfl rfl) rfl (nwc (pf_val rfl) nwn)
                · intro ρ g I av
                  have hr551u := av 31 _ rfl (by kernel_rfl)
                  have hr553u := av 32 _ rfl (by kernel_rfl)
                  refine ddo (up1 (up1 rfl hr551u) hr553u) rfl ?_
                  refine s_pT rfl rfl ?_
                  exact ⟨_, rfl, (Stp.refl _ _), I, (nwc (pf_val rfl) nwn)⟩
                · intro ρ g I av
                  obtain ⟨L360u, hb361u, hl362u, ha363u⟩ := av 4 _ rfl rfl
                  obtain ⟨L364u, hb365u, hl366u, ha367u⟩ := av 2 _ rfl rfl
                  obtain ⟨v370u, hr368u, m369u⟩ := av 0 _ rfl rfl
                  have hr371u := av 3 _ rfl rfl
                  have hr373u := av 1 _ rfl rfl
                  have hr375u := av 33 _ rfl rfl
                  refine ⟨_, (up1 (up1 (up1 (up1 rfl hr368u) hr371u) hr373u) hr375u), ?_⟩
                  refine EW.condS rfl rfl (fun hb => ?_) (fun hb => (tf_ rfl hb).elim)
                  refine EW.seq ?_
                  refine EW.region (by kernel_rfl) ?_
                  refine EWL.op rfl ?_
                  refine s_as ?_
                  refine EW.ret ?_
                  obtain rfl := som hF0
                  refine ends1 (.inl rfl)  ?_
                  exact ret_ (g := g) I lo hZ z0 rfl rfl
              · replace hF0 := bif_f hb359u hF0
                rcases Bool.eq_false_or_eq_true (decide (r125u.2 ≠ r135u.2)) with hb555u | hb555u
                · replace hF0 := bif_t hb555u hF0
                  refine EW.drawn [(7, 4, 3), (13, 12, 3), (12, 11, 3), (11, 10, 3), (16, 15, 3), (15, 10, 3), (10, 9, 3), (9, 8, 3), (8, 4, 3)] [⟨SF.sl 0 k_ref20uWish rfl ka0 a0, none, none⟩, ⟨SF.val 9 (.pointer (some ⟨b109u, 0, none⟩)), none, none⟩, ⟨SF.bx b109u 6505 42 k_clerk_Wish rfl x99u, none, none⟩, ⟨SF.val 4 (.pointer (some ⟨b1u, 0, none⟩)), none, none⟩, ⟨SF.bx b1u 6501 31 k_ref20uWish rfl a1, none, none⟩, ⟨SF.val 11 (.int .i64 r125u.2), none, none⟩, ⟨SF.val 13 (.int .i64 r135u.2), none, none⟩, ⟨SF.sl 58 k_ref20uWish rfl ka0 a0, some 0, none⟩, ⟨SF.row 59 42 k_clerk_Wish rfl 6508 r145u, some 1, some 3⟩, ⟨SF.agg 60 k_clerk_Wish rfl x99u, some 2, none⟩, ⟨SF.sl 61 k_clerk_Wish rfl 0 r156u, some 3, none⟩, ⟨SF.row 62 31 k_ref20uWish rfl 6509 r162u, some 4, none⟩, ⟨SF.sl 63 k_ref20uWish rfl ka0 a0, some 5, none⟩, ⟨SF.agg 64 k_ref20uWish rfl a1, some 6, none⟩, ⟨SF.row 65 31 k_ref20uWish rfl 6510 r170u, some 7, none⟩, ⟨SF.val 66 (.bool r176u), some 8, none⟩, ⟨SF.val 67 (.bool (!r176u)), some 9, none⟩, ⟨SF.val 68 (.bool (!r176u)), some 10, none⟩, ⟨SF.sl 69 k_ref20uWish rfl ka0 a0, some 11, none⟩, ⟨SF.row 70 42 k_clerk_Wish rfl 6511 r341u, some 12, none⟩, ⟨SF.row 71 5 (kInt .u8) rfl 6512 r347u, some 13, none⟩, ⟨SF.val 72 (.string (strOfNums r347u)), some 14, none⟩, ⟨SF.sl 73 k_ref20uWish rfl ka0 a0, some 15, none⟩, ⟨SF.row 74 5 (kInt .u8) rfl 6513 r353u, some 16, none⟩, ⟨SF.val 75 (.string (strOfNums r353u)), some 17, none⟩, ⟨SF.val 76 (.bool (decide ((strOfNums r347u) ≠ (strOfNums r353u)))), some 18, none⟩, ⟨SF.val 77 (.bool (decide ((strOfNums r347u) ≠ (strOfNums r353u)))), some 19, none⟩, ⟨SF.val 78 (.bool (decide ((strOfNums r347u) ≠ (strOfNums r353u)))), some 20, none⟩, ⟨SF.val 79 (.int .i64 r125u.2), some 21, none⟩, ⟨SF.val 80 (.int .i64 r135u.2), some 22, none⟩, ⟨SF.val 81 (.bool (decide (r125u.2 ≠ r135u.2))), some 23, none⟩, ⟨SF.val 82 (.bool (decide (r125u.2 ≠ r135u.2))), some 24, none⟩, ⟨SF.val 83 (.bool (decide (r125u.2 ≠ r135u.2))), some 25, none⟩, ⟨SF.val 88 (undef), some 30, none⟩, ⟨SF.val 89 (.bool true), some 31, none⟩, ⟨SF.val 90 (.bool true), some 32, none⟩, ⟨SF.val 98 (undef), some 40, none⟩, ⟨SF.val 99 (.bool true), some 41, none⟩] [(3, at_ 6508)] (by kernel_rfl) (by kernel_rfl) (by kernel_rfl) ?_ I ?_ (dcons ?_ (dcons ?_ (dcons ?_ (dcons ?_ (dcons ?_ (dcons ?_ (dcons ?_ (dcons ?_ (dcons ?_ (dcons ?_ (dcons ?_ (dcons ?_ (dcons ?_ (dcons ?_ (dcons ?_ (dcons ?_ (dcons ?_ (dcons ?_ (dcons ?_ (dcons ?_ (dcons ?_ (dcons ?_ (dcons ?_ (dcons ?_ (dcons ?_ (dcons ?_ (dcons ?_ (dcons ?_ (dcons ?_ (dcons ?_ (dcons ?_ (dcons ?_ (dcons ?_ (dcons ?_ (dcons ?_ (dcons ?_ (dcons ?_ (dcons ?_ (dcons ?_ (dcons ?_ (dcons ?_ (dcons ?_ dnil)))))))))))))))))))))))))))))))))))))))))) ?_
                  · exact (And.intro (And.intro (Nat.ne_of_beq_eq_false rfl) (And.intro (And.intro (ne_ld hka0 rfl rfl) trivial) (And.intro trivial (And.intro (And.intro (Nat.ne_of_beq_eq_false rfl) trivial) (And.intro trivial (And.intro (And.intro (Nat.ne_of_beq_eq_false rfl) trivial) (And.intro trivial (And.intro trivial (And.intro (And.intro (ne_ld hka0 rfl rfl) trivial) (And.intro trivial (And.intro trivial (And.intro trivial (And.intro trivial (And.intro (And.intro (ne_ld hka0 rfl rfl) trivial) (And.intro trivial (And.intro trivial (And.intro trivial (And.intro trivial (And.intro trivial (And.intro trivial (And.intro trivial (And.intro trivial (And.intro trivial (And.intro trivial (And.intro trivial (And.intro trivial (And.intro trivial (And.intro trivial (And.intro trivial (And.intro trivial (And.intro trivial (And.intro trivial (And.intro trivial (And.intro trivial (And.intro trivial (And.intro trivial (And.intro trivial (And.intro trivial (And.intro trivial trivial))))))))))))))))))))))))))))))))))))))) trivial)
                  · exact (nwc (pf_sl rfl rfl (Sl.up rfl s140u no_ no_ (Sl.up rfl s130u no_ no_ (Sl.up rfl s118u (Nat.ne_of_beq_eq_false rfl) (ne_ld hka0 rfl rfl) (Sl.up rfl s115u no_ no_ (Sl.up rfl s98u no_ no_ (Sl.up rfl s92u no_ no_ m35u))))))) (nwc (pf_val rfl) (nwc (pf_bx rfl (Blk.up s140u no_ (Blk.up s130u no_ hb120u)) hl124u (At.up (At.up ha123u s130u no_ nc0) s140u no_ nc0)) (nwc (pf_val rfl) (nwc (pf_bx rfl (Blk.up s140u no_ (Blk.up s130u no_ (Blk.up s118u (Nat.ne_of_beq_eq_false rfl) (Blk.up s115u no_ (Blk.up s98u no_ (Blk.up s92u no_ hb48u)))))) hl50u (At.up (At.up (At.up (At.up (At.up (At.up ha49u s92u no_ nc0) s98u no_ nc0) s115u no_ nc0) s118u (Nat.ne_of_beq_eq_false rfl) nc0) s130u no_ nc0) s140u no_ nc0)) (nwc (pf_val rfl) (nwc (pf_val rfl) nwn)))))))
                  · intro ρ g I av
                    obtain ⟨v575u, hr573u, m574u⟩ := av 0 _ rfl (by kernel_rfl)
                    refine ddo (up1 rfl hr573u) rfl ?_
                    refine s_mv ?_
                    exact ⟨_, rfl, (Stp.refl _ _), I, (nwc (pf_sl rfl rfl m574u) nwn)⟩
                  · intro ρ g I av
                    obtain ⟨v578u, hr576u, m577u⟩ := av 7 _ rfl (by kernel_rfl)
                    refine ddo (up1 rfl hr576u) rfl ?_
                    refine s_cf I k5 rfl (law20uWishes_ok (zle hZ rfl rfl) (.inl z0) I.l 6508 (zpv rfl) m577u (lent_ hka0 rfl) h146u) no_any fun g581u v579u s582u I p580u => ?_
                    exact ⟨_, rfl, s582u, I, (nwc (pf_row rfl rfl p580u) nwn)⟩
                  · intro ρ g I av
                    obtain ⟨L583u, hb584u, hl585u, ha586u⟩ := av 2 _ rfl (by kernel_rfl)
                    have hr587u := av 1 _ rfl (by kernel_rfl)
                    refine ddo (up1 rfl hr587u) rfl ?_
                    refine s_ldK t42 rfl (Blk.cells hb584u) ha586u rfl rfl fun cs589u m590u => ?_
                    exact ⟨_, rfl, (Stp.refl _ _), I, (nwc (pf_agg rfl rfl m590u) nwn)⟩
                  · intro ρ g I av
                    obtain ⟨v593u, hr591u, m592u⟩ := av 8 _ rfl (by kernel_rfl)
                    obtain ⟨_, hr594u, m595u⟩ := av 9 _ rfl (by kernel_rfl)
                    refine ddo (up1 (up1 rfl hr591u) hr594u) rfl ?_
                    have m596u := Row.rc rfl (by decide) m592u 0
                    have s598u := Stp.rc1 g 6508 0
                    replace I := I.to s598u (Lo.rc (d := 0) I.l (.inl z0)) (at_in (zpv rfl))
                    obtain ⟨g597u, rc_⟩ : ∃ q, q = g.rc 6508 (6508 + 1) 0 := ⟨_, rfl⟩
                    rw [← rc_] at m596u s598u I
                    refine stp.wld (w := g597u.w) (by rw [rc_]; rfl) ?_
                    clear rc_
                    refine s_cf I k10 rfl (clerk_Add_ok (zle hZ rfl rfl) (.inl z0) I.l (Row.sl m596u) (Kd.upK rfl s598u (Nat.ne_of_beq_eq_false rfl) m595u) h157u) no_any fun g601u v599u s602u I p600u => ?_
                    exact ⟨_, rfl, (stpc s598u s602u (fun _ h => h) no_any), I, (nwc (pf_sl rfl rfl p600u) nwn)⟩
                  · intro ρ g I av
                    obtain ⟨v605u, hr603u, m604u⟩ := av 10 _ rfl (by kernel_rfl)
                    refine ddo (up1 rfl hr603u) rfl ?_
                    refine s_cf I k9 rfl (law20uFrom_ok (zle hZ rfl rfl) (.inl z0) I.l 6509 (zpv rfl) m604u (Or.inl rfl) h163u) no_any fun g608u v606u s609u I p607u => ?_
                    exact ⟨_, rfl, s609u, I, (nwc (pf_row rfl rfl p607u) nwn)⟩
                  · intro ρ g I av
                    obtain ⟨v612u, hr610u, m611u⟩ := av 0 _ rfl (by kernel_rfl)
                    refine ddo (up1 rfl hr610u) rfl ?_
                    refine s_mv ?_
                    exact ⟨_, rfl, (Stp.refl _ _), I, (nwc (pf_sl rfl rfl m611u) nwn)⟩
                  · intro ρ g I av
                    obtain ⟨L613u, hb614u, hl615u, ha616u⟩ := av 4 _ rfl (by kernel_rfl)
                    have hr617u := av 3 _ rfl (by kernel_rfl)
                    refine ddo (up1 rfl hr617u) rfl ?_
                    refine s_ldK t31 rfl (Blk.cells hb614u) ha616u rfl rfl fun cs619u m620u => ?_
                    exact ⟨_, rfl, (Stp.refl _ _), I, (nwc (pf_agg rfl rfl m620u) nwn)⟩
                  · intro ρ g I av
                    obtain ⟨v623u, hr621u, m622u⟩ := av 12 _ rfl (by kernel_rfl)
                    obtain ⟨_, hr624u, m625u⟩ := av 13 _ rfl (by kernel_rfl)
                    refine ddo (up1 (up1 rfl hr621u) hr624u) rfl ?_
                    refine s_cf I k11 rfl (ref20uAdd_ok (zle hZ rfl rfl) (.inl z0) I.l 6510 (zpv rfl) m622u (lent_ hka0 rfl) m625u h171u) no_any fun g628u v626u s629u I p627u => ?_
                    exact ⟨_, rfl, s629u, I, (nwc (pf_row rfl rfl p627u) nwn)⟩
                  · intro ρ g I av
                    obtain ⟨v632u, hr630u, m631u⟩ := av 11 _ rfl (by kernel_rfl)
                    obtain ⟨v635u, hr633u, m634u⟩ := av 14 _ rfl (by kernel_rfl)
                    refine ddo (up1 (up1 rfl hr630u) hr633u) rfl ?_
                    refine s_cf I k8 rfl (ref20uAlike_ok (zle hZ rfl rfl) (.inl z0) I.l (Row.sl m631u) (Or.inr (Nat.le_of_ble_eq_true rfl)) (Row.sl m634u) (Or.inr (Nat.le_of_ble_eq_true rfl)) h177u) no_any fun g638u v636u s639u I p637u => ?_
                    obtain rfl := p637u
                    exact ⟨_, rfl, s639u, I, (nwc (pf_val rfl) nwn)⟩
                  · intro ρ g I av
                    have hr640u := av 15 _ rfl (by kernel_rfl)
                    refine ddo (up1 rfl hr640u) rfl ?_
                    refine s_not rfl ?_
                    exact ⟨_, rfl, (Stp.refl _ _), I, (nwc (pf_val rfl) nwn)⟩
                  · intro ρ g I av
                    have hr642u := av 16 _ rfl (by kernel_rfl)
                    refine ddo (up1 rfl hr642u) rfl ?_
                    refine s_mv ?_
                    exact ⟨_, rfl, (Stp.refl _ _), I, (nwc (pf_val rfl) nwn)⟩
                  · intro ρ g I av
                    obtain ⟨v646u, hr644u, m645u⟩ := av 0 _ rfl (by kernel_rfl)
                    have hr647u := av 17 _ rfl (by kernel_rfl)
                    refine ddo (up1 (up1 rfl hr644u) hr647u) (want_of rfl rfl (beq_ hb182u)) ?_
                    refine s_mv ?_
                    exact ⟨_, rfl, (Stp.refl _ _), I, (nwc (pf_sl rfl rfl m645u) nwn)⟩
                  · intro ρ g I av
                    have hr649u := av 17 _ rfl (by kernel_rfl)
                    obtain ⟨v653u, hr651u, m652u⟩ := av 18 _ rfl (by kernel_rfl)
                    refine ddo (up1 (up1 rfl hr649u) hr651u) (want_of rfl rfl (beq_ hb182u)) ?_
                    refine s_cf I k5 rfl (law20uWishes_ok (zle hZ rfl rfl) (.inl z0) I.l 6511 (zpv rfl) m652u (lent_ hka0 rfl) h342u) no_any fun g656u v654u s657u I p655u => ?_
                    exact ⟨_, rfl, s657u, I, (nwc (pf_row rfl rfl p655u) nwn)⟩
                  · intro ρ g I av
                    have hr658u := av 17 _ rfl (by kernel_rfl)
                    obtain ⟨v662u, hr660u, m661u⟩ := av 19 _ rfl (by kernel_rfl)
                    refine ddo (up1 (up1 rfl hr658u) hr660u) (want_of rfl rfl (beq_ hb182u)) ?_
                    refine s_cf I k12 rfl (clerk_Save_ok (zle hZ rfl rfl) (.inl z0) I.l 6512 (zpv rfl) (Row.sl m661u) (Or.inr (Nat.le_of_ble_eq_true rfl)) h348u) no_any fun g665u v663u s666u I p664u => ?_
                    exact ⟨_, rfl, s666u, I, (nwc (pf_row rfl rfl p664u) nwn)⟩
                  · intro ρ g I av
                    have hr667u := av 17 _ rfl (by kernel_rfl)
                    obtain ⟨v671u, hr669u, m670u⟩ := av 20 _ rfl (by kernel_rfl)
                    refine ddo (up1 (up1 rfl hr667u) hr669u) (want_of rfl rfl (beq_ hb182u)) ?_
                    refine s_bs s32 u5 u9 (Sl.rs (Row.sl m670u)) ?_
                    exact ⟨_, rfl, (Stp.refl _ _), I, (nwc (pf_val rfl) nwn)⟩
                  · intro ρ g I av
                    obtain ⟨v674u, hr672u, m673u⟩ := av 0 _ rfl (by kernel_rfl)
                    have hr675u := av 17 _ rfl (by kernel_rfl)
                    refine ddo (up1 (up1 rfl hr672u) hr675u) (want_of rfl rfl (beq_ hb182u)) ?_
                    refine s_mv ?_
                    exact ⟨_, rfl, (Stp.refl _ _), I, (nwc (pf_sl rfl rfl m673u) nwn)⟩
                  · intro ρ g I av
                    have hr677u := av 17 _ rfl (by kernel_rfl)
                    obtain ⟨v681u, hr679u, m680u⟩ := av 22 _ rfl (by kernel_rfl)
                    refine ddo (up1 (up1 rfl hr677u) hr679u) (want_of rfl rfl (beq_ hb182u)) ?_
                    refine s_cf I k13 rfl (ref20uSave_ok (zle hZ rfl rfl) (.inl z0) I.l 6513 (zpv rfl) m680u (lent_ hka0 rfl) h354u) no_any fun g684u v682u s685u I p683u => ?_
                    exact ⟨_, rfl, s685u, I, (nwc (pf_row rfl rfl p683u) nwn)⟩
                  · intro ρ g I av
                    have hr686u := av 17 _ rfl (by kernel_rfl)
                    obtain ⟨v690u, hr688u, m689u⟩ := av 23 _ rfl (by kernel_rfl)
                    refine ddo (up1 (up1 rfl hr686u) hr688u) (want_of rfl rfl (beq_ hb182u)) ?_
                    refine s_bs s32 u5 u9 (Sl.rs (Row.sl m689u)) ?_
                    exact ⟨_, rfl, (Stp.refl _ _), I, (nwc (pf_val rfl) nwn)⟩
                  · intro ρ g I av
                    have hr691u := av 17 _ rfl (by kernel_rfl)
                    have hr693u := av 21 _ rfl (by kernel_rfl)
                    have hr695u := av 24 _ rfl (by kernel_rfl)
                    refine ddo (up1 (up1 (up1 rfl hr691u) hr693u) hr695u) (want_of rfl rfl (beq_ hb182u)) ?_
                    refine s_strNe u9 rfl rfl ?_
                    exact ⟨_, rfl, (Stp.refl _ _), I, (nwc (pf_val rfl) nwn)⟩
                  · intro ρ g I av
                    have hr697u := av 17 _ rfl (by kernel_rfl)
                    have hr699u := av 25 _ rfl (by kernel_rfl)
                    refine ddo (up1 (up1 rfl hr697u) hr699u) rfl ?_
                    refine s_pF rfl hb182u ?_
                    exact ⟨_, rfl, (Stp.refl _ _), I, (nwc (pf_val rfl) nwn)⟩
                  · intro ρ g I av
                    have hr701u := av 26 _ rfl (by kernel_rfl)
                    refine ddo (up1 rfl hr701u) rfl ?_
                    refine s_mv ?_
                    exact ⟨_, rfl, (Stp.refl _ _), I, (nwc (pf_val rfl) nwn)⟩
                  · intro ρ g I av
                    have hr703u := av 5 _ rfl (by kernel_rfl)
                    have hr705u := av 27 _ rfl (by kernel_rfl)
                    refine ddo (up1 (up1 rfl hr703u) hr705u) (want_of rfl rfl (beq_ hb359u)) ?_
                    refine s_mv ?_
                    exact ⟨_, rfl, (Stp.refl _ _), I, (nwc (pf_val rfl) nwn)⟩
                  · intro ρ g I av
                    have hr707u := av 6 _ rfl (by kernel_rfl)
                    have hr709u := av 27 _ rfl (by kernel_rfl)
                    refine ddo (up1 (up1 rfl hr707u) hr709u) (want_of rfl rfl (beq_ hb359u)) ?_
                    refine s_mv ?_
                    exact ⟨_, rfl, (Stp.refl _ _), I, (nwc (pf_val rfl) nwn)⟩
                  · intro ρ g I av
                    have hr711u := av 27 _ rfl (by kernel_rfl)
                    have hr713u := av 28 _ rfl (by kernel_rfl)
                    have hr715u := av 29 _ rfl (by kernel_rfl)
                    refine ddo (up1 (up1 (up1 rfl hr711u) hr713u) hr715u) (want_of rfl rfl (beq_ hb359u)) ?_
                    refine s_neq rfl rfl ?_
                    exact ⟨_, rfl, (Stp.refl _ _), I, (nwc (pf_val rfl) nwn)⟩
                  · intro ρ g I av
                    have hr717u := av 27 _ rfl (by kernel_rfl)
                    have hr719u := av 30 _ rfl (by kernel_rfl)
                    refine ddo (up1 (up1 rfl hr717u) hr719u) rfl ?_
                    refine s_pF rfl hb359u ?_
                    exact ⟨_, rfl, (Stp.refl _ _), I, (nwc (pf_val rfl) nwn)⟩
                  · intro ρ g I av
                    have hr721u := av 31 _ rfl (by kernel_rfl)
                    refine ddo (up1 rfl hr721u) rfl ?_
                    refine s_mv ?_
                    exact ⟨_, rfl, (Stp.refl _ _), I, (nwc (pf_val rfl) nwn)⟩
                  · intro ρ g I av
                    have hr723u := av 32 _ rfl (by kernel_rfl)
                    exact dskip (up1 rfl hr723u) (want_of rfl rfl (beq_ hb555u)) rfl nwn
                  · intro ρ g I av
                    have hr725u := av 32 _ rfl (by kernel_rfl)
                    exact dskip (up1 rfl hr725u) (want_of rfl rfl (beq_ hb555u)) rfl nwn
                  · intro ρ g I av
                    have hr727u := av 32 _ rfl (by kernel_rfl)
                    exact dskip (up1 rfl hr727u) (want_of rfl rfl (beq_ hb555u)) rfl nwn
                  · intro ρ g I av
                    have hr729u := av 32 _ rfl (by kernel_rfl)
                    exact dskip (up1 rfl hr729u) (want_of rfl rfl (beq_ hb555u)) rfl nwn
                  · intro ρ g I av
                    have hr731u := av 32 _ rfl (by kernel_rfl)
                    exact dskip (up1 rfl hr731u) (want_of rfl rfl (beq_ hb555u)) rfl (nwc (pf_val rfl) nwn)
                  · intro ρ g I av
                    have hr733u := av 32 _ rfl (by kernel_rfl)
                    have hr735u := av 33 _ rfl (by kernel_rfl)
                    refine ddo (up1 (up1 rfl hr733u) hr735u) rfl ?_
                    refine s_pT rfl hb555u ?_
                    exact ⟨_, rfl, (Stp.refl _ _), I, (nwc (pf_val rfl) nwn)⟩
                  · intro ρ g I av
                    have hr737u := av 34 _ rfl (by kernel_rfl)
                    refine ddo (up1 rfl hr737u) rfl ?_
                    refine s_mv ?_
                    exact ⟨_, rfl, (Stp.refl _ _), I, (nwc (pf_val rfl) nwn)⟩
                  · intro ρ g I av
                    have hr739u := av 35 _ rfl (by kernel_rfl)
                    exact dskip (up1 rfl hr739u) (want_of rfl rfl rfl) rfl nwn
                  · intro ρ g I av
                    have hr741u := av 35 _ rfl (by kernel_rfl)
                    exact dskip (up1 rfl hr741u) (want_of rfl rfl rfl) rfl nwn
                  · intro ρ g I av
                    have hr743u := av 35 _ rfl (by kernel_rfl)
                    exact dskip (up1 rfl hr743u) (want_of rfl rfl rfl) rfl nwn
                  · intro ρ g I av
                    have hr745u := av 35 _ rfl (by kernel_rfl)
                    exact dskip (up1 rfl hr745u) (want_of rfl rfl rfl) rfl nwn
                  · intro ρ g I av
                    have hr747u := av 35 _ rfl (by kernel_rfl)
                    exact dskip (up1 rfl hr747u) (want_of rfl rfl rfl) rfl nwn
                  · intro ρ g I av
                    have hr749u := av 35 _ rfl (by kernel_rfl)
                    exact dskip (up1 rfl hr749u) (want_of rfl rfl rfl) rfl nwn
                  · intro ρ g I av
                    have hr751u := av 35 _ rfl (by kernel_rfl)
                    exact dskip (up1 rfl hr751u) (want_of rfl rfl rfl) rfl nwn
                  · intro ρ g I av
                    have hr753u := av 35 _ rfl (by kernel_rfl)
                    exact dskip (up1 rfl hr753u) (want_of rfl rfl rfl) rfl (nwc (pf_val rfl) nwn)
                  · intro ρ g I av
                    have hr755u := av 35 _ rfl (by kernel_rfl)
                    have hr757u := av 36 _ rfl (by kernel_rfl)
                    refine ddo (up1 (up1 rfl hr755u) hr757u) rfl ?_
                    refine s_pT rfl rfl ?_
                    exact ⟨_, rfl, (Stp.refl _ _), I, (nwc (pf_val rfl) nwn)⟩
                  · intro ρ g I av
                    obtain ⟨L556u, hb557u, hl558u, ha559u⟩ := av 4 _ rfl rfl
                    obtain ⟨L560u, hb561u, hl562u, ha563u⟩ := av 2 _ rfl rfl
                    obtain ⟨v566u, hr564u, m565u⟩ := av 0 _ rfl rfl
                    have hr567u := av 3 _ rfl rfl
                    have hr569u := av 1 _ rfl rfl
                    have hr571u := av 37 _ rfl rfl
                    refine ⟨_, (up1 (up1 (up1 (up1 rfl hr564u) hr567u) hr569u) hr571u), ?_⟩
                    refine EW.condS rfl rfl (fun hb => ?_) (fun hb => (tf_ rfl hb).elim)
                    refine EW.seq ?_
                    refine EW.region (by kernel_rfl) ?_
                    refine EWL.op rfl ?_
                    refine s_as ?_
                    refine EW.ret ?_
                    obtain rfl := som hF0
                    refine ends1 (.inl rfl)  ?_
                    exact ret_ (g := g) I lo hZ z0 rfl rfl
                · replace hF0 := bif_f hb555u hF0
                  obtain ⟨r759u, h760u, hF0⟩ := bnd hF0
                  obtain ⟨r765u, h766u, hF0⟩ := bnd hF0
                  rcases Bool.eq_false_or_eq_true (!r765u) with hb771u | hb771u
                  · replace hF0 := bif_t hb771u hF0
                    refine EW.drawn [(7, 4, 3), (13, 12, 3), (12, 11, 3), (11, 10, 3), (27, 26, 3), (26, 25, 3), (28, 25, 3), (25, 24, 3), (24, 23, 3), (23, 22, 3), (22, 20, 3), (20, 19, 3), (19, 18, 3), (18, 17, 3), (17, 16, 3), (16, 15, 3), (15, 10, 3), (10, 9, 3), (9, 8, 3), (8, 4, 3)] [⟨SF.sl 0 k_ref20uWish rfl ka0 a0, none, none⟩, ⟨SF.val 9 (.pointer (some ⟨b109u, 0, none⟩)), none, none⟩, ⟨SF.bx b109u 6505 42 k_clerk_Wish rfl x99u, none, none⟩, ⟨SF.val 4 (.pointer (some ⟨b1u, 0, none⟩)), none, none⟩, ⟨SF.bx b1u 6501 31 k_ref20uWish rfl a1, none, none⟩, ⟨SF.val 11 (.int .i64 r125u.2), none, none⟩, ⟨SF.val 13 (.int .i64 r135u.2), none, none⟩, ⟨SF.row 10 42 k_clerk_Wish rfl 6506 r125u.1, none, none⟩, ⟨SF.row 12 31 k_ref20uWish rfl 6507 r135u.1, none, none⟩, ⟨SF.sl 58 k_ref20uWish rfl ka0 a0, some 0, none⟩, ⟨SF.row 59 42 k_clerk_Wish rfl 6508 r145u, some 1, some 3⟩, ⟨SF.agg 60 k_clerk_Wish rfl x99u, some 2, none⟩, ⟨SF.sl 61 k_clerk_Wish rfl 0 r156u, some 3, none⟩, ⟨SF.row 62 31 k_ref20uWish rfl 6509 r162u, some 4, none⟩, ⟨SF.sl 63 k_ref20uWish rfl ka0 a0, some 5, none⟩, ⟨SF.agg 64 k_ref20uWish rfl a1, some 6, none⟩, ⟨SF.row 65 31 k_ref20uWish rfl 6510 r170u, some 7, none⟩, ⟨SF.val 66 (.bool r176u), some 8, none⟩, ⟨SF.val 67 (.bool (!r176u)), some 9, none⟩, ⟨SF.val 68 (.bool (!r176u)), some 10, none⟩, ⟨SF.sl 69 k_ref20uWish rfl ka0 a0, some 11, none⟩, ⟨SF.row 70 42 k_clerk_Wish rfl 6511 r341u, some 12, none⟩, ⟨SF.row 71 5 (kInt .u8) rfl 6512 r347u, some 13, none⟩, ⟨SF.val 72 (.string (strOfNums r347u)), some 14, none⟩, ⟨SF.sl 73 k_ref20uWish rfl ka0 a0, some 15, none⟩, ⟨SF.row 74 5 (kInt .u8) rfl 6513 r353u, some 16, none⟩, ⟨SF.val 75 (.string (strOfNums r353u)), some 17, none⟩, ⟨SF.val 76 (.bool (decide ((strOfNums r347u) ≠ (strOfNums r353u)))), some 18, none⟩, ⟨SF.val 77 (.bool (decide ((strOfNums r347u) ≠ (strOfNums r353u)))), some 19, none⟩, ⟨SF.val 78 (.bool (decide ((strOfNums r347u) ≠ (strOfNums r353u)))), some 20, none⟩, ⟨SF.val 79 (.int .i64 r125u.2), some 21, none⟩, ⟨SF.val 80 (.int .i64 r135u.2), some 22, none⟩, ⟨SF.val 81 (.bool (decide (r125u.2 ≠ r135u.2))), some 23, none⟩, ⟨SF.val 82 (.bool (decide (r125u.2 ≠ r135u.2))), some 24, none⟩, ⟨SF.val 83 (.bool (decide (r125u.2 ≠ r135u.2))), some 25, none⟩, ⟨SF.row 84 42 k_clerk_Wish rfl 6506 r125u.1, some 26, none⟩, ⟨SF.row 85 31 k_ref20uWish rfl 6514 r759u, some 27, none⟩, ⟨SF.row 86 31 k_ref20uWish rfl 6507 r135u.1, some 28, none⟩, ⟨SF.val 87 (.bool r765u), some 29, none⟩, ⟨SF.val 88 (.bool (!r765u)), some 30, none⟩, ⟨SF.val 89 (.bool (!r765u)), some 31, none⟩, ⟨SF.val 90 (.bool (!r765u)), some 32, none⟩, ⟨SF.val 98 (undef), some 40, none⟩, ⟨SF.val 99 (.bool true), some 41, none⟩] [(3, at_ 6508)] (by kernel_rfl) (by kernel_rfl) (by kernel_rfl) ?_ I ?_ (dcons ?_ (dcons ?_ (dcons ?_ (dcons ?_ (dcons ?_ (dcons ?_ (dcons ?_ (dcons ?_ (dcons ?_ (dcons ?_ (dcons ?_ (dcons ?_ (dcons ?_ (dcons ?_ (dcons ?_ (dcons ?_ (dcons ?_ (dcons ?_ (dcons ?_ (dcons ?_ (dcons ?_ (dcons ?_ (dcons ?_ (dcons ?_ (dcons ?_ (dcons ?_ (dcons ?_ (dcons ?_ (dcons ?_ (dcons ?_ (dcons ?_ (dcons ?_ (dcons ?_ (dcons ?_ (dcons ?_ (dcons ?_ (dcons ?_ (dcons ?_ (dcons ?_ (dcons ?_ (dcons ?_ (dcons ?_ dnil)))))))))))))))))))))))))))))))))))))))))) ?_
                    · exact (And.intro (And.intro (Nat.ne_of_beq_eq_false rfl) (And.intro (And.intro (ne_ld hka0 rfl rfl) trivial) (And.intro trivial (And.intro (And.intro (Nat.ne_of_beq_eq_false rfl) trivial) (And.intro trivial (And.intro (And.intro (Nat.ne_of_beq_eq_false rfl) trivial) (And.intro trivial (And.intro trivial (And.intro (And.intro (Nat.ne_of_beq_eq_false rfl) trivial) (And.intro (And.intro (Nat.ne_of_beq_eq_false rfl) trivial) (And.intro (And.intro (ne_ld hka0 rfl rfl) trivial) (And.intro trivial (And.intro trivial (And.intro trivial (And.intro trivial (And.intro (And.intro (ne_ld hka0 rfl rfl) trivial) (And.intro trivial (And.intro trivial (And.intro trivial (And.intro trivial (And.intro trivial (And.intro trivial (And.intro trivial (And.intro trivial (And.intro trivial (And.intro trivial (And.intro trivial (And.intro trivial (And.intro trivial (And.intro trivial (And.intro trivial (And.intro trivial (And.intro trivial (And.intro trivial (And.intro trivial (And.intro trivial (And.intro trivial (And.intro trivial (And.intro trivial (And.intro trivial (And.intro trivial (And.intro trivial (And.intro trivial (And.intro trivial (And.intro trivial trivial))))))))))))))))))))))))))))))))))))))))))))) trivial)
                    · exact (nwc (pf_sl rfl rfl (Sl.up rfl s140u no_ no_ (Sl.up rfl s130u no_ no_ (Sl.up rfl s118u (Nat.ne_of_beq_eq_false rfl) (ne_ld hka0 rfl rfl) (Sl.up rfl s115u no_ no_ (Sl.up rfl s98u no_ no_ (Sl.up rfl s92u no_ no_ m35u))))))) (nwc (pf_val rfl) (nwc (pf_bx rfl (Blk.up s140u no_ (Blk.up s130u no_ hb120u)) hl124u (At.up (At.up ha123u s130u no_ nc0) s140u no_ nc0)) (nwc (pf_val rfl) (nwc (pf_bx rfl (Blk.up s140u no_ (Blk.up s130u no_ (Blk.up s118u (Nat.ne_of_beq_eq_false rfl) (Blk.up s115u no_ (Blk.up s98u no_ (Blk.up s92u no_ hb48u)))))) hl50u (At.up (At.up (At.up (At.up (At.up (At.up ha49u s92u no_ nc0) s98u no_ nc0) s115u no_ nc0) s118u (Nat.ne_of_beq_eq_false rfl) nc0) s130u no_ nc0) s140u no_ nc0)) (nwc (pf_val rfl) (nwc (pf_val rfl) (nwc (pf_row rfl rfl (Row.up rfl s140u no_ no_ p131u)) (nwc (pf_row rfl rfl p141u) nwn)))))))))
                    · intro ρ g I av
                      obtain ⟨v791u, hr789u, m790u⟩ := av 0 _ rfl (by kernel_rfl)
                      refine ddo (up1 rfl hr789u) rfl ?_
                      refine s_mv ?_
                      exact ⟨_, rfl, (Stp.refl _ _), I, (nwc (pf_sl rfl rfl m790u) nwn)⟩
                    · intro ρ g I av
                      obtain ⟨v794u, hr792u, m793u⟩ := av 9 _ rfl (by kernel_rfl)
                      refine ddo (up1 rfl hr792u) rfl ?_
                      refine s_cf I k5 rfl (law20uWishes_ok (zle hZ rfl rfl) (.inl z0) I.l 6508 (zpv rfl) m793u (lent_ hka0 rfl) h146u) no_any fun g797u v795u s798u I p796u => ?_
                      exact ⟨_, rfl, s798u, I, (nwc (pf_row rfl rfl p796u) nwn)⟩
                    · intro ρ g I av
                      obtain ⟨L799u, hb800u, hl801u, ha802u⟩ := av 2 _ rfl (by kernel_rfl)
                      have hr803u := av 1 _ rfl (by kernel_rfl)
                      refine ddo (up1 rfl hr803u) rfl ?_
                      refine s_ldK t42 rfl (Blk.cells hb800u) ha802u rfl rfl fun cs805u m806u => ?_
                      exact ⟨_, rfl, (Stp.refl _ _), I, (nwc (pf_agg rfl rfl m806u) nwn)⟩
                    · intro ρ g I av
                      obtain ⟨v809u, hr807u, m808u⟩ := av 10 _ rfl (by kernel_rfl)
                      obtain ⟨_, hr810u, m811u⟩ := av 11 _ rfl (by kernel_rfl)
                      refine ddo (up1 (up1 rfl hr807u) hr810u) rfl ?_
                      have m812u := Row.rc rfl (by decide) m808u 0
                      have s814u := Stp.rc1 g 6508 0
                      replace I := I.to s814u (Lo.rc (d := 0) I.l (.inl z0)) (at_in (zpv rfl))
                      obtain ⟨g813u, rc_⟩ : ∃ q, q = g.rc 6508 (6508 + 1) 0 := ⟨_, rfl⟩
                      rw [← rc_] at m812u s814u I
                      refine stp.wld (w := g813u.w) (by rw [rc_]; rfl) ?_
                      clear rc_
                      refine s_cf I k10 rfl (clerk_Add_ok (zle hZ rfl rfl) (.inl z0) I.l (Row.sl m812u) (Kd.upK rfl s814u (Nat.ne_of_beq_eq_false rfl) m811u) h157u) no_any fun g817u v815u s818u I p816u => ?_
                      exact ⟨_, rfl, (stpc s814u s818u (fun _ h => h) no_any), I, (nwc (pf_sl rfl rfl p816u) nwn)⟩
                    · intro ρ g I av
                      obtain ⟨v821u, hr819u, m820u⟩ := av 12 _ rfl (by kernel_rfl)
                      refine ddo (up1 rfl hr819u) rfl ?_
                      refine s_cf I k9 rfl (law20uFrom_ok (zle hZ rfl rfl) (.inl z0) I.l 6509 (zpv rfl) m820u (Or.inl rfl) h163u) no_any fun g824u v822u s825u I p823u => ?_
                      exact ⟨_, rfl, s825u, I, (nwc (pf_row rfl rfl p823u) nwn)⟩
                    · intro ρ g I av
                      obtain ⟨v828u, hr826u, m827u⟩ := av 0 _ rfl (by kernel_rfl)
                      refine ddo (up1 rfl hr826u) rfl ?_
                      refine s_mv ?_
                      exact ⟨_, rfl, (Stp.refl _ _), I, (nwc (pf_sl rfl rfl m827u) nwn)⟩
                    · intro ρ g I av
                      obtain ⟨L829u, hb830u, hl831u, ha832u⟩ := av 4 _ rfl (by kernel_rfl)
                      have hr833u := av 3 _ rfl (by kernel_rfl)
                      refine ddo (up1 rfl hr833u) rfl ?_
                      refine s_ldK t31 rfl (Blk.cells hb830u) ha832u rfl rfl fun cs835u m836u => ?_
                      exact ⟨_, rfl, (Stp.refl _ _), I, (nwc (pf_agg rfl rfl m836u) nwn)⟩
                    · intro ρ g I av
                      obtain ⟨v839u, hr837u, m838u⟩ := av 14 _ rfl (by kernel_rfl)
                      obtain ⟨_, hr840u, m841u⟩ := av 15 _ rfl (by kernel_rfl)
                      refine ddo (up1 (up1 rfl hr837u) hr840u) rfl ?_
                      refine s_cf I k11 rfl (ref20uAdd_ok (zle hZ rfl rfl) (.inl z0) I.l 6510 (zpv rfl) m838u (lent_ hka0 rfl) m841u h171u) no_any fun g844u v842u s845u I p843u => ?_
                      exact ⟨_, rfl, s845u, I, (nwc (pf_row rfl rfl p843u) nwn)⟩
                    · intro ρ g I av
                      obtain ⟨v848u, hr846u, m847u⟩ := av 13 _ rfl (by kernel_rfl)
                      obtain ⟨v851u, hr849u, m850u⟩ := av 16 _ rfl (by kernel_rfl)
                      refine ddo (up1 (up1 rfl hr846u) hr849u) rfl ?_
                      refine s_cf I k8 rfl (ref20uAlike_ok (zle hZ rfl rfl) (.inl z0) I.l (Row.sl m847u) (Or.inr (Nat.le_of_ble_eq_true rfl)) (Row.sl m850u) (Or.inr (Nat.le_of_ble_eq_true rfl)) h177u) no_any fun g854u v852u s855u I p853u => ?_
                      obtain rfl := p853u
                      exact ⟨_, rfl, s855u, I, (nwc (pf_val rfl) nwn)⟩
                    · intro ρ g I av
                      have hr856u := av 17 _ rfl (by kernel_rfl)
                      refine ddo (up1 rfl hr856u) rfl ?_
                      refine s_not rfl ?_
                      exact ⟨_, rfl, (Stp.refl _ _), I, (nwc (pf_val rfl) nwn)⟩
                    · intro ρ g I av
                      have hr858u := av 18 _ rfl (by kernel_rfl)
                      refine ddo (up1 rfl hr858u) rfl ?_
                      refine s_mv ?_
                      exact ⟨_, rfl, (Stp.refl _ _), I, (nwc (pf_val rfl) nwn)⟩
                    · intro ρ g I av
                      obtain ⟨v862u, hr860u, m861u⟩ := av 0 _ rfl (by kernel_rfl)
                      have hr863u := av 19 _ rfl (by kernel_rfl)
                      refine ddo (up1 (up1 rfl hr860u) hr863u) (want_of rfl rfl (beq_ hb182u)) ?_
                      refine s_mv ?_
                      exact ⟨_, rfl, (Stp.refl _ _), I, (nwc (pf_sl rfl rfl m861u) nwn)⟩
                    · intro ρ g I av
                      have hr865u := av 19 _ rfl (by kernel_rfl)
                      obtain ⟨v869u, hr867u, m868u⟩ := av 20 _ rfl (by kernel_rfl)
                      refine ddo (up1 (up1 rfl hr865u) hr867u) (want_of rfl rfl (beq_ hb182u)) ?_
                      refine s_cf I k5 rfl (law20uWishes_ok (zle hZ rfl rfl) (.inl z0) I.l 6511 (zpv rfl) m868u (lent_ hka0 rfl) h342u) no_any fun g872u v870u s873u I p871u => ?_
                      exact ⟨_, rfl, s873u, I, (nwc (pf_row rfl rfl p871u) nwn)⟩
                    · intro ρ g I av
                      have hr874u := av 19 _ rfl (by kernel_rfl)
                      obtain ⟨v878u, hr876u, m877u⟩ := av 21 _ rfl (by kernel_rfl)
                      refine ddo (up1 (up1 rfl hr874u) hr876u) (want_of rfl rfl (beq_ hb182u)) ?_
                      refine s_cf I k12 rfl (clerk_Save_ok (zle hZ rfl rfl) (.inl z0) I.l 6512 (zpv rfl) (Row.sl m877u) (Or.inr (Nat.le_of_ble_eq_true rfl)) h348u) no_any fun g881u v879u s882u I p880u => ?_
                      exact ⟨_, rfl, s882u, I, (nwc (pf_row rfl rfl p880u) nwn)⟩
                    · intro ρ g I av
                      have hr883u := av 19 _ rfl (by kernel_rfl)
                      obtain ⟨v887u, hr885u, m886u⟩ := av 22 _ rfl (by kernel_rfl)
                      refine ddo (up1 (up1 rfl hr883u) hr885u) (want_of rfl rfl (beq_ hb182u)) ?_
                      refine s_bs s32 u5 u9 (Sl.rs (Row.sl m886u)) ?_
                      exact ⟨_, rfl, (Stp.refl _ _), I, (nwc (pf_val rfl) nwn)⟩
                    · intro ρ g I av
                      obtain ⟨v890u, hr888u, m889u⟩ := av 0 _ rfl (by kernel_rfl)
                      have hr891u := av 19 _ rfl (by kernel_rfl)
                      refine ddo (up1 (up1 rfl hr888u) hr891u) (want_of rfl rfl (beq_ hb182u)) ?_
                      refine s_mv ?_
                      exact ⟨_, rfl, (Stp.refl _ _), I, (nwc (pf_sl rfl rfl m889u) nwn)⟩
                    · intro ρ g I av
                      have hr893u := av 19 _ rfl (by kernel_rfl)
                      obtain ⟨v897u, hr895u, m896u⟩ := av 24 _ rfl (by kernel_rfl)
                      refine ddo (up1 (up1 rfl hr893u) hr895u) (want_of rfl rfl (beq_ hb182u)) ?_
                      refine s_cf I k13 rfl (ref20uSave_ok (zle hZ rfl rfl) (.inl z0) I.l 6513 (zpv rfl) m896u (lent_ hka0 rfl) h354u) no_any fun g900u v898u s901u I p899u => ?_
                      exact ⟨_, rfl, s901u, I, (nwc (pf_row rfl rfl p899u) nwn)⟩
                    · intro ρ g I av
                      have hr902u := av 19 _ rfl (by kernel_rfl)
                      obtain ⟨v906u, hr904u, m905u⟩ := av 25 _ rfl (by kernel_rfl)
                      refine ddo (up1 (up1 rfl hr902u) hr904u) (want_of rfl rfl (beq_ hb182u)) ?_
                      refine s_bs s32 u5 u9 (Sl.rs (Row.sl m905u)) ?_
                      exact ⟨_, rfl, (Stp.refl _ _), I, (nwc (pf_val rfl) nwn)⟩
                    · intro ρ g I av
                      have hr907u := av 19 _ rfl (by kernel_rfl)
                      have hr909u := av 23 _ rfl (by kernel_rfl)
                      have hr911u := av 26 _ rfl (by kernel_rfl)
                      refine ddo (up1 (up1 (up1 rfl hr907u) hr909u) hr911u) (want_of rfl rfl (beq_ hb182u)) ?_
                      refine s_strNe u9 rfl rfl ?_
                      exact ⟨_, rfl, (Stp.refl _ _), I, (nwc (pf_val rfl) nwn)⟩
                    · intro ρ g I av
                      have hr913u := av 19 _ rfl (by kernel_rfl)
                      have hr915u := av 27 _ rfl (by kernel_rfl)
                      refine ddo (up1 (up1 rfl hr913u) hr915u) rfl ?_
                      refine s_pF rfl hb182u ?_
                      exact ⟨_, rfl, (Stp.refl _ _), I, (nwc (pf_val rfl) nwn)⟩
                    · intro ρ g I av
                      have hr917u := av 28 _ rfl (by kernel_rfl)
                      refine ddo (up1 rfl hr917u) rfl ?_
                      refine s_mv ?_
                      exact ⟨_, rfl, (Stp.refl _ _), I, (nwc (pf_val rfl) nwn)⟩
                    · intro ρ g I av
                      have hr919u := av 5 _ rfl (by kernel_rfl)
                      have hr921u := av 29 _ rfl (by kernel_rfl)
                      refine ddo (up1 (up1 rfl hr919u) hr921u) (want_of rfl rfl (beq_ hb359u)) ?_
                      refine s_mv ?_
                      exact ⟨_, rfl, (Stp.refl _ _), I, (nwc (pf_val rfl) nwn)⟩
                    · intro ρ g I av
                      have hr923u := av 6 _ rfl (by kernel_rfl)
                      have hr925u := av 29 _ rfl (by kernel_rfl)
                      refine ddo (up1 (up1 rfl hr923u) hr925u) (want_of rfl rfl (beq_ hb359u)) ?_
                      refine s_mv ?_
                      exact ⟨_, rfl, (Stp.refl _ _), I, (nwc (pf_val rfl) nwn)⟩
                    · intro ρ g I av
                      have hr927u := av 29 _ rfl (by kernel_rfl)
                      have hr929u := av 30 _ rfl (by kernel_rfl)
                      have hr931u := av 31 _ rfl (by kernel_rfl)
                      refine ddo (up1 (up1 (up1 rfl hr927u) hr929u) hr931u) (want_of rfl rfl (beq_ hb359u)) ?_
                      refine s_neq rfl rfl ?_
                      exact ⟨_, rfl, (Stp.refl _ _), I, (nwc (pf_val rfl) nwn)⟩
                    · intro ρ g I av
                      have hr933u := av 29 _ rfl (by kernel_rfl)
                      have hr935u := av 32 _ rfl (by kernel_rfl)
                      refine ddo (up1 (up1 rfl hr933u) hr935u) rfl ?_
                      refine s_pF rfl hb359u ?_
                      exact ⟨_, rfl, (Stp.refl _ _), I, (nwc (pf_val rfl) nwn)⟩
                    · intro ρ g I av
                      have hr937u := av 33 _ rfl (by kernel_rfl)
                      refine ddo (up1 rfl hr937u) rfl ?_
                      refine s_mv ?_
                      exact ⟨_, rfl, (Stp.refl _ _), I, (nwc (pf_val rfl) nwn)⟩
                    · intro ρ g I av
                      obtain ⟨v941u, hr939u, m940u⟩ := av 7 _ rfl (by kernel_rfl)
                      have hr942u := av 34 _ rfl (by kernel_rfl)
                      refine ddo (up1 (up1 rfl hr939u) hr942u) (want_of rfl rfl (beq_ hb555u)) ?_
                      refine s_mv ?_
                      exact ⟨_, rfl, (Stp.refl _ _), I, (nwc (pf_row rfl rfl m940u) nwn)⟩
                    · intro ρ g I av
                      have hr944u := av 34 _ rfl (by kernel_rfl)
                      obtain ⟨v948u, hr946u, m947u⟩ := av 35 _ rfl (by kernel_rfl)
                      refine ddo (up1 (up1 rfl hr944u) hr946u) (want_of rfl rfl (beq_ hb555u)) ?_
                      refine s_cf I k9 rfl (law20uFrom_ok (zle hZ rfl rfl) (.inl z0) I.l 6514 (zpv rfl) (Row.sl m947u) (Or.inr (Nat.le_of_ble_eq_true rfl)) h760u) no_any fun g951u v949u s952u I p950u => ?_
                      exact ⟨_, rfl, s952u, I, (nwc (pf_row rfl rfl p950u) nwn)⟩
                    · intro ρ g I av
                      obtain ⟨v955u, hr953u, m954u⟩ := av 8 _ rfl (by kernel_rfl)
                      have hr956u := av 34 _ rfl (by kernel_rfl)
                      refine ddo (up1 (up1 rfl hr953u) hr956u) (want_of rfl rfl (beq_ hb555u)) ?_
                      refine s_mv ?_
                      exact ⟨_, rfl, (Stp.refl _ _), I, (nwc (pf_row rfl rfl m954u) nwn)⟩
                    · intro ρ g I av
                      have hr958u := av 34 _ rfl (by kernel_rfl)
                      obtain ⟨v962u, hr960u, m961u⟩ := av 36 _ rfl (by kernel_rfl)
                      obtain ⟨v965u, hr963u, m964u⟩ := av 37 _ rfl (by kernel_rfl)
                      refine ddo (up1 (up1 (up1 rfl hr958u) hr960u) hr963u) (want_of rfl rfl (beq_ hb555u)) ?_
                      refine s_cf I k8 rfl (ref20uAlike_ok (zle hZ rfl rfl) (.inl z0) I.l (Row.sl m961u) (Or.inr (Nat.le_of_ble_eq_true rfl)) (Row.sl m964u) (Or.inr (Nat.le_of_ble_eq_true rfl)) h766u) no_any fun g968u v966u s969u I p967u => ?_
                      obtain rfl := p967u
                      exact ⟨_, rfl, s969u, I, (nwc (pf_val rfl) nwn)⟩
                    · intro ρ g I av
                      have hr970u := av 34 _ rfl (by kernel_rfl)
                      have hr972u := av 38 _ rfl (by kernel_rfl)
                      refine ddo (up1 (up1 rfl hr970u) hr972u) (want_of rfl rfl (beq_ hb555u)) ?_
                      refine s_not rfl ?_
                      exact ⟨_, rfl, (Stp.refl _ _), I, (nwc (pf_val rfl) nwn)⟩
                    · intro ρ g I av
                      have hr974u := av 34 _ rfl (by kernel_rfl)
                      have hr976u := av 39 _ rfl (by kernel_rfl)
                      refine ddo (up1 (up1 rfl hr974u) hr976u) rfl ?_
                      refine s_pF rfl hb555u ?_
                      exact ⟨_, rfl, (Stp.refl _ _), I, (nwc (pf_val rfl) nwn)⟩
                    · intro ρ g I av
                      have hr978u := av 40 _ rfl (by kernel_rfl)
                      refine ddo (up1 rfl hr978u) rfl ?_
                      refine s_mv ?_
                      exact ⟨_, rfl, (Stp.refl _ _), I, (nwc (pf_val rfl) nwn)⟩
                    · intro ρ g I av
                      have hr980u := av 41 _ rfl (by kernel_rfl)
                      exact dskip (up1 rfl hr980u) (want_of rfl rfl (beq_ hb771u)) rfl nwn
                    · intro ρ g I av
                      have hr982u := av 41 _ rfl (by kernel_rfl)
                      exact dskip (up1 rfl hr982u) (want_of rfl rfl (beq_ hb771u)) rfl nwn
                    · intro ρ g I av
                      have hr984u := av 41 _ rfl (by kernel_rfl)
                      exact dskip (up1 rfl hr984u) (want_of rfl rfl (beq_ hb771u)) rfl nwn
                    · intro ρ g I av
                      have hr986u := av 41 _ rfl (by kernel_rfl)
                      exact dskip (up1 rfl hr986u) (want_of rfl rfl (beq_ hb771u)) rfl nwn
                    · intro ρ g I av
                      have hr988u := av 41 _ rfl (by kernel_rfl)
                      exact dskip (up1 rfl hr988u) (want_of rfl rfl (beq_ hb771u)) rfl nwn
                    · intro ρ g I av
                      have hr990u := av 41 _ rfl (by kernel_rfl)
                      exact dskip (up1 rfl hr990u) (want_of rfl rfl (beq_ hb771u)) rfl nwn
                    · intro ρ g I av
                      have hr992u := av 41 _ rfl (by kernel_rfl)
                      exact dskip (up1 rfl hr992u) (want_of rfl rfl (beq_ hb771u)) rfl nwn
                    · intro ρ g I av
                      have hr994u := av 41 _ rfl (by kernel_rfl)
                      exact dskip (up1 rfl hr994u) (want_of rfl rfl (beq_ hb771u)) rfl (nwc (pf_val rfl) nwn)
                    · intro ρ g I av
                      have hr996u := av 41 _ rfl (by kernel_rfl)
                      have hr998u := av 42 _ rfl (by kernel_rfl)
                      refine ddo (up1 (up1 rfl hr996u) hr998u) rfl ?_
                      refine s_pT rfl hb771u ?_
                      exact ⟨_, rfl, (Stp.refl _ _), I, (nwc (pf_val rfl) nwn)⟩
                    · intro ρ g I av
                      obtain ⟨L772u, hb773u, hl774u, ha775u⟩ := av 4 _ rfl rfl
                      obtain ⟨L776u, hb777u, hl778u, ha779u⟩ := av 2 _ rfl rfl
                      obtain ⟨v782u, hr780u, m781u⟩ := av 0 _ rfl rfl
                      have hr783u := av 3 _ rfl rfl
                      have hr785u := av 1 _ rfl rfl
                      have hr787u := av 43 _ rfl rfl
                      refine ⟨_, (up1 (up1 (up1 (up1 rfl hr780u) hr783u) hr785u) hr787u), ?_⟩
                      refine EW.condS rfl rfl (fun hb => ?_) (fun hb => (tf_ rfl hb).elim)
                      refine EW.seq ?_
                      refine EW.region (by kernel_rfl) ?_
                      refine EWL.op rfl ?_
                      refine s_as ?_
                      refine EW.ret ?_
                      obtain rfl := som hF0
                      refine ends1 (.inl rfl)  ?_
                      exact ret_ (g := g) I lo hZ z0 rfl rfl
                  · replace hF0 := bif_f hb771u hF0
                    obtain ⟨r1002u, h1003u, hF0⟩ := bnd hF0
                    obtain ⟨r1014u, h1015u, hF0⟩ := bnd hF0
                    obtain ⟨r1026u, h1027u, hF0⟩ := bnd hF0
                    refine EW.drawn [(7, 4, 3), (13, 12, 3), (12, 11, 3), (11, 10, 3), (27, 26, 3), (26, 25, 3), (36, 35, 3), (35, 34, 3), (34, 33, 3), (33, 32, 3), (38, 37, 3), (37, 32, 3), (32, 31, 3), (31, 30, 3), (30, 29, 3), (29, 28, 3), (28, 25, 3), (25, 24, 3), (24, 23, 3), (23, 22, 3), (22, 20, 3), (20, 19, 3), (19, 18, 3), (18, 17, 3), (17, 16, 3), (16, 15, 3), (15, 10, 3), (10, 9, 3), (9, 8, 3), (8, 4, 3)] [⟨SF.sl 0 k_ref20uWish rfl ka0 a0, none, none⟩, ⟨SF.val 9 (.pointer (some ⟨b109u, 0, none⟩)), none, none⟩, ⟨SF.bx b109u 6505 42 k_clerk_Wish rfl x99u, none, none⟩, ⟨SF.val 4 (.pointer (some ⟨b1u, 0, none⟩)), none, none⟩, ⟨SF.bx b1u 6501 31 k_ref20uWish rfl a1, none, none⟩, ⟨SF.val 11 (.int .i64 r125u.2), none, none⟩, ⟨SF.val 13 (.int .i64 r135u.2), none, none⟩, ⟨SF.row 10 42 k_clerk_Wish rfl 6506 r125u.1, none, none⟩, ⟨SF.row 12 31 k_ref20uWish rfl 6507 r135u.1, none, none⟩, ⟨SF.sl 58 k_ref20uWish rfl ka0 a0, some 0, none⟩, ⟨SF.row 59 42 k_clerk_Wish rfl 6508 r145u, some 1, some 3⟩, ⟨SF.agg 60 k_clerk_Wish rfl x99u, some 2, none⟩, ⟨SF.sl 61 k_clerk_Wish rfl 0 r156u, some 3, none⟩, ⟨SF.row 62 31 k_ref20uWish rfl 6509 r162u, some 4, none⟩, ⟨SF.sl 63 k_ref20uWish rfl ka0 a0, some 5, none⟩, ⟨SF.agg 64 k_ref20uWish rfl a1, some 6, none⟩, ⟨SF.row 65 31 k_ref20uWish rfl 6510 r170u, some 7, none⟩, ⟨SF.val 66 (.bool r176u), some 8, none⟩, ⟨SF.val 67 (.bool (!r176u)), some 9, none⟩, ⟨SF.val 68 (.bool (!r176u)), some 10, none⟩, ⟨SF.sl 69 k_ref20uWish rfl ka0 a0, some 11, none⟩, ⟨SF.row 70 42 k_clerk_Wish rfl 6511 r341u, some 12, none⟩, ⟨SF.row 71 5 (kInt .u8) rfl 6512 r347u, some 13, none⟩, ⟨SF.val 72 (.string (strOfNums r347u)), some 14, none⟩, ⟨SF.sl 73 k_ref20uWish rfl ka0 a0, some 15, none⟩, ⟨SF.row 74 5 (kInt .u8) rfl 6513 r353u, some 16, none⟩, ⟨SF.val 75 (.string (strOfNums r353u)), some 17, none⟩, ⟨SF.val 76 (.bool (decide ((strOfNums r347u) ≠ (strOfNums r353u)))), some 18, none⟩, ⟨SF.val 77 (.bool (decide ((strOfNums r347u) ≠ (strOfNums r353u)))), some 19, none⟩, ⟨SF.val 78 (.bool (decide ((strOfNums r347u) ≠ (strOfNums r353u)))), some 20, none⟩, ⟨SF.val 79 (.int .i64 r125u.2), some 21, none⟩, ⟨SF.val 80 (.int .i64 r135u.2), some 22, none⟩, ⟨SF.val 81 (.bool (decide (r125u.2 ≠ r135u.2))), some 23, none⟩, ⟨SF.val 82 (.bool (decide (r125u.2 ≠ r135u.2))), some 24, none⟩, ⟨SF.val 83 (.bool (decide (r125u.2 ≠ r135u.2))), some 25, none⟩, ⟨SF.row 84 42 k_clerk_Wish rfl 6506 r125u.1, some 26, none⟩, ⟨SF.row 85 31 k_ref20uWish rfl 6514 r759u, some 27, none⟩, ⟨SF.row 86 31 k_ref20uWish rfl 6507 r135u.1, some 28, none⟩, ⟨SF.val 87 (.bool r765u), some 29, none⟩, ⟨SF.val 88 (.bool (!r765u)), some 30, none⟩, ⟨SF.val 89 (.bool (!r765u)), some 31, none⟩, ⟨SF.val 90 (.bool (!r765u)), some 32, none⟩, ⟨SF.agg 91 k_clerk_Wish rfl x99u, some 33, none⟩, ⟨SF.agg 92 k_clerk_Wish rfl r1002u, some 34, none⟩, ⟨SF.row 93 42 k_clerk_Wish rfl 6515 ([r1002u] : List clerk_Wish), some 35, none⟩, ⟨SF.row 94 31 k_ref20uWish rfl 6516 r1014u, some 36, none⟩, ⟨SF.agg 95 k_ref20uWish rfl a1, some 37, none⟩, ⟨SF.row 96 31 k_ref20uWish rfl 6517 ([a1] : List ref20uWish), some 38, none⟩, ⟨SF.val 97 (.bool r1026u), some 39, none⟩, ⟨SF.val 98 (.bool (!r1026u)), some 40, none⟩, ⟨SF.val 99 (.bool (!r1026u)), some 41, none⟩] [(3, at_ 6508)] (by kernel_rfl) (by kernel_rfl) (by kernel_rfl) ?_ I ?_ (dcons ?_ (dcons ?_ (dcons ?_ (dcons ?_ (dcons ?_ (dcons ?_ (dcons ?_ (dcons ?_ (dcons ?_ (dcons ?_ (dcons ?_ (dcons ?_ (dcons ?_ (dcons ?_ (dcons ?_ (dcons ?_ (dcons ?_ (dcons ?_ (dcons ?_ (dcons ?_ (dcons ?_ (dcons ?_ (dcons ?_ (dcons ?_ (dcons ?_ (dcons ?_ (dcons ?_ (dcons ?_ (dcons ?_ (dcons ?_ (dcons ?_ (dcons ?_ (dcons ?_ (dcons ?_ (dcons ?_ (dcons ?_ (dcons ?_ (dcons ?_ (dcons ?_ (dcons ?_ (dcons ?_ (dcons ?_ dnil)))))))))))))))))))))))))))))))))))))))))) ?_
                    · exact (And.intro (And.intro (Nat.ne_of_beq_eq_false rfl) (And.intro (And.intro (ne_ld hka0 rfl rfl) trivial) (And.intro trivial (And.intro (And.intro (Nat.ne_of_beq_eq_false rfl) trivial) (And.intro trivial (And.intro (And.intro (Nat.ne_of_beq_eq_false rfl) trivial) (And.intro trivial (And.intro trivial (And.intro (And.intro (Nat.ne_of_beq_eq_false rfl) trivial) (And.intro (And.intro (Nat.ne_of_beq_eq_false rfl) trivial) (And.intro (And.intro (ne_ld hka0 rfl rfl) trivial) (And.intro trivial (And.intro trivial (And.intro trivial (And.intro trivial (And.intro (And.intro (ne_ld hka0 rfl rfl) trivial) (And.intro trivial (And.intro trivial (And.intro trivial (And.intro trivial (And.intro trivial (And.intro trivial (And.intro trivial (And.intro trivial (And.intro trivial (And.intro trivial (And.intro trivial (And.intro trivial (And.intro trivial (And.intro trivial (And.intro trivial (And.intro trivial (And.intro trivial (And.intro trivial (And.intro trivial (And.intro trivial (And.intro trivial (And.intro trivial (And.intro trivial (And.intro trivial (And.intro trivial (And.intro trivial (And.intro trivial (And.intro trivial (And.intro trivial (And.intro trivial (And.intro trivial (And.intro trivial (And.intro trivial (And.intro trivial (And.intro trivial (And.intro trivial trivial)))))))))))))))))))))))))))))))))))))))))))))))))))) trivial)
                    · exact (nwc (pf_sl rfl rfl (Sl.up rfl s140u no_ no_ (Sl.up rfl s130u no_ no_ (Sl.up rfl s118u (Nat.ne_of_beq_eq_false rfl) (ne_ld hka0 rfl rfl) (Sl.up rfl s115u no_ no_ (Sl.up rfl s98u no_ no_ (Sl.up rfl s92u no_ no_ m35u))))))) (nwc (pf_val rfl) (nwc (pf_bx rfl (Blk.up s140u no_ (Blk.up s130u no_ hb120u)) hl124u (At.up (At.up ha123u s130u no_ nc0) s140u no_ nc0)) (nwc (pf_val rfl) (nwc (pf_bx rfl (Blk.up s140u no_ (Blk.up s130u no_ (Blk.up s118u (Nat.ne_of_beq_eq_false rfl) (Blk.up s115u no_ (Blk.up s98u no_ (Blk.up s92u no_ hb48u)))))) hl50u (At.up (At.up (At.up (At.up (At.up (At.up ha49u s92u no_ nc0) s98u no_ nc0) s115u no_ nc0) s118u (Nat.ne_of_beq_eq_false rfl) nc0) s130u no_ nc0) s140u no_ nc0)) (nwc (pf_val rfl) (nwc (pf_val rfl) (nwc (pf_row rfl rfl (Row.up rfl s140u no_ no_ p131u)) (nwc (pf_row rfl rfl p141u) nwn)))))))))
                    · intro ρ g I av
                      obtain ⟨v1051u, hr1049u, m1050u⟩ := av 0 _ rfl (by kernel_rfl)
                      refine ddo (up1 rfl hr1049u) rfl ?_
                      refine s_mv ?_
                      exact ⟨_, rfl, (Stp.refl _ _), I, (nwc (pf_sl rfl rfl m1050u) nwn)⟩
                    · intro ρ g I av
                      obtain ⟨v1054u, hr1052u, m1053u⟩ := av 9 _ rfl (by kernel_rfl)
                      refine ddo (up1 rfl hr1052u) rfl ?_
                      refine s_cf I k5 rfl (law20uWishes_ok (zle hZ rfl rfl) (.inl z0) I.l 6508 (zpv rfl) m1053u (lent_ hka0 rfl) h146u) no_any fun g1057u v1055u s1058u I p1056u => ?_
                      exact ⟨_, rfl, s1058u, I, (nwc (pf_row rfl rfl p1056u) nwn)⟩
                    · intro ρ g I av
                      obtain ⟨L1059u, hb1060u, hl1061u, ha1062u⟩ := av 2 _ rfl (by kernel_rfl)
                      have hr1063u := av 1 _ rfl (by kernel_rfl)
                      refine ddo (up1 rfl hr1063u) rfl ?_
                      refine s_ldK t42 rfl (Blk.cells hb1060u) ha1062u rfl rfl fun cs1065u m1066u => ?_
                      exact ⟨_, rfl, (Stp.refl _ _), I, (nwc (pf_agg rfl rfl m1066u) nwn)⟩
                    · intro ρ g I av
                      obtain ⟨v1069u, hr1067u, m1068u⟩ := av 10 _ rfl (by kernel_rfl)
                      obtain ⟨_, hr1070u, m1071u⟩ := av 11 _ rfl (by kernel_rfl)
                      refine ddo (up1 (up1 rfl hr1067u) hr1070u) rfl ?_
                      have m1072u := Row.rc rfl (by decide) m1068u 0
                      have s1074u := Stp.rc1 g 6508 0
                      replace I := I.to s1074u (Lo.rc (d := 0) I.l (.inl z0)) (at_in (zpv rfl))
                      obtain ⟨g1073u, rc_⟩ : ∃ q, q = g.rc 6508 (6508 + 1) 0 := ⟨_, rfl⟩
                      rw [← rc_] at m1072u s1074u I
                      refine stp.wld (w := g1073u.w) (by rw [rc_]; rfl) ?_
                      clear rc_
                      refine s_cf I k10 rfl (clerk_Add_ok (zle hZ rfl rfl) (.inl z0) I.l (Row.sl m1072u) (Kd.upK rfl s1074u (Nat.ne_of_beq_eq_false rfl) m1071u) h157u) no_any fun g1077u v1075u s1078u I p1076u => ?_
                      exact ⟨_, rfl, (stpc s1074u s1078u (fun _ h => h) no_any), I, (nwc (pf_sl rfl rfl p1076u) nwn)⟩
                    · intro ρ g I av
                      obtain ⟨v1081u, hr1079u, m1080u⟩ := av 12 _ rfl (by kernel_rfl)
                      refine ddo (up1 rfl hr1079u) rfl ?_
                      refine s_cf I k9 rfl (law20uFrom_ok (zle hZ rfl rfl) (.inl z0) I.l 6509 (zpv rfl) m1080u (Or.inl rfl) h163u) no_any fun g1084u v1082u s1085u I p1083u => ?_
                      exact ⟨_, rfl, s1085u, I, (nwc (pf_row rfl rfl p1083u) nwn)⟩
                    · intro ρ g I av
                      obtain ⟨v1088u, hr1086u, m1087u⟩ := av 0 _ rfl (by kernel_rfl)
                      refine ddo (up1 rfl hr1086u) rfl ?_
                      refine s_mv ?_
                      exact ⟨_, rfl, (Stp.refl _ _), I, (nwc (pf_sl rfl rfl m1087u) nwn)⟩
                    · intro ρ g I av
                      obtain ⟨L1089u, hb1090u, hl1091u, ha1092u⟩ := av 4 _ rfl (by kernel_rfl)
                      have hr1093u := av 3 _ rfl (by kernel_rfl)
                      refine ddo (up1 rfl hr1093u) rfl ?_
                      refine s_ldK t31 rfl (Blk.cells hb1090u) ha1092u rfl rfl fun cs1095u m1096u => ?_
                      exact ⟨_, rfl, (Stp.refl _ _), I, (nwc (pf_agg rfl rfl m1096u) nwn)⟩
                    · intro ρ g I av
                      obtain ⟨v1099u, hr1097u, m1098u⟩ := av 14 _ rfl (by kernel_rfl)
                      obtain ⟨_, hr1100u, m1101u⟩ := av 15 _ rfl (by kernel_rfl)
                      refine ddo (up1 (up1 rfl hr1097u) hr1100u) rfl ?_
                      refine s_cf I k11 rfl (ref20uAdd_ok (zle hZ rfl rfl) (.inl z0) I.l 6510 (zpv rfl) m1098u (lent_ hka0 rfl) m1101u h171u) no_any fun g1104u v1102u s1105u I p1103u => ?_
                      exact ⟨_, rfl, s1105u, I, (nwc (pf_row rfl rfl p1103u) nwn)⟩
                    · intro ρ g I av
                      obtain ⟨v1108u, hr1106u, m1107u⟩ := av 13 _ rfl (by kernel_rfl)
                      obtain ⟨v1111u, hr1109u, m1110u⟩ := av 16 _ rfl (by kernel_rfl)
                      refine ddo (up1 (up1 rfl hr1106u) hr1109u) rfl ?_
                      refine s_cf I k8 rfl (ref20uAlike_ok (zle hZ rfl rfl) (.inl z0) I.l (Row.sl m1107u) (Or.inr (Nat.le_of_ble_eq_true rfl)) (Row.sl m1110u) (Or.inr (Nat.le_of_ble_eq_true rfl)) h177u) no_any fun g1114u v1112u s1115u I p1113u => ?_
                      obtain rfl := p1113u
                      exact ⟨_, rfl, s1115u, I, (nwc (pf_val rfl) nwn)⟩
                    · intro ρ g I av
                      have hr1116u := av 17 _ rfl (by kernel_rfl)
                      refine ddo (up1 rfl hr1116u) rfl ?_
                      refine s_not rfl ?_
                      exact ⟨_, rfl, (Stp.refl _ _), I, (nwc (pf_val rfl) nwn)⟩
                    · intro ρ g I av
                      have hr1118u := av 18 _ rfl (by kernel_rfl)
                      refine ddo (up1 rfl hr1118u) rfl ?_
                      refine s_mv ?_
                      exact ⟨_, rfl, (Stp.refl _ _), I, (nwc (pf_val rfl) nwn)⟩
                    · intro ρ g I av
                      obtain ⟨v1122u, hr1120u, m1121u⟩ := av 0 _ rfl (by kernel_rfl)
                      have hr1123u := av 19 _ rfl (by kernel_rfl)
                      refine ddo (up1 (up1 rfl hr1120u) hr1123u) (want_of rfl rfl (beq_ hb182u)) ?_
                      refine s_mv ?_
                      exact ⟨_, rfl, (Stp.refl _ _), I, (nwc (pf_sl rfl rfl m1121u) nwn)⟩
                    · intro ρ g I av
                      have hr1125u := av 19 _ rfl (by kernel_rfl)
                      obtain ⟨v1129u, hr1127u, m1128u⟩ := av 20 _ rfl (by kernel_rfl)
                      refine ddo (up1 (up1 rfl hr1125u) hr1127u) (want_of rfl rfl (beq_ hb182u)) ?_
                      refine s_cf I k5 rfl (law20uWishes_ok (zle hZ rfl rfl) (.inl z0) I.l 6511 (zpv rfl) m1128u (lent_ hka0 rfl) h342u) no_any fun g1132u v1130u s1133u I p1131u => ?_
                      exact ⟨_, rfl, s1133u, I, (nwc (pf_row rfl rfl p1131u) nwn)⟩
                    · intro ρ g I av
                      have hr1134u := av 19 _ rfl (by kernel_rfl)
                      obtain ⟨v1138u, hr1136u, m1137u⟩ := av 21 _ rfl (by kernel_rfl)
                      refine ddo (up1 (up1 rfl hr1134u) hr1136u) (want_of rfl rfl (beq_ hb182u)) ?_
                      refine s_cf I k12 rfl (clerk_Save_ok (zle hZ rfl rfl) (.inl z0) I.l 6512 (zpv rfl) (Row.sl m1137u) (Or.inr (Nat.le_of_ble_eq_true rfl)) h348u) no_any fun g1141u v1139u s1142u I p1140u => ?_
                      exact ⟨_, rfl, s1142u, I, (nwc (pf_row rfl rfl p1140u) nwn)⟩
                    · intro ρ g I av
                      have hr1143u := av 19 _ rfl (by kernel_rfl)
                      obtain ⟨v1147u, hr1145u, m1146u⟩ := av 22 _ rfl (by kernel_rfl)
                      refine ddo (up1 (up1 rfl hr1143u) hr1145u) (want_of rfl rfl (beq_ hb182u)) ?_
                      refine s_bs s32 u5 u9 (Sl.rs (Row.sl m1146u)) ?_
                      exact ⟨_, rfl, (Stp.refl _ _), I, (nwc (pf_val rfl) nwn)⟩
                    · intro ρ g I av
                      obtain ⟨v1150u, hr1148u, m1149u⟩ := av 0 _ rfl (by kernel_rfl)
                      have hr1151u := av 19 _ rfl (by kernel_rfl)
                      refine ddo (up1 (up1 rfl hr1148u) hr1151u) (want_of rfl rfl (beq_ hb182u)) ?_
                      refine s_mv ?_
                      exact ⟨_, rfl, (Stp.refl _ _), I, (nwc (pf_sl rfl rfl m1149u) nwn)⟩
                    · intro ρ g I av
                      have hr1153u := av 19 _ rfl (by kernel_rfl)
                      obtain ⟨v1157u, hr1155u, m1156u⟩ := av 24 _ rfl (by kernel_rfl)
                      refine ddo (up1 (up1 rfl hr1153u) hr1155u) (want_of rfl rfl (beq_ hb182u)) ?_
                      refine s_cf I k13 rfl (ref20uSave_ok (zle hZ rfl rfl) (.inl z0) I.l 6513 (zpv rfl) m1156u (lent_ hka0 rfl) h354u) no_any fun g1160u v1158u s1161u I p1159u => ?_
                      exact ⟨_, rfl, s1161u, I, (nwc (pf_row rfl rfl p1159u) nwn)⟩
                    · intro ρ g I av
                      have hr1162u := av 19 _ rfl (by kernel_rfl)
                      obtain ⟨v1166u, hr1164u, m1165u⟩ := av 25 _ rfl (by kernel_rfl)
                      refine ddo (up1 (up1 rfl hr1162u) hr1164u) (want_of rfl rfl (beq_ hb182u)) ?_
                      refine s_bs s32 u5 u9 (Sl.rs (Row.sl m1165u)) ?_
                      exact ⟨_, rfl, (Stp.refl _ _), I, (nwc (pf_val rfl) nwn)⟩
                    · intro ρ g I av
                      have hr1167u := av 19 _ rfl (by kernel_rfl)
                      have hr1169u := av 23 _ rfl (by kernel_rfl)
                      have hr1171u := av 26 _ rfl (by kernel_rfl)
                      refine ddo (up1 (up1 (up1 rfl hr1167u) hr1169u) hr1171u) (want_of rfl rfl (beq_ hb182u)) ?_
                      refine s_strNe u9 rfl rfl ?_
                      exact ⟨_, rfl, (Stp.refl _ _), I, (nwc (pf_val rfl) nwn)⟩
                    · intro ρ g I av
                      have hr1173u := av 19 _ rfl (by kernel_rfl)
                      have hr1175u := av 27 _ rfl (by kernel_rfl)
                      refine ddo (up1 (up1 rfl hr1173u) hr1175u) rfl ?_
                      refine s_pF rfl hb182u ?_
                      exact ⟨_, rfl, (Stp.refl _ _), I, (nwc (pf_val rfl) nwn)⟩
                    · intro ρ g I av
                      have hr1177u := av 28 _ rfl (by kernel_rfl)
                      refine ddo (up1 rfl hr1177u) rfl ?_
                      refine s_mv ?_
                      exact ⟨_, rfl, (Stp.refl _ _), I, (nwc (pf_val rfl) nwn)⟩
                    · intro ρ g I av
                      have hr1179u := av 5 _ rfl (by kernel_rfl)
                      have hr1181u := av 29 _ rfl (by kernel_rfl)
                      refine ddo (up1 (up1 rfl hr1179u) hr1181u) (want_of rfl rfl (beq_ hb359u)) ?_
                      refine s_mv ?_
                      exact ⟨_, rfl, (Stp.refl _ _), I, (nwc (pf_val rfl) nwn)⟩
                    · intro ρ g I av
                      have hr1183u := av 6 _ rfl (by kernel_rfl)
                      have hr1185u := av 29 _ rfl (by kernel_rfl)
                      refine ddo (up1 (up1 rfl hr1183u) hr1185u) (want_of rfl rfl (beq_ hb359u)) ?_
                      refine s_mv ?_
                      exact ⟨_, rfl, (Stp.refl _ _), I, (nwc (pf_val rfl) nwn)⟩
                    · intro ρ g I av
                      have hr1187u := av 29 _ rfl (by kernel_rfl)
                      have hr1189u := av 30 _ rfl (by kernel_rfl)
                      have hr1191u := av 31 _ rfl (by kernel_rfl)
                      refine ddo (up1 (up1 (up1 rfl hr1187u) hr1189u) hr1191u) (want_of rfl rfl (beq_ hb359u)) ?_
                      refine s_neq rfl rfl ?_
                      exact ⟨_, rfl, (Stp.refl _ _), I, (nwc (pf_val rfl) nwn)⟩
                    · intro ρ g I av
                      have hr1193u := av 29 _ rfl (by kernel_rfl)
                      have hr1195u := av 32 _ rfl (by kernel_rfl)
                      refine ddo (up1 (up1 rfl hr1193u) hr1195u) rfl ?_
                      refine s_pF rfl hb359u ?_
                      exact ⟨_, rfl, (Stp.refl _ _), I, (nwc (pf_val rfl) nwn)⟩
                    · intro ρ g I av
                      have hr1197u := av 33 _ rfl (by kernel_rfl)
                      refine ddo (up1 rfl hr1197u) rfl ?_
                      refine s_mv ?_
                      exact ⟨_, rfl, (Stp.refl _ _), I, (nwc (pf_val rfl) nwn)⟩
                    · intro ρ g I av
                      obtain ⟨v1201u, hr1199u, m1200u⟩ := av 7 _ rfl (by kernel_rfl)
                      have hr1202u := av 34 _ rfl (by kernel_rfl)
                      refine ddo (up1 (up1 rfl hr1199u) hr1202u) (want_of rfl rfl (beq_ hb555u)) ?_
                      refine s_mv ?_
                      exact ⟨_, rfl, (Stp.refl _ _), I, (nwc (pf_row rfl rfl m1200u) nwn)⟩
                    · intro ρ g I av
                      have hr1204u := av 34 _ rfl (by kernel_rfl)
                      obtain ⟨v1208u, hr1206u, m1207u⟩ := av 35 _ rfl (by kernel_rfl)
                      refine ddo (up1 (up1 rfl hr1204u) hr1206u) (want_of rfl rfl (beq_ hb555u)) ?_
                      refine s_cf I k9 rfl (law20uFrom_ok (zle hZ rfl rfl) (.inl z0) I.l 6514 (zpv rfl) (Row.sl m1207u) (Or.inr (Nat.le_of_ble_eq_true rfl)) h760u) no_any fun g1211u v1209u s1212u I p1210u => ?_
                      exact ⟨_, rfl, s1212u, I, (nwc (pf_row rfl rfl p1210u) nwn)⟩
                    · intro ρ g I av
                      obtain ⟨v1215u, hr1213u, m1214u⟩ := av 8 _ rfl (by kernel_rfl)
                      have hr1216u := av 34 _ rfl (by kernel_rfl)
                      refine ddo (up1 (up1 rfl hr1213u) hr1216u) (want_of rfl rfl (beq_ hb555u)) ?_
                      refine s_mv ?_
                      exact ⟨_, rfl, (Stp.refl _ _), I, (nwc (pf_row rfl rfl m1214u) nwn)⟩
                    · intro ρ g I av
                      have hr1218u := av 34 _ rfl (by kernel_rfl)
                      obtain ⟨v1222u, hr1220u, m1221u⟩ := av 36 _ rfl (by kernel_rfl)
                      obtain ⟨v1225u, hr1223u, m1224u⟩ := av 37 _ rfl (by kernel_rfl)
                      refine ddo (up1 (up1 (up1 rfl hr1218u) hr1220u) hr1223u) (want_of rfl rfl (beq_ hb555u)) ?_
                      refine s_cf I k8 rfl (ref20uAlike_ok (zle hZ rfl rfl) (.inl z0) I.l (Row.sl m1221u) (Or.inr (Nat.le_of_ble_eq_true rfl)) (Row.sl m1224u) (Or.inr (Nat.le_of_ble_eq_true rfl)) h766u) no_any fun g1228u v1226u s1229u I p1227u => ?_
                      obtain rfl := p1227u
                      exact ⟨_, rfl, s1229u, I, (nwc (pf_val rfl) nwn)⟩
                    · intro ρ g I av
                      have hr1230u := av 34 _ rfl (by kernel_rfl)
                      have hr1232u := av 38 _ rfl (by kernel_rfl)
                      refine ddo (up1 (up1 rfl hr1230u) hr1232u) (want_of rfl rfl (beq_ hb555u)) ?_
                      refine s_not rfl ?_
                      exact ⟨_, rfl, (Stp.refl _ _), I, (nwc (pf_val rfl) nwn)⟩
                    · intro ρ g I av
                      have hr1234u := av 34 _ rfl (by kernel_rfl)
                      have hr1236u := av 39 _ rfl (by kernel_rfl)
                      refine ddo (up1 (up1 rfl hr1234u) hr1236u) rfl ?_
                      refine s_pF rfl hb555u ?_
                      exact ⟨_, rfl, (Stp.refl _ _), I, (nwc (pf_val rfl) nwn)⟩
                    · intro ρ g I av
                      have hr1238u := av 40 _ rfl (by kernel_rfl)
                      refine ddo (up1 rfl hr1238u) rfl ?_
                      refine s_mv ?_
                      exact ⟨_, rfl, (Stp.refl _ _), I, (nwc (pf_val rfl) nwn)⟩
                    · intro ρ g I av
                      obtain ⟨L1240u, hb1241u, hl1242u, ha1243u⟩ := av 2 _ rfl (by kernel_rfl)
                      have hr1244u := av 1 _ rfl (by kernel_rfl)
                      have hr1246u := av 41 _ rfl (by kernel_rfl)
                      refine ddo (up1 (up1 rfl hr1244u) hr1246u) (want_of rfl rfl (beq_ hb771u)) ?_
                      refine s_ldK t42 rfl (Blk.cells hb1241u) ha1243u rfl rfl fun cs1248u m1249u => ?_
                      exact ⟨_, rfl, (Stp.refl _ _), I, (nwc (pf_agg rfl rfl m1249u) nwn)⟩
                    · intro ρ g I av
                      have hr1250u := av 41 _ rfl (by kernel_rfl)
                      obtain ⟨_, hr1252u, m1253u⟩ := av 42 _ rfl (by kernel_rfl)
                      refine ddo (up1 (up1 rfl hr1250u) hr1252u) (want_of rfl rfl (beq_ hb771u)) ?_
                      refine s_cf I k14 rfl (clerk_Wish_Twin_ok (zle hZ rfl rfl) (.inl z0) I.l m1253u h1003u) no_any fun g1256u v1254u s1257u I p1255u => ?_
                      obtain ⟨cs1258u, rfl, m1259u⟩ := p1255u
                      exact ⟨_, rfl, s1257u, I, (nwc (pf_agg rfl rfl m1259u) nwn)⟩
                    · intro ρ g I av
                      have hr1260u := av 41 _ rfl (by kernel_rfl)
                      obtain ⟨_, hr1262u, m1263u⟩ := av 43 _ rfl (by kernel_rfl)
                      refine ddo (up1 (up1 rfl hr1260u) hr1262u) (want_of rfl rfl (beq_ hb771u)) ?_
                      refine s_bslK (kd := k_clerk_Wish) (xs := ([r1002u] : List clerk_Wish)) 6515 I s43 t42 z42 rfl rfl (by decide) rfl (by decide) (And.intro (congrArg some (kl (d := k_clerk_Wish) m1263u).symm) (trivial)) (Seg.flat (d := k_clerk_Wish) (g := g) (alls m1263u alle)) rfl (zpv rfl) fun g1266u v1264u s1267u I m1265u => ?_
                      exact ⟨_, rfl, s1267u, I, (nwc (pf_row rfl rfl m1265u) nwn)⟩
                    · intro ρ g I av
                      have hr1268u := av 41 _ rfl (by kernel_rfl)
                      obtain ⟨v1272u, hr1270u, m1271u⟩ := av 44 _ rfl (by kernel_rfl)
                      refine ddo (up1 (up1 rfl hr1268u) hr1270u) (want_of rfl rfl (beq_ hb771u)) ?_
                      refine s_cf I k9 rfl (law20uFrom_ok (zle hZ rfl rfl) (.inl z0) I.l 6516 (zpv rfl) (Row.sl m1271u) (Or.inr (Nat.le_of_ble_eq_true rfl)) h1015u) no_any fun g1275u v1273u s1276u I p1274u => ?_
                      exact ⟨_, rfl, s1276u, I, (nwc (pf_row rfl rfl p1274u) nwn)⟩
                    · intro ρ g I av
                      obtain ⟨L1277u, hb1278u, hl1279u, ha1280u⟩ := av 4 _ rfl (by kernel_rfl)
                      have hr1281u := av 3 _ rfl (by kernel_rfl)
                      have hr1283u := av 41 _ rfl (by kernel_rfl)
                      refine ddo (up1 (up1 rfl hr1281u) hr1283u) (want_of rfl rfl (beq_ hb771u)) ?_
                      refine s_ldK t31 rfl (Blk.cells hb1278u) ha1280u rfl rfl fun cs1285u m1286u => ?_
                      exact ⟨_, rfl, (Stp.refl _ _), I, (nwc (pf_agg rfl rfl m1286u) nwn)⟩
                    · intro ρ g I av
                      have hr1287u := av 41 _ rfl (by kernel_rfl)
                      obtain ⟨_, hr1289u, m1290u⟩ := av 46 _ rfl (by kernel_rfl)
                      refine ddo (up1 (up1 rfl hr1287u) hr1289u) (want_of rfl rfl (beq_ hb771u)) ?_
                      refine s_bslK (kd := k_ref20uWish) (xs := ([a1] : List ref20uWish)) 6517 I s22 t31 z31 rfl rfl (by decide) rfl (by decide) (And.intro (congrArg some (kl (d := k_ref20uWish) m1290u).symm) (trivial)) (Seg.flat (d := k_ref20uWish) (g := g) (alls m1290u alle)) rfl (zpv rfl) fun g1293u v1291u s1294u I m1292u => ?_
                      exact ⟨_, rfl, s1294u, I, (nwc (pf_row rfl rfl m1292u) nwn)⟩
                    · intro ρ g I av
                      have hr1295u := av 41 _ rfl (by kernel_rfl)
                      obtain ⟨v1299u, hr1297u, m1298u⟩ := av 45 _ rfl (by kernel_rfl)
                      obtain ⟨v1302u, hr1300u, m1301u⟩ := av 47 _ rfl (by kernel_rfl)
                      refine ddo (up1 (up1 (up1 rfl hr1295u) hr1297u) hr1300u) (want_of rfl rfl (beq_ hb771u)) ?_
                      refine s_cf I k8 rfl (ref20uAlike_ok (zle hZ rfl rfl) (.inl z0) I.l (Row.sl m1298u) (Or.inr (Nat.le_of_ble_eq_true rfl)) (Row.sl m1301u) (Or.inr (Nat.le_of_ble_eq_true rfl)) h1027u) no_any fun g1305u v1303u s1306u I p1304u => ?_
                      obtain rfl := p1304u
                      exact ⟨_, rfl, s1306u, I, (nwc (pf_val rfl) nwn)⟩
                    · intro ρ g I av
                      have hr1307u := av 41 _ rfl (by kernel_rfl)
                      have hr1309u := av 48 _ rfl (by kernel_rfl)
                      refine ddo (up1 (up1 rfl hr1307u) hr1309u) (want_of rfl rfl (beq_ hb771u)) ?_
                      refine s_not rfl ?_
                      exact ⟨_, rfl, (Stp.refl _ _), I, (nwc (pf_val rfl) nwn)⟩
                    · intro ρ g I av
                      have hr1311u := av 41 _ rfl (by kernel_rfl)
                      have hr1313u := av 49 _ rfl (by kernel_rfl)
                      refine ddo (up1 (up1 rfl hr1311u) hr1313u) rfl ?_
                      refine s_pF rfl hb771u ?_
                      exact ⟨_, rfl, (Stp.refl _ _), I, (nwc (pf_val rfl) nwn)⟩
                    · intro ρ g I av
                      obtain ⟨L1032u, hb1033u, hl1034u, ha1035u⟩ := av 4 _ rfl rfl
                      obtain ⟨L1036u, hb1037u, hl1038u, ha1039u⟩ := av 2 _ rfl rfl
                      obtain ⟨v1042u, hr1040u, m1041u⟩ := av 0 _ rfl rfl
                      have hr1043u := av 3 _ rfl rfl
                      have hr1045u := av 1 _ rfl rfl
                      have hr1047u := av 50 _ rfl rfl
                      refine ⟨_, (up1 (up1 (up1 (up1 rfl hr1040u) hr1043u) hr1045u) hr1047u), ?_⟩
                      refine EW.condS rfl rfl (fun hb1315u => ?_) (fun hb1315u => ?_)
                      · replace hF0 := bif_t hb1315u hF0
                        refine EW.seq ?_
                        refine EW.region (by kernel_rfl) ?_
                        refine EWL.op rfl ?_
                        refine s_as ?_
                        refine EW.ret ?_
                        obtain rfl := som hF0
                        refine ends1 (.inl rfl)  ?_
                        exact ret_ (g := g) I lo hZ z0 rfl rfl
                      · replace hF0 := bif_f hb1315u hF0
                        refine EW.skip ?_
                        refine EW.seq ?_
                        refine EW.seq ?_
                        refine EW.region (by kernel_rfl) ?_
                        refine EWL.op rfl ?_
                        refine s_mv ?_
                        refine EWL.op rfl ?_
                        refine s_lenR (kd := k_ref20uWish) (xs := a0) s22 rfl (Sl.rs m1041u) ?_
                        refine EWL.op rfl ?_
                        refine s_mv ?_
                        refine EW.block ?_
                        refine EW.loop (b := (law20uClerkLists_b2 a0)) (fun (s : (Int × ref20uWish × clerk_Wish)) ρ w => ∃ (g1319u : GW) (v1323u : Value) (x1327u : Int) (L1329u : List Value) (x1333u : ref20uWish) (L1335u : List Value) (x1339u : clerk_Wish), w = g1319u.w ∧ Inv (or_ (no) (iv 6500 6600)) (or_ Z (iv 6500 6600)) g0 g1319u ∧ (x1327u, x1333u, x1339u) = s ∧ ρ 4 = .pointer (some ⟨b1u, 0, none⟩) ∧ ρ 9 = .pointer (some ⟨b109u, 0, none⟩) ∧ ρ 100 = v1323u ∧ Sl k_ref20uWish g1319u ka0 a0 v1323u ∧ ρ 101 = .int .i64 (a0.length : Int) ∧ ρ 102 = .int .i64 x1327u ∧ Blk g1319u b1u 6501 31 L1329u ∧ L1329u.length = 40 ∧ At k_ref20uWish g1319u 0 x1333u L1329u 0 ∧ Blk g1319u b109u 6505 42 L1335u ∧ L1335u.length = 40 ∧ At k_clerk_Wish g1319u 0 x1339u L1335u 0) hF0 ⟨g, _, 0, _, a1, _, x99u, rfl, I, rfl, rfl, rfl, rfl, m1041u, rfl, rfl, hb1033u, hl1034u, ha1035u, hb1037u, hl1038u, ha1039u⟩ ?_
                        · rintro s_ o1340u ρ w ⟨g1319u, v1323u, x1327u, L1329u, x1333u, L1335u, x1339u, rfl, I, eo, hr1320u, hr1321u, hr1322u, m1324u, hr1325u, hr1326u, hb1330u, hl1332u, ha1331u, hb1336u, hl1338u, ha1337u⟩ hF1 hr1
                          subst eo
                          unfold law20uClerkLists_b2 at hF1
                          refine EW.re (up1 (up1 (up1 (up1 (up1 rfl hr1320u) hr1321u) hr1322u) hr1325u) hr1326u) ?_
                          refine EW.seq ?_
                          refine EW.region (by kernel_rfl) ?_
                          refine EWL.op rfl ?_
                          refine s_lss rfl rfl ?_
                          refine EW.seq ?_
                          refine EW.condS rfl rfl (fun hb1341u => ?_) (fun hb1341u => ?_)
                          · replace hF1 := bif_t hb1341u hF1
                            refine EW.skip ?_
                            refine EW.seq ?_
                            refine EW.block ?_
                            refine EW.seq ?_
                            refine EW.region (by kernel_rfl) ?_
                            refine EWL.op rfl ?_
                            obtain ⟨x1342u, h1343u, hF1⟩ := bnd hF1
                            refine s_idxS s22 t31 rfl m1324u rfl h1343u fun b1344u o1345u L1346u hc1347u ha1348u => ?_
                            refine EWL.op rfl ?_
                            refine s_ldK t31 rfl (Imm.cells hc1347u) ha1348u rfl rfl fun cs1349u m1350u => ?_
                            refine EWL.op rfl ?_
                            refine s_newK k_ref20uWish 6518 I (zpv rfl) z31 rfl fun g1356u b1351u L1355u s1357u I hb1352u hl1354u ha1353u => ?_
                            refine EWL.opn rfl ?_
                            have m1358u : k_ref20uWish.M g1356u 0 x1342u _ := (Kd.upK rfl s1357u no_ m1350u)
                            refine s_stK (kd := k_ref20uWish) I t31 rfl rfl m1358u rfl hb1352u (ble_ hl1354u rfl) (by decide) nc0 (zpv rfl) fun g1359u L1361u s1360u I hb1362u hu1363u hn1364u => ?_
                            have ha1365u := hn1364u
                            have hl1366u := hu1363u.1.trans hl1354u
                            refine EW.seq ?_
                            obtain ⟨r1371u, h1372u, hF1⟩ := bnd hF1
                            obtain ⟨r1379u, h1380u, hF1⟩ := bnd hF1
                            obtain ⟨r1389u, h1390u, hF1⟩ := bnd hF1
                            refine EW.drawn [] [⟨SF.val 9 (.pointer (some ⟨b109u, 0, none⟩)), none, none⟩, ⟨SF.bx b109u 6505 42 k_clerk_Wish rfl x1339u, none, none⟩, ⟨SF.val 15 (.pointer (some ⟨b1351u, 0, none⟩)), none, none⟩, ⟨SF.bx b1351u 6518 31 k_ref20uWish rfl x1342u, none, none⟩, ⟨SF.val 4 (.pointer (some ⟨b1u, 0, none⟩)), none, none⟩, ⟨SF.bx b1u 6501 31 k_ref20uWish rfl x1333u, none, none⟩, ⟨SF.sl 100 k_ref20uWish rfl ka0 a0, none, none⟩, ⟨SF.val 101 (.int .i64 (a0.length : Int)), none, none⟩, ⟨SF.val 102 (.int .i64 x1327u), none, none⟩, ⟨SF.agg 106 k_clerk_Wish rfl x1339u, some 0, none⟩, ⟨SF.val 107 (.pointer (some ⟨b1351u, 0 + 0, none⟩)), some 1, none⟩, ⟨SF.agg 108 k_ref12uOp rfl x1342u.op, some 2, none⟩, ⟨SF.agg 109 k_pact_Op rfl r1371u, some 3, none⟩, ⟨SF.val 110 (.bool r1379u), some 4, none⟩, ⟨SF.val 111 (.pointer (some ⟨b1u, 0 + 0, none⟩)), some 5, none⟩, ⟨SF.agg 112 k_ref12uOp rfl x1333u.op, some 6, none⟩, ⟨SF.val 113 (.pointer (some ⟨b1351u, 0 + 0, none⟩)), some 7, none⟩, ⟨SF.agg 114 k_ref12uOp rfl x1342u.op, some 8, none⟩, ⟨SF.val 115 (.bool r1389u), some 9, none⟩, ⟨SF.val 116 (.bool (r1379u != r1389u)), some 10, none⟩] [] (by kernel_rfl) (by kernel_rfl) (by kernel_rfl) ?_ I ?_ (dcons ?_ (dcons ?_ (dcons ?_ (dcons ?_ (dcons ?_ (dcons ?_ (dcons ?_ (dcons ?_ (dcons ?_ (dcons ?_ (dcons ?_ dnil))))))))))) ?_
                            · exact trivial
                            · exact (nwc (pf_val rfl) (nwc (pf_bx rfl (Blk.up s1360u (Nat.ne_of_beq_eq_false rfl) (Blk.up s1357u no_ hb1336u)) hl1338u (At.up (At.up ha1337u s1357u no_ nc0) s1360u (Nat.ne_of_beq_eq_false rfl) nc0)) (nwc (pf_val rfl) (nwc (pf_bx rfl hb1362u hl1366u ha1365u) (nwc (pf_val rfl) (nwc (pf_bx rfl (Blk.up s1360u (Nat.ne_of_beq_eq_false rfl) (Blk.up s1357u no_ hb1330u)) hl1332u (At.up (At.up ha1331u s1357u no_ nc0) s1360u (Nat.ne_of_beq_eq_false rfl) nc0)) (nwc (pf_sl rfl rfl (Sl.up rfl s1360u (Nat.ne_of_beq_eq_false rfl) (ne_ld hka0 rfl rfl) (Sl.up rfl s1357u no_ no_ m1324u))) (nwc (pf_val rfl) (nwc (pf_val rfl) nwn)))))))))
                            · intro ρ g I av
                              obtain ⟨L1416u, hb1417u, hl1418u, ha1419u⟩ := av 1 _ rfl (by kernel_rfl)
                              have hr1420u := av 0 _ rfl (by kernel_rfl)
                              refine ddo (up1 rfl hr1420u) rfl ?_
                              refine s_ldK t42 rfl (Blk.cells hb1417u) ha1419u rfl rfl fun cs1422u m1423u => ?_
                              exact ⟨_, rfl, (Stp.refl _ _), I, (nwc (pf_agg rfl rfl m1423u) nwn)⟩
                            · intro ρ g I av
                              have hr1424u := av 2 _ rfl (by kernel_rfl)
                              refine ddo (up1 rfl hr1424u) rfl ?_
                              refine s_fa f31u0 rfl ?_
                              exact ⟨_, rfl, (Stp.refl _ _), I, (nwc (pf_val rfl) nwn)⟩
                            · intro ρ g I av
                              obtain ⟨L1426u, hb1427u, hl1428u, ha1429u⟩ := av 3 _ rfl (by kernel_rfl)
                              have hr1430u := av 10 _ rfl (by kernel_rfl)
                              refine ddo (up1 rfl hr1430u) rfl ?_
                              refine s_ldK t28 rfl (Blk.cells hb1427u) (At.fld ha1429u 0 rfl) rfl rfl fun cs1432u m1433u => ?_
                              exact ⟨_, rfl, (Stp.refl _ _), I, (nwc (pf_agg rfl rfl m1433u) nwn)⟩
                            · intro ρ g I av
                              obtain ⟨_, hr1434u, m1435u⟩ := av 11 _ rfl (by kernel_rfl)
                              refine ddo (up1 rfl hr1434u) rfl ?_
                              refine s_cf I k16 rfl (law12uOp_ok (zle hZ rfl rfl) (.inl z0) I.l m1435u h1372u) no_any fun g1438u v1436u s1439u I p1437u => ?_
                              obtain ⟨cs1440u, rfl, m1441u⟩ := p1437u
                              exact ⟨_, rfl, s1439u, I, (nwc (pf_agg rfl rfl m1441u) nwn)⟩
                            · intro ρ g I av
                              obtain ⟨_, hr1442u, m1443u⟩ := av 9 _ rfl (by kernel_rfl)
                              obtain ⟨_, hr1444u, m1445u⟩ := av 12 _ rfl (by kernel_rfl)
                              refine ddo (up1 (up1 rfl hr1442u) hr1444u) rfl ?_
                              refine s_cf I k15 rfl (clerk_Wish_Same_ok (zle hZ rfl rfl) (.inl z0) I.l m1443u m1445u h1380u) no_any fun g1448u v1446u s1449u I p1447u => ?_
                              obtain rfl := p1447u
                              exact ⟨_, rfl, s1449u, I, (nwc (pf_val rfl) nwn)⟩
                            · intro ρ g I av
                              have hr1450u := av 4 _ rfl (by kernel_rfl)
                              refine ddo (up1 rfl hr1450u) rfl ?_
                              refine s_fa f31u0 rfl ?_
                              exact ⟨_, rfl, (Stp.refl _ _), I, (nwc (pf_val rfl) nwn)⟩
                            · intro ρ g I av
                              obtain ⟨L1452u, hb1453u, hl1454u, ha1455u⟩ := av 5 _ rfl (by kernel_rfl)
                              have hr1456u := av 14 _ rfl (by kernel_rfl)
                              refine ddo (up1 rfl hr1456u) rfl ?_
                              refine s_ldK t28 rfl (Blk.cells hb1453u) (At.fld ha1455u 0 rfl) rfl rfl fun cs1458u m1459u => ?_
                              exact ⟨_, rfl, (Stp.refl _ _), I, (nwc (pf_agg rfl rfl m1459u) nwn)⟩
                            · intro ρ g I av
                              have hr1460u := av 2 _ rfl (by kernel_rfl)
                              refine ddo (up1 rfl hr1460u) rfl ?_
                              refine s_fa f31u0 rfl ?_
                              exact ⟨_, rfl, (Stp.refl _ _), I, (nwc (pf_val rfl) nwn)⟩
                            · intro ρ g I av
                              obtain ⟨L1462u, hb1463u, hl1464u, ha1465u⟩ := av 3 _ rfl (by kernel_rfl)
                              have hr1466u := av 16 _ rfl (by kernel_rfl)
                              refine ddo (up1 rfl hr1466u) rfl ?_
                              refine s_ldK t28 rfl (Blk.cells hb1463u) (At.fld ha1465u 0 rfl) rfl rfl fun cs1468u m1469u => ?_
                              exact ⟨_, rfl, (Stp.refl _ _), I, (nwc (pf_agg rfl rfl m1469u) nwn)⟩
                            · intro ρ g I av
                              obtain ⟨_, hr1470u, m1471u⟩ := av 15 _ rfl (by kernel_rfl)
                              obtain ⟨_, hr1472u, m1473u⟩ := av 17 _ rfl (by kernel_rfl)
                              refine ddo (up1 (up1 rfl hr1470u) hr1472u) rfl ?_
                              refine s_cf I k17 rfl (ref20uSame_ok (zle hZ rfl rfl) (.inl z0) I.l m1471u m1473u h1390u) no_any fun g1476u v1474u s1477u I p1475u => ?_
                              obtain rfl := p1475u
                              exact ⟨_, rfl, s1477u, I, (nwc (pf_val rfl) nwn)⟩
                            · intro ρ g I av
                              have hr1478u := av 13 _ rfl (by kernel_rfl)
                              have hr1480u := av 18 _ rfl (by kernel_rfl)
                              refine ddo (up1 (up1 rfl hr1478u) hr1480u) rfl ?_
                              refine s_bNe u4 rfl rfl ?_
                              exact ⟨_, rfl, (Stp.refl _ _), I, (nwc (pf_val rfl) nwn)⟩
                            · intro ρ g I av
                              obtain ⟨L1395u, hb1396u, hl1397u, ha1398u⟩ := av 5 _ rfl rfl
                              obtain ⟨L1399u, hb1400u, hl1401u, ha1402u⟩ := av 1 _ rfl rfl
                              have hr1403u := av 4 _ rfl rfl
                              have hr1405u := av 0 _ rfl rfl
                              obtain ⟨v1409u, hr1407u, m1408u⟩ := av 6 _ rfl rfl
                              have hr1410u := av 7 _ rfl rfl
                              have hr1412u := av 8 _ rfl rfl
                              have hr1414u := av 19 _ rfl rfl
                              refine ⟨_, (up1 (up1 (up1 (up1 (up1 (up1 rfl hr1403u) hr1405u) hr1407u) hr1410u) hr1412u) hr1414u), ?_⟩
                              refine EW.condS rfl rfl (fun hb1482u => ?_) (fun hb1482u => ?_)
                              · replace hF1 := bif_t hb1482u hF1
                                refine EW.seq ?_
                                refine EW.region (by kernel_rfl) ?_
                                refine EWL.op rfl ?_
                                refine s_as ?_
                                refine EW.ret ?_
                                have hF0 := out_ hF1 hr1
                                obtain rfl := som hF0
                                refine ends1 (.inl rfl)  ?_
                                exact ret_ (g := g) I lo hZ z0 rfl rfl
                              · replace hF1 := bif_f hb1482u hF1
                                refine EW.skip ?_
                                refine EW.region (by kernel_rfl) ?_
                                refine EWL.op rfl ?_
                                refine s_add rfl rfl ?_
                                refine EWL.op rfl ?_
                                refine s_mv ?_
                                exact ⟨_, (som hF1).symm, g, _, (IntKind.i64.wrap (x1327u + 1)), _, x1333u, _, x1339u, rfl, I, rfl, rfl, rfl, rfl, m1408u, rfl, rfl, hb1396u, hl1397u, ha1398u, hb1400u, hl1401u, ha1402u⟩
                          · replace hF1 := bif_f hb1341u hF1
                            refine EW.exit ?_
                            have hF0 := out_ hF1 hr1
                            refine EW.seq ?_
                            refine EW.region (by kernel_rfl) ?_
                            refine EWL.op rfl ?_
                            obtain ⟨r1483u, h1484u, hF0⟩ := bnd hF0
                            refine s_cf I k4 rfl (law20uawake_ok (zle hZ rfl rfl) (.inl z0) I.l h1484u) no_any fun g1487u v1485u s1488u I p1486u => ?_
                            obtain rfl := p1486u
                            refine EWL.op rfl ?_
                            refine s_as ?_
                            refine EW.ret ?_
                            obtain rfl := som hF0
                            refine ends1 (.inl rfl)  ?_
                            exact ret_ (g := g1487u) I lo hZ z0 rfl rfl

end Go.Tl
