/- The kinds of the struct types, and closed facts about the types. Written by a program of mine. -/
import Derived.Test.YtdbfbeckhccchaaRSx
import Derived.Test.YtdbfbeckhccchaaRL
import Derived.Test.YtdbfbeckhccchaaRProg
import Derived.KernelRfl
namespace Go.Tl
open Go
set_option linter.unusedVariables false
set_option linter.unusedSimpArgs false
noncomputable abbrev P : Program := Go.Proofs.Try.prog
def fs_ref10uCond : List (Fd ref10uCond) := [fd 0 0 (kInt .u64) ref10uCond.id, fd 1 0 (kInt .i64) ref10uCond.by_, fd 2 0 (kInt .u64) ref10uCond.amount, fd 3 0 (kNums .u8 32) ref10uCond.hash, fd 35 0 (kInt .u64) ref10uCond.expiry]
theorem tl_ref10uCond : tiles 36 0 0 0 fs_ref10uCond = true := by kernel_rfl
def k_ref10uCond : Kd ref10uCond := kSt 36 0 fs_ref10uCond ref10uCond.zero tl_ref10uCond (fun _ => ⟨rfl, rfl, rfl, rfl, rfl, trivial⟩)
def fs_ref12uOp : List (Fd ref12uOp) := [fd 0 0 (kInt .i64) ref12uOp.kind, fd 1 0 (kInt .u64) ref12uOp.amount, fd 2 0 k_ref10uCond ref12uOp.cond, fd 38 0 (kInt .u64) ref12uOp.id]
theorem tl_ref12uOp : tiles 39 0 0 0 fs_ref12uOp = true := by kernel_rfl
def k_ref12uOp : Kd ref12uOp := kSt 39 0 fs_ref12uOp ref12uOp.zero tl_ref12uOp (fun _ => ⟨rfl, rfl, rfl, rfl, trivial⟩)
def fs_ref18uHop : List (Fd ref18uHop) := [fd 0 0 (kInt .u32) ref18uHop.channel, fd 1 0 (kInt .u64) ref18uHop.amount, fd 2 0 (kInt .u64) ref18uHop.id]
theorem tl_ref18uHop : tiles 3 0 0 0 fs_ref18uHop = true := by kernel_rfl
def k_ref18uHop : Kd ref18uHop := kSt 3 0 fs_ref18uHop ref18uHop.zero tl_ref18uHop (fun _ => ⟨rfl, rfl, rfl, trivial⟩)
def fs_ref20uWish : List (Fd ref20uWish) := [fd 0 0 k_ref12uOp ref20uWish.op, fd 39 0 (kSl k_ref18uHop rfl) ref20uWish.trail]
theorem tl_ref20uWish : tiles 40 0 0 0 fs_ref20uWish = true := by kernel_rfl
def k_ref20uWish : Kd ref20uWish := kSt 40 0 fs_ref20uWish ref20uWish.zero tl_ref20uWish (fun _ => ⟨rfl, rfl, trivial⟩)
def fs_api_Cond : List (Fd api_Cond) := [fd 0 0 (kInt .u64) api_Cond.id, fd 1 0 (kInt .i64) api_Cond.by_, fd 2 0 (kInt .u64) api_Cond.amount, fd 3 0 (kNums .u8 32) api_Cond.hash, fd 35 0 (kInt .u64) api_Cond.expiry]
theorem tl_api_Cond : tiles 36 0 0 0 fs_api_Cond = true := by kernel_rfl
def k_api_Cond : Kd api_Cond := kSt 36 0 fs_api_Cond api_Cond.zero tl_api_Cond (fun _ => ⟨rfl, rfl, rfl, rfl, rfl, trivial⟩)
def fs_pact_Op : List (Fd pact_Op) := [fd 0 0 (kInt .i64) pact_Op.kind, fd 1 0 (kInt .u64) pact_Op.amount, fd 2 0 k_api_Cond pact_Op.cond, fd 38 0 (kInt .u64) pact_Op.id]
theorem tl_pact_Op : tiles 39 0 0 0 fs_pact_Op = true := by kernel_rfl
def k_pact_Op : Kd pact_Op := kSt 39 0 fs_pact_Op pact_Op.zero tl_pact_Op (fun _ => ⟨rfl, rfl, rfl, rfl, trivial⟩)
def fs_memo_Hop : List (Fd memo_Hop) := [fd 0 0 (kInt .u32) memo_Hop.channel, fd 1 0 (kInt .u64) memo_Hop.amount, fd 2 0 (kInt .u64) memo_Hop.id]
theorem tl_memo_Hop : tiles 3 0 0 0 fs_memo_Hop = true := by kernel_rfl
def k_memo_Hop : Kd memo_Hop := kSt 3 0 fs_memo_Hop memo_Hop.zero tl_memo_Hop (fun _ => ⟨rfl, rfl, rfl, trivial⟩)
def fs_clerk_Wish : List (Fd clerk_Wish) := [fd 0 0 k_pact_Op clerk_Wish.op, fd 39 0 (kSl k_memo_Hop rfl) clerk_Wish.trail]
theorem tl_clerk_Wish : tiles 40 0 0 0 fs_clerk_Wish = true := by kernel_rfl
def k_clerk_Wish : Kd clerk_Wish := kSt 40 0 fs_clerk_Wish clerk_Wish.zero tl_clerk_Wish (fun _ => ⟨rfl, rfl, trivial⟩)
def fs_money_Fee : List (Fd money_Fee) := [fd 0 0 (kInt .u64) money_Fee.base, fd 1 0 (kInt .u64) money_Fee.rate]
theorem tl_money_Fee : tiles 2 0 0 0 fs_money_Fee = true := by kernel_rfl
def k_money_Fee : Kd money_Fee := kSt 2 0 fs_money_Fee money_Fee.zero tl_money_Fee (fun _ => ⟨rfl, rfl, trivial⟩)
def fs_clerk_Rules : List (Fd clerk_Rules) := [fd 0 0 k_money_Fee clerk_Rules.fee, fd 2 0 (kInt .u64) clerk_Rules.margin, fd 3 0 (kInt .u64) clerk_Rules.patience, fd 4 0 (kInt .u64) clerk_Rules.longest]
theorem tl_clerk_Rules : tiles 5 0 0 0 fs_clerk_Rules = true := by kernel_rfl
def k_clerk_Rules : Kd clerk_Rules := kSt 5 0 fs_clerk_Rules clerk_Rules.zero tl_clerk_Rules (fun _ => ⟨rfl, rfl, rfl, rfl, trivial⟩)
def fs_lamp_Sig : List (Fd lamp_Sig) := [fd 0 0 (kArr 32 (kNums .u8 16) rfl) lamp_Sig.open_, fd 512 0 (kArr 32 (kNums .u8 16) rfl) lamp_Sig.other]
theorem tl_lamp_Sig : tiles 1024 0 0 0 fs_lamp_Sig = true := by kernel_rfl
def k_lamp_Sig : Kd lamp_Sig := kSt 1024 0 fs_lamp_Sig lamp_Sig.zero tl_lamp_Sig (fun _ => ⟨rfl, rfl, trivial⟩)
def fs_ring_Sig : List (Fd ring_Sig) := [fd 0 0 k_lamp_Sig ring_Sig.sig, fd 1024 0 (kInt .u32) ring_Sig.key, fd 1025 0 (kSl (kNums .u8 32) rfl) ring_Sig.way]
theorem tl_ring_Sig : tiles 1026 0 0 0 fs_ring_Sig = true := by kernel_rfl
def k_ring_Sig : Kd ring_Sig := kSt 1026 0 fs_ring_Sig ring_Sig.zero tl_ring_Sig (fun _ => ⟨rfl, rfl, rfl, trivial⟩)
def fs_memo_Memo : List (Fd memo_Memo) := [fd 0 0 (kInt .i64) memo_Memo.kind, fd 1 0 (kInt .u32) memo_Memo.channel, fd 2 0 (kInt .u64) memo_Memo.round, fd 3 0 k_pact_Op memo_Memo.op, fd 42 0 (kSl k_memo_Hop rfl) memo_Memo.trail, fd 43 0 k_ring_Sig memo_Memo.sig]
theorem tl_memo_Memo : tiles 1069 0 0 0 fs_memo_Memo = true := by kernel_rfl
def k_memo_Memo : Kd memo_Memo := kSt 1069 0 fs_memo_Memo memo_Memo.zero tl_memo_Memo (fun _ => ⟨rfl, rfl, rfl, rfl, rfl, rfl, trivial⟩)
def fs_ref04uSig : List (Fd ref04uSig) := [fd 0 0 (kArr 32 (kNums .u8 16) rfl) ref04uSig.open_, fd 512 0 (kArr 32 (kNums .u8 16) rfl) ref04uSig.other]
theorem tl_ref04uSig : tiles 1024 0 0 0 fs_ref04uSig = true := by kernel_rfl
def k_ref04uSig : Kd ref04uSig := kSt 1024 0 fs_ref04uSig ref04uSig.zero tl_ref04uSig (fun _ => ⟨rfl, rfl, trivial⟩)
def fs_ref05uSig : List (Fd ref05uSig) := [fd 0 0 k_ref04uSig ref05uSig.s, fd 1024 0 (kInt .u32) ref05uSig.key, fd 1025 0 (kSl (kNums .u8 32) rfl) ref05uSig.way]
theorem tl_ref05uSig : tiles 1026 0 0 0 fs_ref05uSig = true := by kernel_rfl
def k_ref05uSig : Kd ref05uSig := kSt 1026 0 fs_ref05uSig ref05uSig.zero tl_ref05uSig (fun _ => ⟨rfl, rfl, rfl, trivial⟩)
def fs_ref18uMemo : List (Fd ref18uMemo) := [fd 0 0 (kInt .i64) ref18uMemo.kind, fd 1 0 (kInt .u32) ref18uMemo.channel, fd 2 0 (kInt .u64) ref18uMemo.round, fd 3 0 k_ref12uOp ref18uMemo.op, fd 42 0 (kSl k_ref18uHop rfl) ref18uMemo.trail, fd 43 0 k_ref05uSig ref18uMemo.sig]
theorem tl_ref18uMemo : tiles 1069 0 0 0 fs_ref18uMemo = true := by kernel_rfl
def k_ref18uMemo : Kd ref18uMemo := kSt 1069 0 fs_ref18uMemo ref18uMemo.zero tl_ref18uMemo (fun _ => ⟨rfl, rfl, rfl, rfl, rfl, rfl, trivial⟩)
def fs_ref01uIn : List (Fd ref01uIn) := [fd 0 0 (kSl (kInt .u8) rfl) ref01uIn.b, fd 1 0 (kInt .i64) ref01uIn.at_, fd 2 0 (kInt .i64) ref01uIn.bad]
theorem tl_ref01uIn : tiles 3 0 0 0 fs_ref01uIn = true := by kernel_rfl
def k_ref01uIn : Kd ref01uIn := kSt 3 0 fs_ref01uIn ref01uIn.zero tl_ref01uIn (fun _ => ⟨rfl, rfl, rfl, trivial⟩)
def fs_octet_In : List (Fd octet_In) := [fd 0 0 (kSl (kInt .u8) rfl) octet_In.left, fd 1 0 (kInt .i64) octet_In.bad]
theorem tl_octet_In : tiles 2 0 0 0 fs_octet_In = true := by kernel_rfl
def k_octet_In : Kd octet_In := kSt 2 0 fs_octet_In octet_In.zero tl_octet_In (fun _ => ⟨rfl, rfl, trivial⟩)
def hs_ring_Sig (v2 : Value) : List (Fd ring_Sig) := [fd 0 0 k_lamp_Sig ring_Sig.sig, fd 1024 0 (kInt .u32) ring_Sig.key, fd 1025 0 (kFix v2 []) ring_Sig.way]
theorem htl_ring_Sig (v2 : Value) : tiles 1026 0 0 0 (hs_ring_Sig v2) = true := by kernel_rfl
def h_ring_Sig (v2 : Value) : Kd ring_Sig := kSt 1026 0 (hs_ring_Sig v2) ring_Sig.zero (htl_ring_Sig v2) (fun _ => ⟨rfl, rfl, rfl, trivial⟩)
theorem frz_ring_Sig {g : GW} {x : ring_Sig} {L : List Value} {o : Nat} {v2 : Value} {y2 : (List (List Int))} (a : At (h_ring_Sig v2) g 0 x L o) (s2 : Sl (kNums .u8 32) g 0 y2 v2) : At k_ring_Sig g 0 { x with way := y2 } L o := At.re a (rck rfl rfl (rck rfl rfl (rcs s2 rcn)))
theorem frzM_ring_Sig {g : GW} {x : ring_Sig} {L : List Value} {v2 : Value} {y2 : (List (List Int))} (a : (h_ring_Sig v2).M g 0 x L) (s2 : Sl (kNums .u8 32) g 0 y2 v2) : k_ring_Sig.M g 0 { x with way := y2 } L := At.all (frz_ring_Sig (At.whole a) s2) (kl (d := h_ring_Sig v2) a)
theorem D73u2 (x : ring_Sig) (y : (List (List Int))) (v2 w2 : Value)  : Dif x { x with way := y } 2 (hs_ring_Sig v2) (hs_ring_Sig w2) := by
  exact (And.intro (And.intro rfl rfl) (And.intro (And.intro rfl rfl) trivial))
def hs_memo_Memo (v4 : Value) : List (Fd memo_Memo) := [fd 0 0 (kInt .i64) memo_Memo.kind, fd 1 0 (kInt .u32) memo_Memo.channel, fd 2 0 (kInt .u64) memo_Memo.round, fd 3 0 k_pact_Op memo_Memo.op, fd 42 0 (kFix v4 []) memo_Memo.trail, fd 43 0 k_ring_Sig memo_Memo.sig]
theorem htl_memo_Memo (v4 : Value) : tiles 1069 0 0 0 (hs_memo_Memo v4) = true := by kernel_rfl
def h_memo_Memo (v4 : Value) : Kd memo_Memo := kSt 1069 0 (hs_memo_Memo v4) memo_Memo.zero (htl_memo_Memo v4) (fun _ => ⟨rfl, rfl, rfl, rfl, rfl, rfl, trivial⟩)
theorem frz_memo_Memo {g : GW} {x : memo_Memo} {L : List Value} {o : Nat} {v4 : Value} {y4 : (List memo_Hop)} (a : At (h_memo_Memo v4) g 0 x L o) (s4 : Sl k_memo_Hop g 0 y4 v4) : At k_memo_Memo g 0 { x with trail := y4 } L o := At.re a (rck rfl rfl (rck rfl rfl (rck rfl rfl (rck rfl rfl (rcs s4 (rck rfl rfl rcn))))))
theorem frzM_memo_Memo {g : GW} {x : memo_Memo} {L : List Value} {v4 : Value} {y4 : (List memo_Hop)} (a : (h_memo_Memo v4).M g 0 x L) (s4 : Sl k_memo_Hop g 0 y4 v4) : k_memo_Memo.M g 0 { x with trail := y4 } L := At.all (frz_memo_Memo (At.whole a) s4) (kl (d := h_memo_Memo v4) a)
theorem D75u4 (x : memo_Memo) (y : (List memo_Hop)) (v4 w4 : Value)  : Dif x { x with trail := y } 4 (hs_memo_Memo v4) (hs_memo_Memo w4) := by
  exact (And.intro (And.intro rfl rfl) (And.intro (And.intro rfl rfl) (And.intro (And.intro rfl rfl) (And.intro (And.intro rfl rfl) (And.intro (And.intro rfl rfl) trivial)))))
def hs_ref05uSig (v2 : Value) : List (Fd ref05uSig) := [fd 0 0 k_ref04uSig ref05uSig.s, fd 1024 0 (kInt .u32) ref05uSig.key, fd 1025 0 (kFix v2 []) ref05uSig.way]
theorem htl_ref05uSig (v2 : Value) : tiles 1026 0 0 0 (hs_ref05uSig v2) = true := by kernel_rfl
def h_ref05uSig (v2 : Value) : Kd ref05uSig := kSt 1026 0 (hs_ref05uSig v2) ref05uSig.zero (htl_ref05uSig v2) (fun _ => ⟨rfl, rfl, rfl, trivial⟩)
theorem frz_ref05uSig {g : GW} {x : ref05uSig} {L : List Value} {o : Nat} {v2 : Value} {y2 : (List (List Int))} (a : At (h_ref05uSig v2) g 0 x L o) (s2 : Sl (kNums .u8 32) g 0 y2 v2) : At k_ref05uSig g 0 { x with way := y2 } L o := At.re a (rck rfl rfl (rck rfl rfl (rcs s2 rcn)))
theorem frzM_ref05uSig {g : GW} {x : ref05uSig} {L : List Value} {v2 : Value} {y2 : (List (List Int))} (a : (h_ref05uSig v2).M g 0 x L) (s2 : Sl (kNums .u8 32) g 0 y2 v2) : k_ref05uSig.M g 0 { x with way := y2 } L := At.all (frz_ref05uSig (At.whole a) s2) (kl (d := h_ref05uSig v2) a)
theorem D83u2 (x : ref05uSig) (y : (List (List Int))) (v2 w2 : Value)  : Dif x { x with way := y } 2 (hs_ref05uSig v2) (hs_ref05uSig w2) := by
  exact (And.intro (And.intro rfl rfl) (And.intro (And.intro rfl rfl) trivial))
def hs_ref18uMemo (v4 : Value) : List (Fd ref18uMemo) := [fd 0 0 (kInt .i64) ref18uMemo.kind, fd 1 0 (kInt .u32) ref18uMemo.channel, fd 2 0 (kInt .u64) ref18uMemo.round, fd 3 0 k_ref12uOp ref18uMemo.op, fd 42 0 (kFix v4 []) ref18uMemo.trail, fd 43 0 k_ref05uSig ref18uMemo.sig]
theorem htl_ref18uMemo (v4 : Value) : tiles 1069 0 0 0 (hs_ref18uMemo v4) = true := by kernel_rfl
def h_ref18uMemo (v4 : Value) : Kd ref18uMemo := kSt 1069 0 (hs_ref18uMemo v4) ref18uMemo.zero (htl_ref18uMemo v4) (fun _ => ⟨rfl, rfl, rfl, rfl, rfl, rfl, trivial⟩)
theorem frz_ref18uMemo {g : GW} {x : ref18uMemo} {L : List Value} {o : Nat} {v4 : Value} {y4 : (List ref18uHop)} (a : At (h_ref18uMemo v4) g 0 x L o) (s4 : Sl k_ref18uHop g 0 y4 v4) : At k_ref18uMemo g 0 { x with trail := y4 } L o := At.re a (rck rfl rfl (rck rfl rfl (rck rfl rfl (rck rfl rfl (rcs s4 (rck rfl rfl rcn))))))
theorem frzM_ref18uMemo {g : GW} {x : ref18uMemo} {L : List Value} {v4 : Value} {y4 : (List ref18uHop)} (a : (h_ref18uMemo v4).M g 0 x L) (s4 : Sl k_ref18uHop g 0 y4 v4) : k_ref18uMemo.M g 0 { x with trail := y4 } L := At.all (frz_ref18uMemo (At.whole a) s4) (kl (d := h_ref18uMemo v4) a)
theorem D85u4 (x : ref18uMemo) (y : (List ref18uHop)) (v4 w4 : Value)  : Dif x { x with trail := y } 4 (hs_ref18uMemo v4) (hs_ref18uMemo w4) := by
  exact (And.intro (And.intro rfl rfl) (And.intro (And.intro rfl rfl) (And.intro (And.intro rfl rfl) (And.intro (And.intro rfl rfl) (And.intro (And.intro rfl rfl) trivial)))))
theorem F75u4 : tfld P 75 4 = some (42, 40) := by kernel_rfl
def zs111 : List (List Value) := fs_memo_Hop.map (·.zc)
theorem Z111 : tzero P 111 = some zs111.flatten := by kernel_rfl
theorem l111 : zs111.map List.length = [1, 1, 1] := by kernel_rfl
theorem P111 : tpl P 111 = some (plz zs111) := by kernel_rfl
def zs115 : List (List Value) := fs_octet_In.map (·.zc)
theorem Z115 : tzero P 115 = some zs115.flatten := by kernel_rfl
theorem l115 : zs115.map List.length = [1, 1] := by kernel_rfl
theorem P115 : tpl P 115 = some (plz zs115) := by kernel_rfl
def zs26 : List (List Value) := fs_ref10uCond.map (·.zc)
theorem Z26 : tzero P 26 = some zs26.flatten := by kernel_rfl
theorem l26 : zs26.map List.length = [1, 1, 1, 32, 1] := by kernel_rfl
theorem P26 : tpl P 26 = some (plz zs26) := by kernel_rfl
def zs28 : List (List Value) := fs_ref12uOp.map (·.zc)
theorem Z28 : tzero P 28 = some zs28.flatten := by kernel_rfl
theorem l28 : zs28.map List.length = [1, 1, 36, 1] := by kernel_rfl
theorem P28 : tpl P 28 = some (plz zs28) := by kernel_rfl
def zs31 : List (List Value) := fs_ref20uWish.map (·.zc)
theorem Z31 : tzero P 31 = some zs31.flatten := by kernel_rfl
theorem l31 : zs31.map List.length = [39, 1] := by kernel_rfl
theorem P31 : tpl P 31 = some (plz zs31) := by kernel_rfl
def zs37 : List (List Value) := fs_api_Cond.map (·.zc)
theorem Z37 : tzero P 37 = some zs37.flatten := by kernel_rfl
theorem l37 : zs37.map List.length = [1, 1, 1, 32, 1] := by kernel_rfl
theorem P37 : tpl P 37 = some (plz zs37) := by kernel_rfl
def zs39 : List (List Value) := fs_pact_Op.map (·.zc)
theorem Z39 : tzero P 39 = some zs39.flatten := by kernel_rfl
theorem l39 : zs39.map List.length = [1, 1, 36, 1] := by kernel_rfl
theorem P39 : tpl P 39 = some (plz zs39) := by kernel_rfl
def zs42 : List (List Value) := fs_clerk_Wish.map (·.zc)
theorem Z42 : tzero P 42 = some zs42.flatten := by kernel_rfl
theorem l42 : zs42.map List.length = [39, 1] := by kernel_rfl
theorem P42 : tpl P 42 = some (plz zs42) := by kernel_rfl
def zs64 : List (List Value) := fs_clerk_Rules.map (·.zc)
theorem Z64 : tzero P 64 = some zs64.flatten := by kernel_rfl
theorem l64 : zs64.map List.length = [2, 1, 1, 1] := by kernel_rfl
theorem P64 : tpl P 64 = some (plz zs64) := by kernel_rfl
def zs73 : List (List Value) := fs_ring_Sig.map (·.zc)
theorem Z73 : tzero P 73 = some zs73.flatten := by kernel_rfl
theorem l73 : zs73.map List.length = [1024, 1, 1] := by kernel_rfl
theorem P73 : tpl P 73 = some (plz zs73) := by kernel_rfl
def zs75 : List (List Value) := fs_memo_Memo.map (·.zc)
theorem Z75 : tzero P 75 = some zs75.flatten := by kernel_rfl
theorem l75 : zs75.map List.length = [1, 1, 1, 39, 1, 1026] := by kernel_rfl
theorem P75 : tpl P 75 = some (plz zs75) := by kernel_rfl
def zs83 : List (List Value) := fs_ref05uSig.map (·.zc)
theorem Z83 : tzero P 83 = some zs83.flatten := by kernel_rfl
theorem l83 : zs83.map List.length = [1024, 1, 1] := by kernel_rfl
theorem P83 : tpl P 83 = some (plz zs83) := by kernel_rfl
def zs85 : List (List Value) := fs_ref18uMemo.map (·.zc)
theorem Z85 : tzero P 85 = some zs85.flatten := by kernel_rfl
theorem l85 : zs85.map List.length = [1, 1, 1, 39, 1, 1026] := by kernel_rfl
theorem P85 : tpl P 85 = some (plz zs85) := by kernel_rfl
def zs94 : List (List Value) := fs_ref01uIn.map (·.zc)
theorem Z94 : tzero P 94 = some zs94.flatten := by kernel_rfl
theorem l94 : zs94.map List.length = [1, 1, 1] := by kernel_rfl
theorem P94 : tpl P 94 = some (plz zs94) := by kernel_rfl
def zs99 : List (List Value) := fs_ref18uHop.map (·.zc)
theorem Z99 : tzero P 99 = some zs99.flatten := by kernel_rfl
theorem l99 : zs99.map List.length = [1, 1, 1] := by kernel_rfl
theorem P99 : tpl P 99 = some (plz zs99) := by kernel_rfl
theorem S111u2 (x : memo_Hop) (y) : Same x { x with id := y } 2 fs_memo_Hop := ⟨rfl, rfl, trivial⟩
theorem S115u0 (x : octet_In) (y) : Same x { x with left := y } 0 fs_octet_In := ⟨rfl, trivial⟩
theorem S115u1 (x : octet_In) (y) : Same x { x with bad := y } 1 fs_octet_In := ⟨rfl, trivial⟩
theorem S26u0 (x : ref10uCond) (y) : Same x { x with id := y } 0 fs_ref10uCond := ⟨rfl, rfl, rfl, rfl, trivial⟩
theorem S26u1 (x : ref10uCond) (y) : Same x { x with by_ := y } 1 fs_ref10uCond := ⟨rfl, rfl, rfl, rfl, trivial⟩
theorem S26u2 (x : ref10uCond) (y) : Same x { x with amount := y } 2 fs_ref10uCond := ⟨rfl, rfl, rfl, rfl, trivial⟩
theorem S26u3 (x : ref10uCond) (y) : Same x { x with hash := y } 3 fs_ref10uCond := ⟨rfl, rfl, rfl, rfl, trivial⟩
theorem S26u4 (x : ref10uCond) (y) : Same x { x with expiry := y } 4 fs_ref10uCond := ⟨rfl, rfl, rfl, rfl, trivial⟩
theorem S28u0 (x : ref12uOp) (y) : Same x { x with kind := y } 0 fs_ref12uOp := ⟨rfl, rfl, rfl, trivial⟩
theorem S28u1 (x : ref12uOp) (y) : Same x { x with amount := y } 1 fs_ref12uOp := ⟨rfl, rfl, rfl, trivial⟩
theorem S28u2 (x : ref12uOp) (y) : Same x { x with cond := y } 2 fs_ref12uOp := ⟨rfl, rfl, rfl, trivial⟩
theorem S28u3 (x : ref12uOp) (y) : Same x { x with id := y } 3 fs_ref12uOp := ⟨rfl, rfl, rfl, trivial⟩
theorem S37u1 (x : api_Cond) (y) : Same x { x with by_ := y } 1 fs_api_Cond := ⟨rfl, rfl, rfl, rfl, trivial⟩
theorem S37u2 (x : api_Cond) (y) : Same x { x with amount := y } 2 fs_api_Cond := ⟨rfl, rfl, rfl, rfl, trivial⟩
theorem S37u3 (x : api_Cond) (y) : Same x { x with hash := y } 3 fs_api_Cond := ⟨rfl, rfl, rfl, rfl, trivial⟩
theorem S37u4 (x : api_Cond) (y) : Same x { x with expiry := y } 4 fs_api_Cond := ⟨rfl, rfl, rfl, rfl, trivial⟩
theorem S39u2 (x : pact_Op) (y) : Same x { x with cond := y } 2 fs_pact_Op := ⟨rfl, rfl, rfl, trivial⟩
theorem S39u3 (x : pact_Op) (y) : Same x { x with id := y } 3 fs_pact_Op := ⟨rfl, rfl, rfl, trivial⟩
theorem S42u1 (x : clerk_Wish) (y) : Same x { x with trail := y } 1 fs_clerk_Wish := ⟨rfl, trivial⟩
theorem S70u0 (x : lamp_Sig) (y) : Same x { x with open_ := y } 0 fs_lamp_Sig := ⟨rfl, trivial⟩
theorem S70u1 (x : lamp_Sig) (y) : Same x { x with other := y } 1 fs_lamp_Sig := ⟨rfl, trivial⟩
theorem S80u0 (x : ref04uSig) (y) : Same x { x with open_ := y } 0 fs_ref04uSig := ⟨rfl, trivial⟩
theorem S80u1 (x : ref04uSig) (y) : Same x { x with other := y } 1 fs_ref04uSig := ⟨rfl, trivial⟩
theorem S94u1 (x : ref01uIn) (y) : Same x { x with at_ := y } 1 fs_ref01uIn := ⟨rfl, rfl, trivial⟩
theorem S94u2 (x : ref01uIn) (y) : Same x { x with bad := y } 2 fs_ref01uIn := ⟨rfl, rfl, trivial⟩
theorem S99u0 (x : ref18uHop) (y) : Same x { x with channel := y } 0 fs_ref18uHop := ⟨rfl, rfl, trivial⟩
theorem S99u1 (x : ref18uHop) (y) : Same x { x with amount := y } 1 fs_ref18uHop := ⟨rfl, rfl, trivial⟩
theorem S99u2 (x : ref18uHop) (y) : Same x { x with id := y } 2 fs_ref18uHop := ⟨rfl, rfl, trivial⟩
theorem ar132 : tarr P 132 = some (32, 5) := by kernel_rfl
theorem ar24 : tarr P 24 = some (32, 5) := by kernel_rfl
theorem ar35 : tarr P 35 = some (32, 5) := by kernel_rfl
theorem ar68 : tarr P 68 = some (32, 67) := by kernel_rfl
theorem ar78 : tarr P 78 = some (32, 77) := by kernel_rfl
theorem f111u0 : tfo P 111 0 = some 0 := by kernel_rfl
theorem f111u1 : tfo P 111 1 = some 1 := by kernel_rfl
theorem f111u2 : tfo P 111 2 = some 2 := by kernel_rfl
theorem f115u0 : tfo P 115 0 = some 0 := by kernel_rfl
theorem f115u1 : tfo P 115 1 = some 1 := by kernel_rfl
theorem f26u0 : tfo P 26 0 = some 0 := by kernel_rfl
theorem f26u1 : tfo P 26 1 = some 1 := by kernel_rfl
theorem f26u2 : tfo P 26 2 = some 2 := by kernel_rfl
theorem f26u3 : tfo P 26 3 = some 3 := by kernel_rfl
theorem f26u4 : tfo P 26 4 = some 35 := by kernel_rfl
theorem f28u0 : tfo P 28 0 = some 0 := by kernel_rfl
theorem f28u1 : tfo P 28 1 = some 1 := by kernel_rfl
theorem f28u2 : tfo P 28 2 = some 2 := by kernel_rfl
theorem f28u3 : tfo P 28 3 = some 38 := by kernel_rfl
theorem f31u0 : tfo P 31 0 = some 0 := by kernel_rfl
theorem f31u1 : tfo P 31 1 = some 39 := by kernel_rfl
theorem f37u0 : tfo P 37 0 = some 0 := by kernel_rfl
theorem f37u1 : tfo P 37 1 = some 1 := by kernel_rfl
theorem f37u2 : tfo P 37 2 = some 2 := by kernel_rfl
theorem f37u3 : tfo P 37 3 = some 3 := by kernel_rfl
theorem f37u4 : tfo P 37 4 = some 35 := by kernel_rfl
theorem f39u0 : tfo P 39 0 = some 0 := by kernel_rfl
theorem f39u1 : tfo P 39 1 = some 1 := by kernel_rfl
theorem f39u2 : tfo P 39 2 = some 2 := by kernel_rfl
theorem f39u3 : tfo P 39 3 = some 38 := by kernel_rfl
theorem f42u0 : tfo P 42 0 = some 0 := by kernel_rfl
theorem f42u1 : tfo P 42 1 = some 39 := by kernel_rfl
theorem f62u1 : tfo P 62 1 = some 1 := by kernel_rfl
theorem f64u0 : tfo P 64 0 = some 0 := by kernel_rfl
theorem f64u1 : tfo P 64 1 = some 2 := by kernel_rfl
theorem f64u2 : tfo P 64 2 = some 3 := by kernel_rfl
theorem f64u3 : tfo P 64 3 = some 4 := by kernel_rfl
theorem f70u0 : tfo P 70 0 = some 0 := by kernel_rfl
theorem f70u1 : tfo P 70 1 = some 512 := by kernel_rfl
theorem f73u0 : tfo P 73 0 = some 0 := by kernel_rfl
theorem f73u1 : tfo P 73 1 = some 1024 := by kernel_rfl
theorem f73u2 : tfo P 73 2 = some 1025 := by kernel_rfl
theorem f75u0 : tfo P 75 0 = some 0 := by kernel_rfl
theorem f75u1 : tfo P 75 1 = some 1 := by kernel_rfl
theorem f75u2 : tfo P 75 2 = some 2 := by kernel_rfl
theorem f75u3 : tfo P 75 3 = some 3 := by kernel_rfl
theorem f75u4 : tfo P 75 4 = some 42 := by kernel_rfl
theorem f75u5 : tfo P 75 5 = some 43 := by kernel_rfl
theorem f80u0 : tfo P 80 0 = some 0 := by kernel_rfl
theorem f80u1 : tfo P 80 1 = some 512 := by kernel_rfl
theorem f83u0 : tfo P 83 0 = some 0 := by kernel_rfl
theorem f83u1 : tfo P 83 1 = some 1024 := by kernel_rfl
theorem f83u2 : tfo P 83 2 = some 1025 := by kernel_rfl
theorem f85u0 : tfo P 85 0 = some 0 := by kernel_rfl
theorem f85u1 : tfo P 85 1 = some 1 := by kernel_rfl
theorem f85u2 : tfo P 85 2 = some 2 := by kernel_rfl
theorem f85u3 : tfo P 85 3 = some 3 := by kernel_rfl
theorem f85u4 : tfo P 85 4 = some 42 := by kernel_rfl
theorem f85u5 : tfo P 85 5 = some 43 := by kernel_rfl
theorem f94u0 : tfo P 94 0 = some 0 := by kernel_rfl
theorem f94u1 : tfo P 94 1 = some 1 := by kernel_rfl
theorem f94u2 : tfo P 94 2 = some 2 := by kernel_rfl
theorem f99u0 : tfo P 99 0 = some 0 := by kernel_rfl
theorem f99u1 : tfo P 99 1 = some 1 := by kernel_rfl
theorem f99u2 : tfo P 99 2 = some 2 := by kernel_rfl
theorem k10 : okF P 10 = true := by kernel_rfl
theorem k11 : okF P 11 = true := by kernel_rfl
theorem k12 : okF P 12 = true := by kernel_rfl
theorem k13 : okF P 13 = true := by kernel_rfl
theorem k14 : okF P 14 = true := by kernel_rfl
theorem k15 : okF P 15 = true := by kernel_rfl
theorem k16 : okF P 16 = true := by kernel_rfl
theorem k17 : okF P 17 = true := by kernel_rfl
theorem k18 : okF P 18 = true := by kernel_rfl
theorem k19 : okF P 19 = true := by kernel_rfl
theorem k20 : okF P 20 = true := by kernel_rfl
theorem k21 : okF P 21 = true := by kernel_rfl
theorem k22 : okF P 22 = true := by kernel_rfl
theorem k23 : okF P 23 = true := by kernel_rfl
theorem k24 : okF P 24 = true := by kernel_rfl
theorem k25 : okF P 25 = true := by kernel_rfl
theorem k26 : okF P 26 = true := by kernel_rfl
theorem k27 : okF P 27 = true := by kernel_rfl
theorem k28 : okF P 28 = true := by kernel_rfl
theorem k29 : okF P 29 = true := by kernel_rfl
theorem k30 : okF P 30 = true := by kernel_rfl
theorem k31 : okF P 31 = true := by kernel_rfl
theorem k32 : okF P 32 = true := by kernel_rfl
theorem k33 : okF P 33 = true := by kernel_rfl
theorem k34 : okF P 34 = true := by kernel_rfl
theorem k35 : okF P 35 = true := by kernel_rfl
theorem k36 : okF P 36 = true := by kernel_rfl
theorem k37 : okF P 37 = true := by kernel_rfl
theorem k38 : okF P 38 = true := by kernel_rfl
theorem k39 : okF P 39 = true := by kernel_rfl
theorem k4 : okF P 4 = true := by kernel_rfl
theorem k40 : okF P 40 = true := by kernel_rfl
theorem k41 : okF P 41 = true := by kernel_rfl
theorem k42 : okF P 42 = true := by kernel_rfl
theorem k43 : okF P 43 = true := by kernel_rfl
theorem k44 : okF P 44 = true := by kernel_rfl
theorem k45 : okF P 45 = true := by kernel_rfl
theorem k46 : okF P 46 = true := by kernel_rfl
theorem k47 : okF P 47 = true := by kernel_rfl
theorem k48 : okF P 48 = true := by kernel_rfl
theorem k49 : okF P 49 = true := by kernel_rfl
theorem k5 : okF P 5 = true := by kernel_rfl
theorem k50 : okF P 50 = true := by kernel_rfl
theorem k51 : okF P 51 = true := by kernel_rfl
theorem k52 : okF P 52 = true := by kernel_rfl
theorem k53 : okF P 53 = true := by kernel_rfl
theorem k54 : okF P 54 = true := by kernel_rfl
theorem k55 : okF P 55 = true := by kernel_rfl
theorem k56 : okF P 56 = true := by kernel_rfl
theorem k57 : okF P 57 = true := by kernel_rfl
theorem k58 : okF P 58 = true := by kernel_rfl
theorem k59 : okF P 59 = true := by kernel_rfl
theorem k6 : okF P 6 = true := by kernel_rfl
theorem k60 : okF P 60 = true := by kernel_rfl
theorem k61 : okF P 61 = true := by kernel_rfl
theorem k62 : okF P 62 = true := by kernel_rfl
theorem k63 : okF P 63 = true := by kernel_rfl
theorem k64 : okF P 64 = true := by kernel_rfl
theorem k65 : okF P 65 = true := by kernel_rfl
theorem k66 : okF P 66 = true := by kernel_rfl
theorem k67 : okF P 67 = true := by kernel_rfl
theorem k7 : okF P 7 = true := by kernel_rfl
theorem k8 : okF P 8 = true := by kernel_rfl
theorem k9 : okF P 9 = true := by kernel_rfl
theorem n23 : tint P 23 = some .u64 := by kernel_rfl
theorem n3 : tint P 3 = some .i64 := by kernel_rfl
theorem n34 : tint P 34 = some .i64 := by kernel_rfl
theorem n5 : tint P 5 = some .u8 := by kernel_rfl
theorem n65 : tint P 65 = some .u32 := by kernel_rfl
theorem p86 : tptr P 86 = true := by kernel_rfl
theorem s104 : tsl P 104 = some 5 := by kernel_rfl
theorem s137 : tsl P 137 = some 65 := by kernel_rfl
theorem s139 : tsl P 139 = some 23 := by kernel_rfl
theorem s22 : tsl P 22 = some 31 := by kernel_rfl
theorem s29 : tsl P 29 = some 99 := by kernel_rfl
theorem s32 : tsl P 32 = some 5 := by kernel_rfl
theorem s40 : tsl P 40 = some 111 := by kernel_rfl
theorem s43 : tsl P 43 = some 42 := by kernel_rfl
theorem s71 : tsl P 71 = some 132 := by kernel_rfl
theorem s81 : tsl P 81 = some 24 := by kernel_rfl
theorem t111 : tinf P 111 = some (true, 3, 24) := by kernel_rfl
theorem t132 : tinf P 132 = some (true, 32, 32) := by kernel_rfl
theorem t23 : tinf P 23 = some (false, 1, 8) := by kernel_rfl
theorem t24 : tinf P 24 = some (true, 32, 32) := by kernel_rfl
theorem t26 : tinf P 26 = some (true, 36, 64) := by kernel_rfl
theorem t28 : tinf P 28 = some (true, 39, 88) := by kernel_rfl
theorem t29 : tinf P 29 = some (false, 1, 24) := by kernel_rfl
theorem t3 : tinf P 3 = some (false, 1, 8) := by kernel_rfl
theorem t31 : tinf P 31 = some (true, 40, 112) := by kernel_rfl
theorem t32 : tinf P 32 = some (false, 1, 24) := by kernel_rfl
theorem t34 : tinf P 34 = some (false, 1, 8) := by kernel_rfl
theorem t35 : tinf P 35 = some (true, 32, 32) := by kernel_rfl
theorem t37 : tinf P 37 = some (true, 36, 64) := by kernel_rfl
theorem t39 : tinf P 39 = some (true, 39, 88) := by kernel_rfl
theorem t40 : tinf P 40 = some (false, 1, 24) := by kernel_rfl
theorem t42 : tinf P 42 = some (true, 40, 112) := by kernel_rfl
theorem t45 : tinf P 45 = some (false, 1, 8) := by kernel_rfl
theorem t5 : tinf P 5 = some (false, 1, 1) := by kernel_rfl
theorem t64 : tinf P 64 = some (true, 5, 40) := by kernel_rfl
theorem t65 : tinf P 65 = some (false, 1, 4) := by kernel_rfl
theorem t67 : tinf P 67 = some (true, 16, 16) := by kernel_rfl
theorem t70 : tinf P 70 = some (true, 1024, 1024) := by kernel_rfl
theorem t71 : tinf P 71 = some (false, 1, 24) := by kernel_rfl
theorem t73 : tinf P 73 = some (true, 1026, 1056) := by kernel_rfl
theorem t75 : tinf P 75 = some (true, 1069, 1192) := by kernel_rfl
theorem t77 : tinf P 77 = some (true, 16, 16) := by kernel_rfl
theorem t80 : tinf P 80 = some (true, 1024, 1024) := by kernel_rfl
theorem t81 : tinf P 81 = some (false, 1, 24) := by kernel_rfl
theorem t83 : tinf P 83 = some (true, 1026, 1056) := by kernel_rfl
theorem t85 : tinf P 85 = some (true, 1069, 1192) := by kernel_rfl
theorem t99 : tinf P 99 = some (true, 3, 24) := by kernel_rfl
theorem u23 : P.underlying 23 = some (.int .u64) := by kernel_rfl
theorem u3 : P.underlying 3 = some (.int .i64) := by kernel_rfl
theorem u34 : P.underlying 34 = some (.int .i64) := by kernel_rfl
theorem u4 : P.underlying 4 = some (.bool) := by kernel_rfl
theorem u5 : P.underlying 5 = some (.int .u8) := by kernel_rfl
theorem u65 : P.underlying 65 = some (.int .u32) := by kernel_rfl
theorem u9 : P.underlying 9 = some (.string) := by kernel_rfl
theorem z111 : tzero P 111 = some k_memo_Hop.zc := by kernel_rfl
theorem z115 : tzero P 115 = some k_octet_In.zc := by kernel_rfl
theorem z132 : tzero P 132 = some (kNums .u8 32).zc := by kernel_rfl
theorem z23 : tzero P 23 = some (kInt .u64).zc := by kernel_rfl
theorem z24 : tzero P 24 = some (kNums .u8 32).zc := by kernel_rfl
theorem z26 : tzero P 26 = some k_ref10uCond.zc := by kernel_rfl
theorem z28 : tzero P 28 = some k_ref12uOp.zc := by kernel_rfl
theorem z31 : tzero P 31 = some k_ref20uWish.zc := by kernel_rfl
theorem z37 : tzero P 37 = some k_api_Cond.zc := by kernel_rfl
theorem z39 : tzero P 39 = some k_pact_Op.zc := by kernel_rfl
theorem z42 : tzero P 42 = some k_clerk_Wish.zc := by kernel_rfl
theorem z5 : tzero P 5 = some (kInt .u8).zc := by kernel_rfl
theorem z64 : tzero P 64 = some k_clerk_Rules.zc := by kernel_rfl
theorem z65 : tzero P 65 = some (kInt .u32).zc := by kernel_rfl
theorem z70 : tzero P 70 = some k_lamp_Sig.zc := by kernel_rfl
theorem z73 : tzero P 73 = some k_ring_Sig.zc := by kernel_rfl
theorem z75 : tzero P 75 = some k_memo_Memo.zc := by kernel_rfl
theorem z80 : tzero P 80 = some k_ref04uSig.zc := by kernel_rfl
theorem z83 : tzero P 83 = some k_ref05uSig.zc := by kernel_rfl
theorem z85 : tzero P 85 = some k_ref18uMemo.zc := by kernel_rfl
theorem z94 : tzero P 94 = some k_ref01uIn.zc := by kernel_rfl
theorem z99 : tzero P 99 = some k_ref18uHop.zc := by kernel_rfl
theorem E3 : EqK P 3 false (kInt .i64) 1 := eqInt n3
theorem E23 : EqK P 23 false (kInt .u64) 1 := eqInt n23
theorem E34 : EqK P 34 false (kInt .i64) 1 := eqInt n34
theorem E5 : EqK P 5 false (kInt .u8) 1 := eqInt n5
theorem E35 : EqK P 35 true (kNums .u8 32) 2 := eqNums ar35 n5 t5
theorem E37 : EqK P 37 true k_api_Cond 3 := eqSt (l := [(0, 23, false, 1), (1, 34, false, 1), (2, 23, false, 1), (3, 35, true, 32), (35, 23, false, 1)]) (by kernel_rfl) (elc E23 rfl rfl rfl rfl (elc E34 rfl rfl rfl rfl (elc E23 rfl rfl rfl rfl (elc E35 rfl rfl rfl rfl (elc E23 rfl rfl rfl rfl eln))))) (by rintro ⟨⟩ ⟨⟩; simp [api_Cond.mk.injEq])
theorem E39 : EqK P 39 true k_pact_Op 4 := eqSt (l := [(0, 3, false, 1), (1, 23, false, 1), (2, 37, true, 36), (38, 23, false, 1)]) (by kernel_rfl) (elc E3 rfl rfl rfl rfl (elc E23 rfl rfl rfl rfl (elc E37 rfl rfl rfl rfl (elc E23 rfl rfl rfl rfl eln)))) (by rintro ⟨⟩ ⟨⟩; simp [pact_Op.mk.injEq])
theorem E24 : EqK P 24 true (kNums .u8 32) 2 := eqNums ar24 n5 t5
theorem E26 : EqK P 26 true k_ref10uCond 3 := eqSt (l := [(0, 23, false, 1), (1, 3, false, 1), (2, 23, false, 1), (3, 24, true, 32), (35, 23, false, 1)]) (by kernel_rfl) (elc E23 rfl rfl rfl rfl (elc E3 rfl rfl rfl rfl (elc E23 rfl rfl rfl rfl (elc E24 rfl rfl rfl rfl (elc E23 rfl rfl rfl rfl eln))))) (by rintro ⟨⟩ ⟨⟩; simp [ref10uCond.mk.injEq])
theorem E28 : EqK P 28 true k_ref12uOp 4 := eqSt (l := [(0, 3, false, 1), (1, 23, false, 1), (2, 26, true, 36), (38, 23, false, 1)]) (by kernel_rfl) (elc E3 rfl rfl rfl rfl (elc E23 rfl rfl rfl rfl (elc E26 rfl rfl rfl rfl (elc E23 rfl rfl rfl rfl eln)))) (by rintro ⟨⟩ ⟨⟩; simp [ref12uOp.mk.injEq])
theorem E65 : EqK P 65 false (kInt .u32) 1 := eqInt n65
theorem E99 : EqK P 99 true k_ref18uHop 2 := eqSt (l := [(0, 65, false, 1), (1, 23, false, 1), (2, 23, false, 1)]) (by kernel_rfl) (elc E65 rfl rfl rfl rfl (elc E23 rfl rfl rfl rfl (elc E23 rfl rfl rfl rfl eln))) (by rintro ⟨⟩ ⟨⟩; simp [ref18uHop.mk.injEq])
end Go.Tl
