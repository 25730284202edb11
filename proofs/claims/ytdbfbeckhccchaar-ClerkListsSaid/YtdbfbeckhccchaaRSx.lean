/- The data of the pure side: one structure for each struct type that the functions use. Written by a program of mine. -/
import Derived.Test.YtdbfbeckhccchaaRP
namespace Go.Tl
open Go
set_option linter.unusedVariables false
set_option linter.unusedSimpArgs false
structure ref10uCond where
  id : Int
  by_ : Int
  amount : Int
  hash : (List Int)
  expiry : Int
  deriving DecidableEq
def ref10uCond.zero : ref10uCond := { id := 0, by_ := 0, amount := 0, hash := (List.replicate 32 0), expiry := 0 }
structure ref12uOp where
  kind : Int
  amount : Int
  cond : ref10uCond
  id : Int
  deriving DecidableEq
def ref12uOp.zero : ref12uOp := { kind := 0, amount := 0, cond := ref10uCond.zero, id := 0 }
structure ref18uHop where
  channel : Int
  amount : Int
  id : Int
  deriving DecidableEq
def ref18uHop.zero : ref18uHop := { channel := 0, amount := 0, id := 0 }
structure ref20uWish where
  op : ref12uOp
  trail : (List ref18uHop)
  deriving DecidableEq
def ref20uWish.zero : ref20uWish := { op := ref12uOp.zero, trail := [] }
structure api_Cond where
  id : Int
  by_ : Int
  amount : Int
  hash : (List Int)
  expiry : Int
  deriving DecidableEq
def api_Cond.zero : api_Cond := { id := 0, by_ := 0, amount := 0, hash := (List.replicate 32 0), expiry := 0 }
structure pact_Op where
  kind : Int
  amount : Int
  cond : api_Cond
  id : Int
  deriving DecidableEq
def pact_Op.zero : pact_Op := { kind := 0, amount := 0, cond := api_Cond.zero, id := 0 }
structure memo_Hop where
  channel : Int
  amount : Int
  id : Int
  deriving DecidableEq
def memo_Hop.zero : memo_Hop := { channel := 0, amount := 0, id := 0 }
structure clerk_Wish where
  op : pact_Op
  trail : (List memo_Hop)
  deriving DecidableEq
def clerk_Wish.zero : clerk_Wish := { op := pact_Op.zero, trail := [] }
structure money_Fee where
  base : Int
  rate : Int
  deriving DecidableEq
def money_Fee.zero : money_Fee := { base := 0, rate := 0 }
structure clerk_Rules where
  fee : money_Fee
  margin : Int
  patience : Int
  longest : Int
  deriving DecidableEq
def clerk_Rules.zero : clerk_Rules := { fee := money_Fee.zero, margin := 0, patience := 0, longest := 0 }
structure lamp_Sig where
  open_ : (List (List Int))
  other : (List (List Int))
  deriving DecidableEq
def lamp_Sig.zero : lamp_Sig := { open_ := (List.replicate 32 (List.replicate 16 0)), other := (List.replicate 32 (List.replicate 16 0)) }
structure ring_Sig where
  sig : lamp_Sig
  key : Int
  way : (List (List Int))
  deriving DecidableEq
def ring_Sig.zero : ring_Sig := { sig := lamp_Sig.zero, key := 0, way := [] }
structure memo_Memo where
  kind : Int
  channel : Int
  round : Int
  op : pact_Op
  trail : (List memo_Hop)
  sig : ring_Sig
  deriving DecidableEq
def memo_Memo.zero : memo_Memo := { kind := 0, channel := 0, round := 0, op := pact_Op.zero, trail := [], sig := ring_Sig.zero }
structure ref04uSig where
  open_ : (List (List Int))
  other : (List (List Int))
  deriving DecidableEq
def ref04uSig.zero : ref04uSig := { open_ := (List.replicate 32 (List.replicate 16 0)), other := (List.replicate 32 (List.replicate 16 0)) }
structure ref05uSig where
  s : ref04uSig
  key : Int
  way : (List (List Int))
  deriving DecidableEq
def ref05uSig.zero : ref05uSig := { s := ref04uSig.zero, key := 0, way := [] }
structure ref18uMemo where
  kind : Int
  channel : Int
  round : Int
  op : ref12uOp
  trail : (List ref18uHop)
  sig : ref05uSig
  deriving DecidableEq
def ref18uMemo.zero : ref18uMemo := { kind := 0, channel := 0, round := 0, op := ref12uOp.zero, trail := [], sig := ref05uSig.zero }
structure ref01uIn where
  b : (List Int)
  at_ : Int
  bad : Int
  deriving DecidableEq
def ref01uIn.zero : ref01uIn := { b := [], at_ := 0, bad := 0 }
structure octet_In where
  left : (List Int)
  bad : Int
  deriving DecidableEq
def octet_In.zero : octet_In := { left := [], bad := 0 }
end Go.Tl
