/- What functions answer, plainly: printed by a program (pw.py) out of the translation. -/
import Derived.Test.YtfacmhngbaboiaaA20
set_option linter.unusedVariables false
set_option linter.unusedSimpArgs false
set_option maxRecDepth 100000
set_option maxHeartbeats 1000000
namespace Go.Proofs.Ytfacmhngbaboiaa.AI
structure TSpan where
  From : Int
  To : Int
deriving Inhabited, DecidableEq
structure TLig where
  Parts : List Int
  To : Int
deriving Inhabited, DecidableEq
structure TSet where
  Spans : List TSpan
  Not : Bool
deriving Inhabited, DecidableEq
structure TAct where
  At : Int
  Lookup : Int
deriving Inhabited, DecidableEq
structure TCtx where
  Back : List TSet
  In : List TSet
  Ahead : List TSet
  Acts : List TAct
deriving Inhabited, DecidableEq
structure TValue where
  X : Int
  Y : Int
  Wide : Int
  High : Int
deriving Inhabited, DecidableEq
structure TTwo where
  Second : Int
  A : TValue
  B : TValue
deriving Inhabited, DecidableEq
structure TClass where
  From : Int
  To : Int
  Class : Int
deriving Inhabited, DecidableEq
structure TAnchor where
  Is : Bool
  X : Int
  Y : Int
deriving Inhabited, DecidableEq
structure TArr2_TAnchor where
  e0 : TAnchor
  e1 : TAnchor
deriving Inhabited, DecidableEq
structure TMark where
  Class : Int
  At : TAnchor
deriving Inhabited, DecidableEq
structure TSub where
  Kind : Int
  Cover : List TSpan
  ByDelta : Bool
  Delta : Int
  To : List (List Int)
  Ligs : List (List TLig)
  Ctxs : List TCtx
  Vals : List TValue
  Pairs : List (List TTwo)
  First : List TClass
  Second : List TClass
  Grid : List (List TTwo)
  Curs : List TArr2_TAnchor
  Marks : List TMark
  Base : List TSpan
  Bases : List (List (List TAnchor))
deriving Inhabited, DecidableEq
def law13_GposThings_L1 (N : Nat) (a_0 : Int) (l_1 : List TSpan) (b_2 : Bool) (a_3 : Int) (l_4 : List (List Int)) (l_5 : List (List TLig)) (l_6 : List TCtx) (l_7 : List TValue) (l_8 : List (List TTwo)) (l_9 : List TClass) (l_10 : List TClass) (l_11 : List (List TTwo)) (l_12 : List TArr2_TAnchor) (l_13 : List TMark) (l_14 : List TSpan) (l_15 : List (List (List TAnchor))) : Nat → Int → Option ((Unit) ⊕ (Unit))
  | 0, _ => none
  | n + 1, i_9 =>
    if i_9 < (l_6.length : Int) then (
      (atI l_6 i_9).bind fun x_12 =>
      if 100 < (x_12.Back.length : Int) then (
        some (.inr ())
      ) else (
        if 100 < (x_12.In.length : Int) then (
          some (.inr ())
        ) else (
          if 100 < (x_12.Ahead.length : Int) then (
            some (.inr ())
          ) else (
            law13_GposThings_L1 N a_0 l_1 b_2 a_3 l_4 l_5 l_6 l_7 l_8 l_9 l_10 l_11 l_12 l_13 l_14 l_15 n (IntKind.i64.wrap (i_9 + 1))
          )
        )
      )
    ) else (
      some (.inl ())
    )
def gsub_Things_1 (N : Nat) (a_0 : Int) (a_1 : Int) : Option (Unit) :=
  some ()
def gsub_Things_L1 (N : Nat) (l_4 : List (List Int)) (a_0 : Int) (l_1 : List TSpan) (b_2 : Bool) (a_3 : Int) (l_5 : List (List TLig)) (l_6 : List TCtx) (l_7 : List TValue) (l_8 : List (List TTwo)) (l_9 : List TClass) (l_10 : List TClass) (l_11 : List (List TTwo)) (l_12 : List TArr2_TAnchor) (l_13 : List TMark) (l_14 : List TSpan) (l_15 : List (List (List TAnchor))) : Nat → Int → Int → Option (Int)
  | 0, _, _ => none
  | n + 1, i_1, i_2 =>
    if i_1 < (l_4.length : Int) then (
      (atI l_4 i_1).bind fun x_5 =>
      (gsub_Things_1 N (IntKind.i64.wrap ((x_5.length : Int) + 1)) i_2).bind fun _ =>
      gsub_Things_L1 N l_4 a_0 l_1 b_2 a_3 l_5 l_6 l_7 l_8 l_9 l_10 l_11 l_12 l_13 l_14 l_15 n (IntKind.i64.wrap (i_1 + 1)) (min (IntKind.i64.wrap (i_2 + (IntKind.i64.wrap ((x_5.length : Int) + 1)))) 20001)
    ) else (
      some i_2
    )
def gsub_Things_L3 (N : Nat) (l_5 : List (List TLig)) (i_1003 : Int) (x_1007 : List TLig) (a_0 : Int) (l_1 : List TSpan) (b_2 : Bool) (a_3 : Int) (l_4 : List (List Int)) (l_6 : List TCtx) (l_7 : List TValue) (l_8 : List (List TTwo)) (l_9 : List TClass) (l_10 : List TClass) (l_11 : List (List TTwo)) (l_12 : List TArr2_TAnchor) (l_13 : List TMark) (l_14 : List TSpan) (l_15 : List (List (List TAnchor))) : Nat → Int → Int → Option (Int)
  | 0, _, _ => none
  | n + 1, i_1013, i_1014 =>
    if i_1013 < (x_1007.length : Int) then (
      (atI x_1007 i_1013).bind fun x_1017 =>
      (gsub_Things_1 N (IntKind.i64.wrap ((x_1017.Parts.length : Int) + 1)) i_1014).bind fun _ =>
      gsub_Things_L3 N l_5 i_1003 x_1007 a_0 l_1 b_2 a_3 l_4 l_6 l_7 l_8 l_9 l_10 l_11 l_12 l_13 l_14 l_15 n (IntKind.i64.wrap (i_1013 + 1)) (min (IntKind.i64.wrap (i_1014 + (IntKind.i64.wrap ((x_1017.Parts.length : Int) + 1)))) 20001)
    ) else (
      some i_1014
    )
def gsub_Things_L4 (N : Nat) (l_5 : List (List TLig)) (a_0 : Int) (l_1 : List TSpan) (b_2 : Bool) (a_3 : Int) (l_4 : List (List Int)) (l_6 : List TCtx) (l_7 : List TValue) (l_8 : List (List TTwo)) (l_9 : List TClass) (l_10 : List TClass) (l_11 : List (List TTwo)) (l_12 : List TArr2_TAnchor) (l_13 : List TMark) (l_14 : List TSpan) (l_15 : List (List (List TAnchor))) : Nat → Int → Int → Option (Int)
  | 0, _, _ => none
  | n + 1, i_1003, i_1004 =>
    if i_1003 < (l_5.length : Int) then (
      (atI l_5 i_1003).bind fun x_1007 =>
      (gsub_Things_1 N 1 i_1004).bind fun _ =>
      (gsub_Things_L3 N l_5 i_1003 x_1007 a_0 l_1 b_2 a_3 l_4 l_6 l_7 l_8 l_9 l_10 l_11 l_12 l_13 l_14 l_15 N 0 (min (IntKind.i64.wrap (i_1004 + 1)) 20001)).bind fun y_2014 =>
      gsub_Things_L4 N l_5 a_0 l_1 b_2 a_3 l_4 l_6 l_7 l_8 l_9 l_10 l_11 l_12 l_13 l_14 l_15 n (IntKind.i64.wrap (i_1003 + 1)) y_2014
    ) else (
      some i_1004
    )
def gsub_Things_L9 (N : Nat) (l_6 : List TCtx) (i_2005 : Int) (x_2009 : TCtx) (i_2014 : Int) (x_2018 : List TSet) : Nat → Int → Int → Option (Int)
  | 0, _, _ => none
  | n + 1, i_2022, i_2023 =>
    if i_2022 < (x_2018.length : Int) then (
      (atI x_2018 i_2022).bind fun x_2026 =>
      (gsub_Things_1 N (IntKind.i64.wrap ((x_2026.Spans.length : Int) + 1)) i_2023).bind fun _ =>
      gsub_Things_L9 N l_6 i_2005 x_2009 i_2014 x_2018 n (IntKind.i64.wrap (i_2022 + 1)) (min (IntKind.i64.wrap (i_2023 + (IntKind.i64.wrap ((x_2026.Spans.length : Int) + 1)))) 20001)
    ) else (
      some i_2023
    )
def gsub_Things_L10 (N : Nat) (l_6 : List TCtx) (i_2005 : Int) (x_2009 : TCtx) : Nat → Int → Int → Option (Int)
  | 0, _, _ => none
  | n + 1, i_2014, i_2015 =>
    if i_2014 < 3 then (
      (atI ([x_2009.Back, x_2009.In, x_2009.Ahead]) i_2014).bind fun x_2018 =>
      (gsub_Things_L9 N l_6 i_2005 x_2009 i_2014 x_2018 N 0 i_2015).bind fun y_3023 =>
      gsub_Things_L10 N l_6 i_2005 x_2009 n (IntKind.i64.wrap (i_2014 + 1)) y_3023
    ) else (
      some i_2015
    )
def gsub_Things_L11 (N : Nat) (l_6 : List TCtx) : Nat → Int → Int → Option (Int)
  | 0, _, _ => none
  | n + 1, i_2005, i_2006 =>
    if i_2005 < (l_6.length : Int) then (
      (atI l_6 i_2005).bind fun x_2009 =>
      (gsub_Things_L10 N l_6 i_2005 x_2009 N 0 i_2006).bind fun y_3015 =>
      (gsub_Things_1 N (x_2009.Acts.length : Int) y_3015).bind fun _ =>
      gsub_Things_L11 N l_6 n (IntKind.i64.wrap (i_2005 + 1)) (min (IntKind.i64.wrap (y_3015 + (x_2009.Acts.length : Int))) 20001)
    ) else (
      some i_2006
    )
def gsub_Things (N : Nat) (a_0 : Int) (l_1 : List TSpan) (b_2 : Bool) (a_3 : Int) (l_4 : List (List Int)) (l_5 : List (List TLig)) (l_6 : List TCtx) (l_7 : List TValue) (l_8 : List (List TTwo)) (l_9 : List TClass) (l_10 : List TClass) (l_11 : List (List TTwo)) (l_12 : List TArr2_TAnchor) (l_13 : List TMark) (l_14 : List TSpan) (l_15 : List (List (List TAnchor))) : Option (Int) :=
  (gsub_Things_L1 N l_4 a_0 l_1 b_2 a_3 l_5 l_6 l_7 l_8 l_9 l_10 l_11 l_12 l_13 l_14 l_15 N 0 1).bind fun y_1002 =>
  (gsub_Things_L4 N l_5 a_0 l_1 b_2 a_3 l_4 l_6 l_7 l_8 l_9 l_10 l_11 l_12 l_13 l_14 l_15 N 0 y_1002).bind fun y_2004 =>
  (gsub_Things_L11 N l_6 N 0 y_2004).bind fun y_3006 =>
  some y_3006
def gpos_Things_L2 (N : Nat) (l_8 : List (List TTwo)) (l_11 : List (List TTwo)) (i_4 : Int) (a_0 : Int) (l_1 : List TSpan) (b_2 : Bool) (a_3 : Int) (l_4 : List (List Int)) (l_5 : List (List TLig)) (l_6 : List TCtx) (l_7 : List TValue) (l_9 : List TClass) (l_10 : List TClass) (l_12 : List TArr2_TAnchor) (l_13 : List TMark) (l_14 : List TSpan) (l_15 : List (List (List TAnchor))) : Nat → Int → Int → Option (Int)
  | 0, _, _ => none
  | n + 1, i_11, i_12 =>
    if i_12 < (l_8.length : Int) then (
      (atI l_8 i_12).bind fun x_15 =>
      gpos_Things_L2 N l_8 l_11 i_4 a_0 l_1 b_2 a_3 l_4 l_5 l_6 l_7 l_9 l_10 l_12 l_13 l_14 l_15 n (IntKind.i64.wrap (i_11 + (IntKind.i64.wrap ((x_15.length : Int) + 1)))) (IntKind.i64.wrap (i_12 + 1))
    ) else (
      some i_11
    )
def gpos_Things_L3 (N : Nat) (l_8 : List (List TTwo)) (l_11 : List (List TTwo)) (i_4 : Int) (a_0 : Int) (l_1 : List TSpan) (b_2 : Bool) (a_3 : Int) (l_4 : List (List Int)) (l_5 : List (List TLig)) (l_6 : List TCtx) (l_7 : List TValue) (l_9 : List TClass) (l_10 : List TClass) (l_12 : List TArr2_TAnchor) (l_13 : List TMark) (l_14 : List TSpan) (l_15 : List (List (List TAnchor))) : Nat → Int → Int → Option (Int)
  | 0, _, _ => none
  | n + 1, i_1017, i_1018 =>
    if i_1018 < (l_11.length : Int) then (
      (atI l_11 i_1018).bind fun x_1021 =>
      gpos_Things_L3 N l_8 l_11 i_4 a_0 l_1 b_2 a_3 l_4 l_5 l_6 l_7 l_9 l_10 l_12 l_13 l_14 l_15 n (IntKind.i64.wrap (i_1017 + (IntKind.i64.wrap ((x_1021.length : Int) + 1)))) (IntKind.i64.wrap (i_1018 + 1))
    ) else (
      some i_1017
    )
def gpos_Things_L4 (N : Nat) (l_8 : List (List TTwo)) (l_11 : List (List TTwo)) (a_0 : Int) (l_1 : List TSpan) (b_2 : Bool) (a_3 : Int) (l_4 : List (List Int)) (l_5 : List (List TLig)) (l_6 : List TCtx) (l_7 : List TValue) (l_9 : List TClass) (l_10 : List TClass) (l_12 : List TArr2_TAnchor) (l_13 : List TMark) (l_14 : List TSpan) (l_15 : List (List (List TAnchor))) : Nat → Int → Int → Option (Int)
  | 0, _, _ => none
  | n + 1, i_3, i_4 =>
    if i_4 < 2 then (
      if i_4 = 0 then (
        (gpos_Things_L2 N l_8 l_11 i_4 a_0 l_1 b_2 a_3 l_4 l_5 l_6 l_7 l_9 l_10 l_12 l_13 l_14 l_15 N i_3 0).bind fun y_1012 =>
        gpos_Things_L4 N l_8 l_11 a_0 l_1 b_2 a_3 l_4 l_5 l_6 l_7 l_9 l_10 l_12 l_13 l_14 l_15 n y_1012 (IntKind.i64.wrap (i_4 + 1))
      ) else (
        if i_4 = 1 then (
          (gpos_Things_L3 N l_8 l_11 i_4 a_0 l_1 b_2 a_3 l_4 l_5 l_6 l_7 l_9 l_10 l_12 l_13 l_14 l_15 N i_3 0).bind fun y_2018 =>
          gpos_Things_L4 N l_8 l_11 a_0 l_1 b_2 a_3 l_4 l_5 l_6 l_7 l_9 l_10 l_12 l_13 l_14 l_15 n y_2018 (IntKind.i64.wrap (i_4 + 1))
        ) else (
          none
        )
      )
    ) else (
      some i_3
    )
def gpos_Things_L6 (N : Nat) (l_15 : List (List (List TAnchor))) (i_1006 : Int) (x_1009 : List (List TAnchor)) : Nat → Int → Int → Option (Int)
  | 0, _, _ => none
  | n + 1, i_1014, i_1015 =>
    if i_1015 < (x_1009.length : Int) then (
      (atI x_1009 i_1015).bind fun x_1018 =>
      gpos_Things_L6 N l_15 i_1006 x_1009 n (IntKind.i64.wrap (i_1014 + (IntKind.i64.wrap ((x_1018.length : Int) + 1)))) (IntKind.i64.wrap (i_1015 + 1))
    ) else (
      some i_1014
    )
def gpos_Things_L7 (N : Nat) (l_15 : List (List (List TAnchor))) : Nat → Int → Int → Option (Int)
  | 0, _, _ => none
  | n + 1, i_1005, i_1006 =>
    if i_1006 < (l_15.length : Int) then (
      (atI l_15 i_1006).bind fun x_1009 =>
      (gpos_Things_L6 N l_15 i_1006 x_1009 N (IntKind.i64.wrap (i_1005 + 1)) 0).bind fun y_2015 =>
      gpos_Things_L7 N l_15 n y_2015 (IntKind.i64.wrap (i_1006 + 1))
    ) else (
      some i_1005
    )
def gpos_Things (N : Nat) (a_0 : Int) (l_1 : List TSpan) (b_2 : Bool) (a_3 : Int) (l_4 : List (List Int)) (l_5 : List (List TLig)) (l_6 : List TCtx) (l_7 : List TValue) (l_8 : List (List TTwo)) (l_9 : List TClass) (l_10 : List TClass) (l_11 : List (List TTwo)) (l_12 : List TArr2_TAnchor) (l_13 : List TMark) (l_14 : List TSpan) (l_15 : List (List (List TAnchor))) : Option (Int) :=
  (gsub_Things N 0 ([]) false 0 ([]) ([]) l_6 ([]) ([]) ([]) ([]) ([]) ([]) ([]) ([]) ([])).bind fun y_1 =>
  (gpos_Things_L4 N l_8 l_11 a_0 l_1 b_2 a_3 l_4 l_5 l_6 l_7 l_9 l_10 l_12 l_13 l_14 l_15 N (IntKind.i64.wrap ((IntKind.i64.wrap ((IntKind.i64.wrap ((IntKind.i64.wrap ((IntKind.i64.wrap ((IntKind.i64.wrap (y_1 + (l_7.length : Int))) + (l_12.length : Int))) + (l_13.length : Int))) + (l_14.length : Int))) + (l_9.length : Int))) + (l_10.length : Int))) 0).bind fun y_1004 =>
  (gpos_Things_L7 N l_15 N y_1004 0).bind fun y_2006 =>
  some (min y_2006 20001)
def ref12_Things_L1 (N : Nat) (a_0 : Int) (l_1 : List TSpan) (b_2 : Bool) (a_3 : Int) (l_4 : List (List Int)) (l_5 : List (List TLig)) (l_6 : List TCtx) (l_7 : List TValue) (l_8 : List (List TTwo)) (l_9 : List TClass) (l_10 : List TClass) (l_11 : List (List TTwo)) (l_12 : List TArr2_TAnchor) (l_13 : List TMark) (l_14 : List TSpan) (l_15 : List (List (List TAnchor))) : Nat → Int → Int → Option (Int)
  | 0, _, _ => none
  | n + 1, i_1, i_2 =>
    if i_2 < (l_4.length : Int) then (
      (atI l_4 i_2).bind fun x_5 =>
      ref12_Things_L1 N a_0 l_1 b_2 a_3 l_4 l_5 l_6 l_7 l_8 l_9 l_10 l_11 l_12 l_13 l_14 l_15 n (IntKind.i64.wrap ((IntKind.i64.wrap (i_1 + 1)) + (x_5.length : Int))) (IntKind.i64.wrap (i_2 + 1))
    ) else (
      some i_1
    )
def ref12_Things_L3 (N : Nat) (i_1004 : Int) (a_0 : Int) (l_1 : List TSpan) (b_2 : Bool) (a_3 : Int) (l_4 : List (List Int)) (l_5 : List (List TLig)) (l_6 : List TCtx) (l_7 : List TValue) (l_8 : List (List TTwo)) (l_9 : List TClass) (l_10 : List TClass) (l_11 : List (List TTwo)) (l_12 : List TArr2_TAnchor) (l_13 : List TMark) (l_14 : List TSpan) (l_15 : List (List (List TAnchor))) : Nat → Int → Int → Option (Int)
  | 0, _, _ => none
  | n + 1, i_1007, i_1008 =>
    (atI l_5 i_1004).bind fun x_1009 =>
    if i_1008 < (x_1009.length : Int) then (
      (atI x_1009 i_1008).bind fun x_1016 =>
      ref12_Things_L3 N i_1004 a_0 l_1 b_2 a_3 l_4 l_5 l_6 l_7 l_8 l_9 l_10 l_11 l_12 l_13 l_14 l_15 n (IntKind.i64.wrap ((IntKind.i64.wrap (i_1007 + 1)) + (x_1016.Parts.length : Int))) (IntKind.i64.wrap (i_1008 + 1))
    ) else (
      some i_1007
    )
def ref12_Things_L4 (N : Nat) (a_0 : Int) (l_1 : List TSpan) (b_2 : Bool) (a_3 : Int) (l_4 : List (List Int)) (l_5 : List (List TLig)) (l_6 : List TCtx) (l_7 : List TValue) (l_8 : List (List TTwo)) (l_9 : List TClass) (l_10 : List TClass) (l_11 : List (List TTwo)) (l_12 : List TArr2_TAnchor) (l_13 : List TMark) (l_14 : List TSpan) (l_15 : List (List (List TAnchor))) : Nat → Int → Int → Option (Int)
  | 0, _, _ => none
  | n + 1, i_1003, i_1004 =>
    if i_1004 < (l_5.length : Int) then (
      (ref12_Things_L3 N i_1004 a_0 l_1 b_2 a_3 l_4 l_5 l_6 l_7 l_8 l_9 l_10 l_11 l_12 l_13 l_14 l_15 N (IntKind.i64.wrap (i_1003 + 1)) 0).bind fun y_2008 =>
      ref12_Things_L4 N a_0 l_1 b_2 a_3 l_4 l_5 l_6 l_7 l_8 l_9 l_10 l_11 l_12 l_13 l_14 l_15 n y_2008 (IntKind.i64.wrap (i_1004 + 1))
    ) else (
      some i_1003
    )
def ref12_Things_L11 (N : Nat) (i_2006 : Int) (i_2015 : Int) (x_2018 : TCtx) (a_0 : Int) (l_1 : List TSpan) (b_2 : Bool) (a_3 : Int) (l_4 : List (List Int)) (l_5 : List (List TLig)) (l_6 : List TCtx) (l_7 : List TValue) (l_8 : List (List TTwo)) (l_9 : List TClass) (l_10 : List TClass) (l_11 : List (List TTwo)) (l_12 : List TArr2_TAnchor) (l_13 : List TMark) (l_14 : List TSpan) (l_15 : List (List (List TAnchor))) : Nat → Int → Int → Option (Int)
  | 0, _, _ => none
  | n + 1, i_2027, i_2028 =>
    if i_2028 < (x_2018.Ahead.length : Int) then (
      (atI x_2018.Ahead i_2028).bind fun x_2031 =>
      ref12_Things_L11 N i_2006 i_2015 x_2018 a_0 l_1 b_2 a_3 l_4 l_5 l_6 l_7 l_8 l_9 l_10 l_11 l_12 l_13 l_14 l_15 n (IntKind.i64.wrap ((IntKind.i64.wrap (i_2027 + 1)) + (x_2031.Spans.length : Int))) (IntKind.i64.wrap (i_2028 + 1))
    ) else (
      some i_2027
    )
def ref12_Things_L12 (N : Nat) (i_2006 : Int) (i_2015 : Int) (x_2018 : TCtx) (a_0 : Int) (l_1 : List TSpan) (b_2 : Bool) (a_3 : Int) (l_4 : List (List Int)) (l_5 : List (List TLig)) (l_6 : List TCtx) (l_7 : List TValue) (l_8 : List (List TTwo)) (l_9 : List TClass) (l_10 : List TClass) (l_11 : List (List TTwo)) (l_12 : List TArr2_TAnchor) (l_13 : List TMark) (l_14 : List TSpan) (l_15 : List (List (List TAnchor))) : Nat → Int → Int → Option (Int)
  | 0, _, _ => none
  | n + 1, i_3029, i_3030 =>
    if i_3030 < (x_2018.In.length : Int) then (
      (atI x_2018.In i_3030).bind fun x_3033 =>
      ref12_Things_L12 N i_2006 i_2015 x_2018 a_0 l_1 b_2 a_3 l_4 l_5 l_6 l_7 l_8 l_9 l_10 l_11 l_12 l_13 l_14 l_15 n (IntKind.i64.wrap ((IntKind.i64.wrap (i_3029 + 1)) + (x_3033.Spans.length : Int))) (IntKind.i64.wrap (i_3030 + 1))
    ) else (
      some i_3029
    )
def ref12_Things_L13 (N : Nat) (i_2006 : Int) (i_2015 : Int) (x_2018 : TCtx) (a_0 : Int) (l_1 : List TSpan) (b_2 : Bool) (a_3 : Int) (l_4 : List (List Int)) (l_5 : List (List TLig)) (l_6 : List TCtx) (l_7 : List TValue) (l_8 : List (List TTwo)) (l_9 : List TClass) (l_10 : List TClass) (l_11 : List (List TTwo)) (l_12 : List TArr2_TAnchor) (l_13 : List TMark) (l_14 : List TSpan) (l_15 : List (List (List TAnchor))) : Nat → Int → Int → Option (Int)
  | 0, _, _ => none
  | n + 1, i_5035, i_5036 =>
    if i_5036 < (x_2018.Back.length : Int) then (
      (atI x_2018.Back i_5036).bind fun x_5039 =>
      ref12_Things_L13 N i_2006 i_2015 x_2018 a_0 l_1 b_2 a_3 l_4 l_5 l_6 l_7 l_8 l_9 l_10 l_11 l_12 l_13 l_14 l_15 n (IntKind.i64.wrap ((IntKind.i64.wrap (i_5035 + 1)) + (x_5039.Spans.length : Int))) (IntKind.i64.wrap (i_5036 + 1))
    ) else (
      some i_5035
    )
def ref12_Things_L14 (N : Nat) (i_2006 : Int) (a_0 : Int) (l_1 : List TSpan) (b_2 : Bool) (a_3 : Int) (l_4 : List (List Int)) (l_5 : List (List TLig)) (l_6 : List TCtx) (l_7 : List TValue) (l_8 : List (List TTwo)) (l_9 : List TClass) (l_10 : List TClass) (l_11 : List (List TTwo)) (l_12 : List TArr2_TAnchor) (l_13 : List TMark) (l_14 : List TSpan) (l_15 : List (List (List TAnchor))) : Nat → Int → Int → Option (Int)
  | 0, _, _ => none
  | n + 1, i_2014, i_2015 =>
    if i_2015 < 3 then (
      (atI l_6 i_2006).bind fun x_2018 =>
      if i_2015 = 1 then (
        if i_2015 = 2 then (
          (ref12_Things_L11 N i_2006 i_2015 x_2018 a_0 l_1 b_2 a_3 l_4 l_5 l_6 l_7 l_8 l_9 l_10 l_11 l_12 l_13 l_14 l_15 N i_2014 0).bind fun y_3028 =>
          ref12_Things_L14 N i_2006 a_0 l_1 b_2 a_3 l_4 l_5 l_6 l_7 l_8 l_9 l_10 l_11 l_12 l_13 l_14 l_15 n y_3028 (IntKind.i64.wrap (i_2015 + 1))
        ) else (
          (ref12_Things_L12 N i_2006 i_2015 x_2018 a_0 l_1 b_2 a_3 l_4 l_5 l_6 l_7 l_8 l_9 l_10 l_11 l_12 l_13 l_14 l_15 N i_2014 0).bind fun y_4030 =>
          ref12_Things_L14 N i_2006 a_0 l_1 b_2 a_3 l_4 l_5 l_6 l_7 l_8 l_9 l_10 l_11 l_12 l_13 l_14 l_15 n y_4030 (IntKind.i64.wrap (i_2015 + 1))
        )
      ) else (
        if i_2015 = 2 then (
          (ref12_Things_L11 N i_2006 i_2015 x_2018 a_0 l_1 b_2 a_3 l_4 l_5 l_6 l_7 l_8 l_9 l_10 l_11 l_12 l_13 l_14 l_15 N i_2014 0).bind fun y_5034 =>
          ref12_Things_L14 N i_2006 a_0 l_1 b_2 a_3 l_4 l_5 l_6 l_7 l_8 l_9 l_10 l_11 l_12 l_13 l_14 l_15 n y_5034 (IntKind.i64.wrap (i_2015 + 1))
        ) else (
          (ref12_Things_L13 N i_2006 i_2015 x_2018 a_0 l_1 b_2 a_3 l_4 l_5 l_6 l_7 l_8 l_9 l_10 l_11 l_12 l_13 l_14 l_15 N i_2014 0).bind fun y_6036 =>
          ref12_Things_L14 N i_2006 a_0 l_1 b_2 a_3 l_4 l_5 l_6 l_7 l_8 l_9 l_10 l_11 l_12 l_13 l_14 l_15 n y_6036 (IntKind.i64.wrap (i_2015 + 1))
        )
      )
    ) else (
      some i_2014
    )
def ref12_Things_L15 (N : Nat) (a_0 : Int) (l_1 : List TSpan) (b_2 : Bool) (a_3 : Int) (l_4 : List (List Int)) (l_5 : List (List TLig)) (l_6 : List TCtx) (l_7 : List TValue) (l_8 : List (List TTwo)) (l_9 : List TClass) (l_10 : List TClass) (l_11 : List (List TTwo)) (l_12 : List TArr2_TAnchor) (l_13 : List TMark) (l_14 : List TSpan) (l_15 : List (List (List TAnchor))) : Nat → Int → Int → Option (Int)
  | 0, _, _ => none
  | n + 1, i_2005, i_2006 =>
    if i_2006 < (l_6.length : Int) then (
      (atI l_6 i_2006).bind fun x_2009 =>
      (ref12_Things_L14 N i_2006 a_0 l_1 b_2 a_3 l_4 l_5 l_6 l_7 l_8 l_9 l_10 l_11 l_12 l_13 l_14 l_15 N (IntKind.i64.wrap (i_2005 + (x_2009.Acts.length : Int))) 0).bind fun y_3015 =>
      ref12_Things_L15 N a_0 l_1 b_2 a_3 l_4 l_5 l_6 l_7 l_8 l_9 l_10 l_11 l_12 l_13 l_14 l_15 n y_3015 (IntKind.i64.wrap (i_2006 + 1))
    ) else (
      some i_2005
    )
def ref12_Things (N : Nat) (a_0 : Int) (l_1 : List TSpan) (b_2 : Bool) (a_3 : Int) (l_4 : List (List Int)) (l_5 : List (List TLig)) (l_6 : List TCtx) (l_7 : List TValue) (l_8 : List (List TTwo)) (l_9 : List TClass) (l_10 : List TClass) (l_11 : List (List TTwo)) (l_12 : List TArr2_TAnchor) (l_13 : List TMark) (l_14 : List TSpan) (l_15 : List (List (List TAnchor))) : Option (Int) :=
  (ref12_Things_L1 N a_0 l_1 b_2 a_3 l_4 l_5 l_6 l_7 l_8 l_9 l_10 l_11 l_12 l_13 l_14 l_15 N 1 0).bind fun y_1002 =>
  (ref12_Things_L4 N a_0 l_1 b_2 a_3 l_4 l_5 l_6 l_7 l_8 l_9 l_10 l_11 l_12 l_13 l_14 l_15 N y_1002 0).bind fun y_2004 =>
  (ref12_Things_L15 N a_0 l_1 b_2 a_3 l_4 l_5 l_6 l_7 l_8 l_9 l_10 l_11 l_12 l_13 l_14 l_15 N y_2004 0).bind fun y_3006 =>
  if 20001 < y_3006 then (
    some 20001
  ) else (
    some y_3006
  )
def ref13_Things_L1 (N : Nat) (a_0 : Int) (l_1 : List TSpan) (b_2 : Bool) (a_3 : Int) (l_4 : List (List Int)) (l_5 : List (List TLig)) (l_6 : List TCtx) (l_7 : List TValue) (l_8 : List (List TTwo)) (l_9 : List TClass) (l_10 : List TClass) (l_11 : List (List TTwo)) (l_12 : List TArr2_TAnchor) (l_13 : List TMark) (l_14 : List TSpan) (l_15 : List (List (List TAnchor))) : Nat → Int → Int → Option (Int)
  | 0, _, _ => none
  | n + 1, i_3, i_4 =>
    if i_4 < (l_8.length : Int) then (
      (atI l_8 i_4).bind fun x_7 =>
      ref13_Things_L1 N a_0 l_1 b_2 a_3 l_4 l_5 l_6 l_7 l_8 l_9 l_10 l_11 l_12 l_13 l_14 l_15 n (IntKind.i64.wrap ((IntKind.i64.wrap (i_3 + 1)) + (x_7.length : Int))) (IntKind.i64.wrap (i_4 + 1))
    ) else (
      some i_3
    )
def ref13_Things_L2 (N : Nat) (a_0 : Int) (l_1 : List TSpan) (b_2 : Bool) (a_3 : Int) (l_4 : List (List Int)) (l_5 : List (List TLig)) (l_6 : List TCtx) (l_7 : List TValue) (l_8 : List (List TTwo)) (l_9 : List TClass) (l_10 : List TClass) (l_11 : List (List TTwo)) (l_12 : List TArr2_TAnchor) (l_13 : List TMark) (l_14 : List TSpan) (l_15 : List (List (List TAnchor))) : Nat → Int → Int → Option (Int)
  | 0, _, _ => none
  | n + 1, i_1005, i_1006 =>
    if i_1006 < (l_11.length : Int) then (
      (atI l_11 i_1006).bind fun x_1009 =>
      ref13_Things_L2 N a_0 l_1 b_2 a_3 l_4 l_5 l_6 l_7 l_8 l_9 l_10 l_11 l_12 l_13 l_14 l_15 n (IntKind.i64.wrap ((IntKind.i64.wrap (i_1005 + 1)) + (x_1009.length : Int))) (IntKind.i64.wrap (i_1006 + 1))
    ) else (
      some i_1005
    )
def ref13_Things_L4 (N : Nat) (i_2008 : Int) (a_0 : Int) (l_1 : List TSpan) (b_2 : Bool) (a_3 : Int) (l_4 : List (List Int)) (l_5 : List (List TLig)) (l_6 : List TCtx) (l_7 : List TValue) (l_8 : List (List TTwo)) (l_9 : List TClass) (l_10 : List TClass) (l_11 : List (List TTwo)) (l_12 : List TArr2_TAnchor) (l_13 : List TMark) (l_14 : List TSpan) (l_15 : List (List (List TAnchor))) : Nat → Int → Int → Option (Int)
  | 0, _, _ => none
  | n + 1, i_2011, i_2012 =>
    (atI l_15 i_2008).bind fun x_2013 =>
    if i_2012 < (x_2013.length : Int) then (
      (atI x_2013 i_2012).bind fun x_2020 =>
      ref13_Things_L4 N i_2008 a_0 l_1 b_2 a_3 l_4 l_5 l_6 l_7 l_8 l_9 l_10 l_11 l_12 l_13 l_14 l_15 n (IntKind.i64.wrap ((IntKind.i64.wrap (i_2011 + 1)) + (x_2020.length : Int))) (IntKind.i64.wrap (i_2012 + 1))
    ) else (
      some i_2011
    )
def ref13_Things_L5 (N : Nat) (a_0 : Int) (l_1 : List TSpan) (b_2 : Bool) (a_3 : Int) (l_4 : List (List Int)) (l_5 : List (List TLig)) (l_6 : List TCtx) (l_7 : List TValue) (l_8 : List (List TTwo)) (l_9 : List TClass) (l_10 : List TClass) (l_11 : List (List TTwo)) (l_12 : List TArr2_TAnchor) (l_13 : List TMark) (l_14 : List TSpan) (l_15 : List (List (List TAnchor))) : Nat → Int → Int → Option (Int)
  | 0, _, _ => none
  | n + 1, i_2007, i_2008 =>
    if i_2008 < (l_15.length : Int) then (
      (ref13_Things_L4 N i_2008 a_0 l_1 b_2 a_3 l_4 l_5 l_6 l_7 l_8 l_9 l_10 l_11 l_12 l_13 l_14 l_15 N (IntKind.i64.wrap (i_2007 + 1)) 0).bind fun y_3012 =>
      ref13_Things_L5 N a_0 l_1 b_2 a_3 l_4 l_5 l_6 l_7 l_8 l_9 l_10 l_11 l_12 l_13 l_14 l_15 n y_3012 (IntKind.i64.wrap (i_2008 + 1))
    ) else (
      some i_2007
    )
def ref13_Things (N : Nat) (a_0 : Int) (l_1 : List TSpan) (b_2 : Bool) (a_3 : Int) (l_4 : List (List Int)) (l_5 : List (List TLig)) (l_6 : List TCtx) (l_7 : List TValue) (l_8 : List (List TTwo)) (l_9 : List TClass) (l_10 : List TClass) (l_11 : List (List TTwo)) (l_12 : List TArr2_TAnchor) (l_13 : List TMark) (l_14 : List TSpan) (l_15 : List (List (List TAnchor))) : Option (Int) :=
  (ref12_Things N 0 ([]) false 0 ([]) ([]) l_6 ([]) ([]) ([]) ([]) ([]) ([]) ([]) ([]) ([])).bind fun y_1 =>
  (ref13_Things_L1 N a_0 l_1 b_2 a_3 l_4 l_5 l_6 l_7 l_8 l_9 l_10 l_11 l_12 l_13 l_14 l_15 N (IntKind.i64.wrap ((IntKind.i64.wrap ((IntKind.i64.wrap ((IntKind.i64.wrap ((IntKind.i64.wrap ((IntKind.i64.wrap (y_1 + (l_7.length : Int))) + (l_12.length : Int))) + (l_13.length : Int))) + (l_14.length : Int))) + (l_9.length : Int))) + (l_10.length : Int))) 0).bind fun y_1004 =>
  (ref13_Things_L2 N a_0 l_1 b_2 a_3 l_4 l_5 l_6 l_7 l_8 l_9 l_10 l_11 l_12 l_13 l_14 l_15 N y_1004 0).bind fun y_2006 =>
  (ref13_Things_L5 N a_0 l_1 b_2 a_3 l_4 l_5 l_6 l_7 l_8 l_9 l_10 l_11 l_12 l_13 l_14 l_15 N y_2006 0).bind fun y_3008 =>
  if 20001 < y_3008 then (
    some 20001
  ) else (
    some y_3008
  )
def law13_GposThings (N : Nat) (a_0 : Int) (l_1 : List TSpan) (b_2 : Bool) (a_3 : Int) (l_4 : List (List Int)) (l_5 : List (List TLig)) (l_6 : List TCtx) (l_7 : List TValue) (l_8 : List (List TTwo)) (l_9 : List TClass) (l_10 : List TClass) (l_11 : List (List TTwo)) (l_12 : List TArr2_TAnchor) (l_13 : List TMark) (l_14 : List TSpan) (l_15 : List (List (List TAnchor))) : Option (Bool) :=
  if 60 < (l_6.length : Int) then (
    some true
  ) else (
    if 300 < (l_8.length : Int) then (
      some true
    ) else (
      if 300 < (l_11.length : Int) then (
        some true
      ) else (
        if 300 < (l_15.length : Int) then (
          some true
        ) else (
          (law13_GposThings_L1 N a_0 l_1 b_2 a_3 l_4 l_5 l_6 l_7 l_8 l_9 l_10 l_11 l_12 l_13 l_14 l_15 N 0).bind fun o_1010 => match o_1010 with
          | .inl _ => (
            (gpos_Things N a_0 l_1 b_2 a_3 l_4 l_5 l_6 l_7 l_8 l_9 l_10 l_11 l_12 l_13 l_14 l_15).bind fun y_1011 =>
            (ref13_Things N a_0 l_1 b_2 a_3 l_4 l_5 l_6 l_7 l_8 l_9 l_10 l_11 l_12 l_13 l_14 l_15).bind fun y_1013 =>
            some (decide (y_1011 = y_1013))
          )
          | .inr (_) => (
            some true
          )
        )
      )
    )
  )
end Go.Proofs.Ytfacmhngbaboiaa.AI
