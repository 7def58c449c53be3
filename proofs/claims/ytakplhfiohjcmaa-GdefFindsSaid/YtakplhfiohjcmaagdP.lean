/- What functions answer, plainly: printed by a program (pw.py) out of the translation. -/
import Derived.Test.YtakplhfiohjcmaaA20
set_option linter.unusedVariables false
set_option linter.unusedSimpArgs false
set_option maxRecDepth 100000
set_option maxHeartbeats 1000000
namespace Go.Proofs.Ytakplhfiohjcmaa.AI
structure TGroup where
  From : Int
  To : Int
  Glyph : Int
deriving Inhabited, DecidableEq
structure TClass where
  From : Int
  To : Int
  Class : Int
deriving Inhabited, DecidableEq
structure TSpan where
  From : Int
  To : Int
deriving Inhabited, DecidableEq
structure TDef where
  Class : List TClass
  Attach : List TClass
  Sets : List (List TSpan)
deriving Inhabited, DecidableEq
def ref10_RightClasses_L1 (N : Nat) (l_0 : List TClass) : Nat → Int → Option ((Unit) ⊕ (Unit))
  | 0, _ => none
  | n + 1, i_1 =>
    if i_1 < (l_0.length : Int) then (
      (atI l_0 i_1).bind fun x_4 =>
      if x_4.From < 0 then (
        some (.inr ())
      ) else (
        if 65535 < x_4.To then (
          some (.inr ())
        ) else (
          if x_4.To < x_4.From then (
            some (.inr ())
          ) else (
            if x_4.Class < 1 then (
              some (.inr ())
            ) else (
              if 65535 < x_4.Class then (
                some (.inr ())
              ) else (
                if 0 < i_1 then (
                  (atI l_0 (IntKind.i64.wrap (i_1 - 1))).bind fun x_21 =>
                  if x_4.From ≤ x_21.To then (
                    some (.inr ())
                  ) else (
                    if x_4.From = IntKind.i64.wrap (x_21.To + 1) then (
                      if x_4.Class = x_21.Class then (
                        some (.inr ())
                      ) else (
                        ref10_RightClasses_L1 N l_0 n (IntKind.i64.wrap (i_1 + 1))
                      )
                    ) else (
                      ref10_RightClasses_L1 N l_0 n (IntKind.i64.wrap (i_1 + 1))
                    )
                  )
                ) else (
                  ref10_RightClasses_L1 N l_0 n (IntKind.i64.wrap (i_1 + 1))
                )
              )
            )
          )
        )
      )
    ) else (
      some (.inl ())
    )
def ref10_RightClasses (N : Nat) (l_0 : List TClass) : Option (Bool) :=
  (ref10_RightClasses_L1 N l_0 N 0).bind fun o_1002 => match o_1002 with
  | .inl _ => (
    some (decide ((l_0.length : Int) ≤ 5000))
  )
  | .inr (_) => (
    some false
  )
def law15_GdefFinds_L1 (N : Nat) (l_0 : List TGroup) (a_4 : Int) (a_5 : Int) (a_6 : Int) (l_1 : List TClass) (l_2 : List TClass) (l_3 : List (List TSpan)) : Nat → Int → Option ((Unit) ⊕ (Unit))
  | 0, _ => none
  | n + 1, i_9 =>
    if i_9 < (l_0.length : Int) then (
      (atI l_0 i_9).bind fun x_12 =>
      if x_12.Glyph < 0 then (
        some (.inr ())
      ) else (
        if 70000 < x_12.Glyph then (
          some (.inr ())
        ) else (
          if x_12.To < x_12.From then (
            some (.inr ())
          ) else (
            if x_12.From < 0 then (
              some (.inr ())
            ) else (
              if 0 < i_9 then (
                (atI l_0 (IntKind.i64.wrap (i_9 - 1))).bind fun x_27 =>
                if x_12.From ≤ x_27.To then (
                  some (.inr ())
                ) else (
                  law15_GdefFinds_L1 N l_0 a_4 a_5 a_6 l_1 l_2 l_3 n (IntKind.i64.wrap (i_9 + 1))
                )
              ) else (
                law15_GdefFinds_L1 N l_0 a_4 a_5 a_6 l_1 l_2 l_3 n (IntKind.i64.wrap (i_9 + 1))
              )
            )
          )
        )
      )
    ) else (
      some (.inl ())
    )
def ref10_Right_L1 (N : Nat) (l_0 : List TSpan) : Nat → Int → Option ((Unit) ⊕ (Unit))
  | 0, _ => none
  | n + 1, i_1 =>
    if i_1 < (l_0.length : Int) then (
      (atI l_0 i_1).bind fun x_4 =>
      if x_4.From < 0 then (
        some (.inr ())
      ) else (
        if 65535 < x_4.To then (
          some (.inr ())
        ) else (
          if x_4.To < x_4.From then (
            some (.inr ())
          ) else (
            if 0 < i_1 then (
              (atI l_0 (IntKind.i64.wrap (i_1 - 1))).bind fun x_17 =>
              if IntKind.i64.wrap (x_4.From - 1) ≤ x_17.To then (
                some (.inr ())
              ) else (
                ref10_Right_L1 N l_0 n (IntKind.i64.wrap (i_1 + 1))
              )
            ) else (
              ref10_Right_L1 N l_0 n (IntKind.i64.wrap (i_1 + 1))
            )
          )
        )
      )
    ) else (
      some (.inl ())
    )
def ref10_Right (N : Nat) (l_0 : List TSpan) : Option (Bool) :=
  (ref10_Right_L1 N l_0 N 0).bind fun o_1002 => match o_1002 with
  | .inl _ => (
    some (decide ((l_0.length : Int) ≤ 5000))
  )
  | .inr (_) => (
    some false
  )
def law15_GdefFinds_L2 (N : Nat) (l_0 : List TGroup) (a_4 : Int) (a_5 : Int) (a_6 : Int) (l_1 : List TClass) (l_2 : List TClass) (l_3 : List (List TSpan)) : Nat → Int → Option ((Unit) ⊕ (Unit))
  | 0, _ => none
  | n + 1, i_1011 =>
    if i_1011 < (l_3.length : Int) then (
      (atI l_3 i_1011).bind fun x_1014 =>
      (ref10_Right N x_1014).bind fun y_1019 =>
      if y_1019 = true then (
        law15_GdefFinds_L2 N l_0 a_4 a_5 a_6 l_1 l_2 l_3 n (IntKind.i64.wrap (i_1011 + 1))
      ) else (
        some (.inr ())
      )
    ) else (
      some (.inl ())
    )
def gdef_Glyph_L1 (N : Nat) (a_1 : Int) (l_0 : List TGroup) : Nat → Int → Option ((Unit) ⊕ (Int))
  | 0, _ => none
  | n + 1, i_1 =>
    if i_1 < (l_0.length : Int) then (
      (atI l_0 i_1).bind fun x_4 =>
      if x_4.From ≤ a_1 then (
        if a_1 ≤ x_4.To then (
          some (.inr (IntKind.i64.wrap (x_4.Glyph + (IntKind.i64.wrap (IntKind.i32.wrap (a_1 - x_4.From))))))
        ) else (
          gdef_Glyph_L1 N a_1 l_0 n (IntKind.i64.wrap (i_1 + 1))
        )
      ) else (
        gdef_Glyph_L1 N a_1 l_0 n (IntKind.i64.wrap (i_1 + 1))
      )
    ) else (
      some (.inl ())
    )
def gdef_Glyph (N : Nat) (l_0 : List TGroup) (a_1 : Int) : Option (Int) :=
  (gdef_Glyph_L1 N a_1 l_0 N 0).bind fun o_1003 => match o_1003 with
  | .inl _ => (
    some 0
  )
  | .inr (y_1002) => (
    some y_1002
  )
def ref15_Glyph_L1 (N : Nat) (l_0 : List TGroup) (a_1 : Int) : Nat → Int → Option ((Unit) ⊕ (Int))
  | 0, _ => none
  | n + 1, i_1 =>
    if i_1 < (l_0.length : Int) then (
      (atI l_0 i_1).bind fun x_4 =>
      if x_4.From ≤ a_1 then (
        if a_1 ≤ x_4.To then (
          some (.inr (IntKind.i64.wrap ((IntKind.i64.wrap (x_4.Glyph + (IntKind.i64.wrap a_1))) - (IntKind.i64.wrap x_4.From))))
        ) else (
          ref15_Glyph_L1 N l_0 a_1 n (IntKind.i64.wrap (i_1 + 1))
        )
      ) else (
        ref15_Glyph_L1 N l_0 a_1 n (IntKind.i64.wrap (i_1 + 1))
      )
    ) else (
      some (.inl ())
    )
def ref15_Glyph (N : Nat) (l_0 : List TGroup) (a_1 : Int) : Option (Int) :=
  (ref15_Glyph_L1 N l_0 a_1 N 0).bind fun o_1003 => match o_1003 with
  | .inl _ => (
    some 0
  )
  | .inr (y_1002) => (
    some y_1002
  )
def cover_Of_L1 (N : Nat) (a_1 : Int) (l_0 : List TClass) : Nat → Int → Option ((Unit) ⊕ (Int))
  | 0, _ => none
  | n + 1, i_1 =>
    if i_1 < (l_0.length : Int) then (
      (atI l_0 i_1).bind fun x_4 =>
      if x_4.From ≤ a_1 then (
        if a_1 ≤ x_4.To then (
          some (.inr (x_4.Class))
        ) else (
          cover_Of_L1 N a_1 l_0 n (IntKind.i64.wrap (i_1 + 1))
        )
      ) else (
        cover_Of_L1 N a_1 l_0 n (IntKind.i64.wrap (i_1 + 1))
      )
    ) else (
      some (.inl ())
    )
def cover_Of (N : Nat) (l_0 : List TClass) (a_1 : Int) : Option (Int) :=
  (cover_Of_L1 N a_1 l_0 N 0).bind fun o_1003 => match o_1003 with
  | .inl _ => (
    some 0
  )
  | .inr (y_1002) => (
    some y_1002
  )
def gdef_Class (N : Nat) (l_0 : List TClass) (l_1 : List TClass) (l_2 : List (List TSpan)) (a_3 : Int) : Option (Int) :=
  (cover_Of N l_0 a_3).bind fun y_1 =>
  some y_1
def ref10_Of_L1 (N : Nat) (l_0 : List TClass) (a_1 : Int) : Nat → Int → Option ((Unit) ⊕ (Int))
  | 0, _ => none
  | n + 1, i_1 =>
    if i_1 < (l_0.length : Int) then (
      (atI l_0 i_1).bind fun x_4 =>
      if x_4.From ≤ a_1 then (
        if a_1 ≤ x_4.To then (
          some (.inr (x_4.Class))
        ) else (
          ref10_Of_L1 N l_0 a_1 n (IntKind.i64.wrap (i_1 + 1))
        )
      ) else (
        ref10_Of_L1 N l_0 a_1 n (IntKind.i64.wrap (i_1 + 1))
      )
    ) else (
      some (.inl ())
    )
def ref10_Of (N : Nat) (l_0 : List TClass) (a_1 : Int) : Option (Int) :=
  (ref10_Of_L1 N l_0 a_1 N 0).bind fun o_1003 => match o_1003 with
  | .inl _ => (
    some 0
  )
  | .inr (y_1002) => (
    some y_1002
  )
def cover_Index_L1 (N : Nat) (a_1 : Int) (l_0 : List TSpan) : Nat → Int → Int → Option ((Unit) ⊕ (Int))
  | 0, _, _ => none
  | n + 1, i_1, i_2 =>
    if i_2 < (l_0.length : Int) then (
      (atI l_0 i_2).bind fun x_5 =>
      if a_1 < x_5.From then (
        some (.inl ())
      ) else (
        if a_1 ≤ x_5.To then (
          some (.inr (IntKind.i64.wrap ((IntKind.i64.wrap (i_1 + a_1)) - x_5.From)))
        ) else (
          cover_Index_L1 N a_1 l_0 n (IntKind.i64.wrap (i_1 + (IntKind.i64.wrap ((IntKind.i64.wrap (x_5.To - x_5.From)) + 1)))) (IntKind.i64.wrap (i_2 + 1))
        )
      )
    ) else (
      some (.inl ())
    )
def cover_Index (N : Nat) (l_0 : List TSpan) (a_1 : Int) : Option (Int) :=
  (cover_Index_L1 N a_1 l_0 N 0 0).bind fun o_1003 => match o_1003 with
  | .inl _ => (
    some (-1)
  )
  | .inr (y_1002) => (
    some y_1002
  )
def gdef_Mark (N : Nat) (l_0 : List TClass) (l_1 : List TClass) (l_2 : List (List TSpan)) (a_3 : Int) (a_4 : Int) : Option (Bool) :=
  if 0 ≤ a_3 then (
    if a_3 < (l_2.length : Int) then (
      (atI l_2 a_3).bind fun x_5 =>
      (cover_Index N x_5 a_4).bind fun y_10 =>
      some (decide (0 ≤ y_10))
    ) else (
      some false
    )
  ) else (
    some false
  )
def ref10_Index_L1 (N : Nat) (l_0 : List TSpan) (a_1 : Int) : Nat → Int → Int → Int → Option (Int)
  | 0, _, _, _ => none
  | n + 1, i_1, i_2, i_3 =>
    if i_3 < (l_0.length : Int) then (
      (atI l_0 i_3).bind fun x_6 =>
      if x_6.From ≤ a_1 then (
        if a_1 ≤ x_6.To then (
          ref10_Index_L1 N l_0 a_1 n (IntKind.i64.wrap ((IntKind.i64.wrap ((IntKind.i64.wrap (i_1 + x_6.To)) - x_6.From)) + 1)) (IntKind.i64.wrap ((IntKind.i64.wrap (i_1 + a_1)) - x_6.From)) (IntKind.i64.wrap (i_3 + 1))
        ) else (
          ref10_Index_L1 N l_0 a_1 n (IntKind.i64.wrap ((IntKind.i64.wrap ((IntKind.i64.wrap (i_1 + x_6.To)) - x_6.From)) + 1)) i_2 (IntKind.i64.wrap (i_3 + 1))
        )
      ) else (
        ref10_Index_L1 N l_0 a_1 n (IntKind.i64.wrap ((IntKind.i64.wrap ((IntKind.i64.wrap (i_1 + x_6.To)) - x_6.From)) + 1)) i_2 (IntKind.i64.wrap (i_3 + 1))
      )
    ) else (
      some i_2
    )
def ref10_Index (N : Nat) (l_0 : List TSpan) (a_1 : Int) : Option (Int) :=
  (ref10_Index_L1 N l_0 a_1 N 0 (-1) 0).bind fun y_1002 =>
  some y_1002
def ref15_Mark (N : Nat) (l_0 : List TClass) (l_1 : List TClass) (l_2 : List (List TSpan)) (a_3 : Int) (a_4 : Int) : Option (Bool) :=
  if a_3 < 0 then (
    some false
  ) else (
    if (l_2.length : Int) ≤ a_3 then (
      some false
    ) else (
      (atI l_2 a_3).bind fun x_5 =>
      (ref10_Index N x_5 a_4).bind fun y_10 =>
      some (decide (0 ≤ y_10))
    )
  )
def law15_GdefFinds (N : Nat) (l_0 : List TGroup) (l_1 : List TClass) (l_2 : List TClass) (l_3 : List (List TSpan)) (a_4 : Int) (a_5 : Int) (a_6 : Int) : Option (Bool) :=
  if 100 < (l_0.length : Int) then (
    some true
  ) else (
    (ref10_RightClasses N l_1).bind fun y_3 =>
    if y_3 = true then (
      if 70 < (l_3.length : Int) then (
        some true
      ) else (
        (law15_GdefFinds_L1 N l_0 a_4 a_5 a_6 l_1 l_2 l_3 N 0).bind fun o_1010 => match o_1010 with
        | .inl _ => (
          (law15_GdefFinds_L2 N l_0 a_4 a_5 a_6 l_1 l_2 l_3 N 0).bind fun o_2012 => match o_2012 with
          | .inl _ => (
            (gdef_Glyph N l_0 a_4).bind fun y_2013 =>
            (ref15_Glyph N l_0 a_4).bind fun y_2015 =>
            if y_2013 = y_2015 then (
              (gdef_Class N l_1 l_2 l_3 a_6).bind fun y_2019 =>
              (ref10_Of N l_1 a_6).bind fun y_2021 =>
              if y_2019 = y_2021 then (
                (gdef_Mark N l_1 l_2 l_3 a_5 a_6).bind fun y_2025 =>
                (ref15_Mark N l_1 l_2 l_3 a_5 a_6).bind fun y_2027 =>
                some ((y_2025 == y_2027) != false)
              ) else (
                some false
              )
            ) else (
              some false
            )
          )
          | .inr (_) => (
            some true
          )
        )
        | .inr (_) => (
          some true
        )
      )
    ) else (
      some true
    )
  )
end Go.Proofs.Ytakplhfiohjcmaa.AI
