/- What functions answer, plainly: printed by a program (pw.py) out of the translation. -/
import Derived.Test.YtakplhfiohjcmaaA20
set_option linter.unusedVariables false
set_option linter.unusedSimpArgs false
set_option maxRecDepth 100000
set_option maxHeartbeats 1000000
namespace Go.Proofs.Ytakplhfiohjcmaa.AI
structure TClass where
  From : Int
  To : Int
  Class : Int
deriving Inhabited, DecidableEq
structure TArr3_I64 where
  e0 : Int
  e1 : Int
  e2 : Int
deriving Inhabited, DecidableEq
structure TSpan where
  From : Int
  To : Int
deriving Inhabited, DecidableEq
structure TGroup where
  From : Int
  To : Int
  Glyph : Int
deriving Inhabited, DecidableEq
def octet_Within (N : Nat) (l_0 : List Int) (a_1 : Int) (a_2 : Int) : Option (Bool) :=
  if 0 ≤ a_1 then (
    if 0 ≤ a_2 then (
      if a_2 ≤ (l_0.length : Int) then (
        some (decide (a_1 ≤ IntKind.i64.wrap ((l_0.length : Int) - a_2)))
      ) else (
        some false
      )
    ) else (
      some false
    )
  ) else (
    some false
  )
def octet_number_L1 (N : Nat) (l_0 : List Int) : Nat → Int → Int → Option (Int)
  | 0, _, _ => none
  | n + 1, i_1, i_2 =>
    if i_2 < (l_0.length : Int) then (
      (atI l_0 i_2).bind fun x_5 =>
      octet_number_L1 N l_0 n (orInt .i64 (IntKind.i64.wrap (i_1 * 2 ^ 8)) (IntKind.i64.wrap x_5)) (IntKind.i64.wrap (i_2 + 1))
    ) else (
      some i_1
    )
def octet_number (N : Nat) (l_0 : List Int) : Option (Int) :=
  (octet_number_L1 N l_0 N 0 0).bind fun y_1002 =>
  some y_1002
def octet_read (N : Nat) (l_0 : List Int) (a_1 : Int) (a_2 : Int) : Option (Int × Bool) :=
  (octet_Within N l_0 a_1 a_2).bind fun y_1 =>
  if y_1 = true then (
    if 0 ≤ a_1 then (
      if a_1 ≤ IntKind.i64.wrap (a_1 + a_2) then (
        if IntKind.i64.wrap (a_1 + a_2) ≤ (l_0.length : Int) then (
          (octet_number N (slI l_0 a_1 (IntKind.i64.wrap (a_1 + a_2)))).bind fun y_13 =>
          some (y_13, true)
        ) else none
      ) else none
    ) else none
  ) else (
    some (0, false)
  )
def octet_U32 (N : Nat) (l_0 : List Int) (a_1 : Int) : Option (Int × Bool) :=
  (octet_read N l_0 a_1 4).bind fun (y_1, y_2) =>
  some (y_1, y_2)
def octet_U16 (N : Nat) (l_0 : List Int) (a_1 : Int) : Option (Int × Bool) :=
  (octet_read N l_0 a_1 2).bind fun (y_1, y_2) =>
  some (y_1, y_2)
def cover_format (N : Nat) (l_0 : List Int) (a_1 : Int) : Option (Int) :=
  (octet_U16 N l_0 a_1).bind fun (y_1, y_2) =>
  if y_2 = true then (
    some y_1
  ) else (
    some 0
  )
def octet_Row_1 (N : Nat) (a_0 : Int) (l_1 : List Int) (a_2 : Int) (a_3 : Int) : Option (Int) :=
  if 0 ≤ IntKind.i64.wrap (a_2 + (IntKind.i64.wrap (a_0 * a_3))) then (
    if IntKind.i64.wrap (a_2 + (IntKind.i64.wrap (a_0 * a_3))) ≤ IntKind.i64.wrap (a_2 + (IntKind.i64.wrap ((IntKind.i64.wrap (a_0 + 1)) * a_3))) then (
      if IntKind.i64.wrap (a_2 + (IntKind.i64.wrap ((IntKind.i64.wrap (a_0 + 1)) * a_3))) ≤ (l_1.length : Int) then (
        (octet_number N (slI l_1 (IntKind.i64.wrap (a_2 + (IntKind.i64.wrap (a_0 * a_3)))) (IntKind.i64.wrap (a_2 + (IntKind.i64.wrap ((IntKind.i64.wrap (a_0 + 1)) * a_3)))))).bind fun y_9 =>
        some y_9
      ) else none
    ) else none
  ) else none
def octet_many_int_L1 (N : Nat) (a_0 : Int) (l_1 : List Int) (a_2 : Int) (a_3 : Int) : Nat → Int → (List Int) → Option ((List Int))
  | 0, _, _ => none
  | n + 1, i_1, s_2 =>
    if i_1 < a_0 then (
      (octet_Row_1 N i_1 l_1 a_2 a_3).bind fun y_5 =>
      if (s_2.length + 1) * 8 ≤ 140737488355328 then (
        octet_many_int_L1 N a_0 l_1 a_2 a_3 n (IntKind.i64.wrap (i_1 + 1)) (s_2 ++ [y_5])
      ) else none
    ) else (
      some s_2
    )
def octet_many_int (N : Nat) (a_0 : Int) (l_1 : List Int) (a_2 : Int) (a_3 : Int) : Option ((List Int)) :=
  (octet_many_int_L1 N a_0 l_1 a_2 a_3 N 0 ([])).bind fun y_1002 =>
  some y_1002
def octet_Row (N : Nat) (l_0 : List Int) (a_1 : Int) (a_2 : Int) (a_3 : Int) : Option ((List Int) × Bool) :=
  if a_3 = 1 then (
    if a_2 < 0 then (
      some ([], false)
    ) else (
      if (l_0.length : Int) < a_2 then (
        some ([], false)
      ) else (
        (octet_Within N l_0 a_1 (IntKind.i64.wrap (a_2 * a_3))).bind fun y_7 =>
        if y_7 = true then (
          (octet_many_int N a_2 l_0 a_1 a_3).bind fun y_11 =>
          some (y_11, true)
        ) else (
          some ([], false)
        )
      )
    )
  ) else (
    if a_3 = 2 then (
      if a_2 < 0 then (
        some ([], false)
      ) else (
        if (l_0.length : Int) < a_2 then (
          some ([], false)
        ) else (
          (octet_Within N l_0 a_1 (IntKind.i64.wrap (a_2 * a_3))).bind fun y_19 =>
          if y_19 = true then (
            (octet_many_int N a_2 l_0 a_1 a_3).bind fun y_23 =>
            some (y_23, true)
          ) else (
            some ([], false)
          )
        )
      )
    ) else (
      if a_3 = 4 then (
        if a_2 < 0 then (
          some ([], false)
        ) else (
          if (l_0.length : Int) < a_2 then (
            some ([], false)
          ) else (
            (octet_Within N l_0 a_1 (IntKind.i64.wrap (a_2 * a_3))).bind fun y_31 =>
            if y_31 = true then (
              (octet_many_int N a_2 l_0 a_1 a_3).bind fun y_35 =>
              some (y_35, true)
            ) else (
              some ([], false)
            )
          )
        )
      ) else (
        some ([], false)
      )
    )
  )
def cover_classed_row (N : Nat) (l_0 : List TClass) (a_1 : Int) (a_2 : Int) (a_3 : Int) : Option ((List TClass)) :=
  if a_3 = 0 then (
    some l_0
  ) else (
    if 0 < (l_0.length : Int) then (
      (atI l_0 (IntKind.i64.wrap ((l_0.length : Int) - 1))).bind fun x_5 =>
      if IntKind.i64.wrap (x_5.To + 1) = a_1 then (
        if x_5.Class = a_3 then (
          some (List.set l_0 (IntKind.i64.wrap ((l_0.length : Int) - 1)).toNat (TClass.mk x_5.From a_2 x_5.Class))
        ) else (
          if (l_0.length + 1) * 24 ≤ 140737488355328 then (
            some (l_0 ++ [TClass.mk a_1 a_2 a_3])
          ) else none
        )
      ) else (
        if (l_0.length + 1) * 24 ≤ 140737488355328 then (
          some (l_0 ++ [TClass.mk a_1 a_2 a_3])
        ) else none
      )
    ) else (
      if (l_0.length + 1) * 24 ≤ 140737488355328 then (
        some (l_0 ++ [TClass.mk a_1 a_2 a_3])
      ) else none
    )
  )
def cover_Classes_L1 (N : Nat) (y_5 : Int) (y_11 : List Int) : Nat → Int → (List TClass) → Option ((List TClass))
  | 0, _, _ => none
  | n + 1, i_20, s_21 =>
    if i_20 < (y_11.length : Int) then (
      (atI y_11 i_20).bind fun x_24 =>
      (cover_classed_row N s_21 (IntKind.i64.wrap (y_5 + i_20)) (IntKind.i64.wrap (y_5 + i_20)) x_24).bind fun y_29 =>
      cover_Classes_L1 N y_5 y_11 n (IntKind.i64.wrap (i_20 + 1)) y_29
    ) else (
      some s_21
    )
def cover_triples_L1 (N : Nat) (y_4 : List Int) : Nat → Int → Int → (List TArr3_I64) → Option (((List TArr3_I64)) ⊕ (Unit))
  | 0, _, _, _ => none
  | n + 1, i_11, i_12, s_13 =>
    if i_12 < (y_4.length : Int) then (
      (atI y_4 i_12).bind fun x_16 =>
      (atI y_4 (IntKind.i64.wrap (i_12 + 1))).bind fun x_21 =>
      (atI y_4 (IntKind.i64.wrap (i_12 + 2))).bind fun x_26 =>
      if x_16 ≤ i_11 then (
        some (.inr ())
      ) else (
        if x_21 < x_16 then (
          some (.inr ())
        ) else (
          if (s_13.length + 1) * 24 ≤ 140737488355328 then (
            cover_triples_L1 N y_4 n x_21 (IntKind.i64.wrap (i_12 + 3)) (s_13 ++ [TArr3_I64.mk x_16 x_21 x_26])
          ) else none
        )
      )
    ) else (
      some (.inl s_13)
    )
def cover_triples (N : Nat) (l_0 : List Int) (a_1 : Int) : Option ((List TArr3_I64) × Bool) :=
  (octet_U16 N l_0 (IntKind.i64.wrap (a_1 + 2))).bind fun (y_1, y_2) =>
  (octet_Row N l_0 (IntKind.i64.wrap (a_1 + 4)) (IntKind.i64.wrap (3 * y_1)) 2).bind fun (y_4, y_5) =>
  if y_2 = true then (
    if y_5 = true then (
      (cover_triples_L1 N y_4 N (-1) 0 ([])).bind fun o_1013 => match o_1013 with
      | .inl y_1012 => (
        some (y_1012, true)
      )
      | .inr (_) => (
        some ([], false)
      )
    ) else (
      some ([], false)
    )
  ) else (
    some ([], false)
  )
def cover_Classes_L2 (N : Nat) (y_1025 : Bool) (y_1024 : List TArr3_I64) : Nat → Int → (List TClass) → Option ((List TClass))
  | 0, _, _ => none
  | n + 1, i_1027, s_1028 =>
    if i_1027 < (y_1024.length : Int) then (
      (atI y_1024 i_1027).bind fun x_1031 =>
      (cover_classed_row N s_1028 x_1031.e0 x_1031.e1 x_1031.e2).bind fun y_1036 =>
      cover_Classes_L2 N y_1025 y_1024 n (IntKind.i64.wrap (i_1027 + 1)) y_1036
    ) else (
      some s_1028
    )
def cover_Classes (N : Nat) (l_0 : List Int) (a_1 : Int) : Option ((List TClass) × Bool) :=
  (cover_format N l_0 a_1).bind fun y_1 =>
  if y_1 = 1 then (
    (octet_U16 N l_0 (IntKind.i64.wrap (a_1 + 2))).bind fun (y_5, y_6) =>
    (octet_U16 N l_0 (IntKind.i64.wrap (a_1 + 4))).bind fun (y_8, y_9) =>
    (octet_Row N l_0 (IntKind.i64.wrap ((IntKind.i64.wrap (a_1 + 4)) + 2)) y_8 2).bind fun (y_11, y_12) =>
    if y_9 = true then (
      if y_12 = true then (
        if 65536 < IntKind.i64.wrap (y_5 + y_8) then (
          some ([], false)
        ) else (
          (cover_Classes_L1 N y_5 y_11 N 0 ([])).bind fun y_1021 =>
          some (y_1021, true)
        )
      ) else (
        some ([], false)
      )
    ) else (
      some ([], false)
    )
  ) else (
    if y_1 = 2 then (
      (cover_triples N l_0 a_1).bind fun (y_1024, y_1025) =>
      (cover_Classes_L2 N y_1025 y_1024 N 0 ([])).bind fun y_2028 =>
      some (y_2028, y_1025)
    ) else (
      some ([], false)
    )
  )
def gdef_classes (N : Nat) (l_0 : List Int) (a_1 : Int) (a_2 : Int) : Option ((List TClass) × Bool) :=
  (octet_U16 N l_0 a_2).bind fun (y_1, y_2) =>
  if y_2 = true then (
    if y_1 = 0 then (
      some ([], y_2)
    ) else (
      (cover_Classes N l_0 (IntKind.i64.wrap (a_1 + y_1))).bind fun (y_8, y_9) =>
      some (y_8, y_9)
    )
  ) else (
    some ([], y_2)
  )
def cover_joined_row (N : Nat) (l_0 : List TSpan) (a_1 : Int) (a_2 : Int) : Option ((List TSpan)) :=
  if 0 < (l_0.length : Int) then (
    (atI l_0 (IntKind.i64.wrap ((l_0.length : Int) - 1))).bind fun x_3 =>
    if IntKind.i64.wrap (x_3.To + 1) = a_1 then (
      some (List.set l_0 (IntKind.i64.wrap ((l_0.length : Int) - 1)).toNat (TSpan.mk x_3.From a_2))
    ) else (
      if (l_0.length + 1) * 16 ≤ 140737488355328 then (
        some (l_0 ++ [TSpan.mk a_1 a_2])
      ) else none
    )
  ) else (
    if (l_0.length + 1) * 16 ≤ 140737488355328 then (
      some (l_0 ++ [TSpan.mk a_1 a_2])
    ) else none
  )
def cover_glyphs_L1 (N : Nat) (y_4 : List Int) : Nat → Int → Int → (List TSpan) → Option (((List TSpan)) ⊕ (Unit))
  | 0, _, _, _ => none
  | n + 1, i_11, i_12, s_13 =>
    if i_12 < (y_4.length : Int) then (
      (atI y_4 i_12).bind fun x_16 =>
      if x_16 ≤ i_11 then (
        some (.inr ())
      ) else (
        (cover_joined_row N s_13 x_16 x_16).bind fun y_23 =>
        cover_glyphs_L1 N y_4 n x_16 (IntKind.i64.wrap (i_12 + 1)) y_23
      )
    ) else (
      some (.inl s_13)
    )
def cover_glyphs (N : Nat) (l_0 : List Int) (a_1 : Int) : Option ((List TSpan) × Bool) :=
  (octet_U16 N l_0 (IntKind.i64.wrap (a_1 + 2))).bind fun (y_1, y_2) =>
  (octet_Row N l_0 (IntKind.i64.wrap (a_1 + 4)) y_1 2).bind fun (y_4, y_5) =>
  if y_2 = true then (
    if y_5 = true then (
      (cover_glyphs_L1 N y_4 N (-1) 0 ([])).bind fun o_1013 => match o_1013 with
      | .inl y_1012 => (
        some (y_1012, true)
      )
      | .inr (_) => (
        some ([], false)
      )
    ) else (
      some ([], false)
    )
  ) else (
    some ([], false)
  )
def cover_ranges_L1 (N : Nat) (y_1 : List TArr3_I64) : Nat → Int → Int → (List TSpan) → Option (((List TSpan)) ⊕ (Unit))
  | 0, _, _, _ => none
  | n + 1, i_6, i_7, s_8 =>
    if i_7 < (y_1.length : Int) then (
      (atI y_1 i_7).bind fun x_11 =>
      if x_11.e2 = i_6 then (
        (cover_joined_row N s_8 x_11.e0 x_11.e1).bind fun y_18 =>
        cover_ranges_L1 N y_1 n (IntKind.i64.wrap (i_6 + (IntKind.i64.wrap ((IntKind.i64.wrap (x_11.e1 - x_11.e0)) + 1)))) (IntKind.i64.wrap (i_7 + 1)) y_18
      ) else (
        some (.inr ())
      )
    ) else (
      some (.inl s_8)
    )
def cover_ranges (N : Nat) (l_0 : List Int) (a_1 : Int) : Option ((List TSpan) × Bool) :=
  (cover_triples N l_0 a_1).bind fun (y_1, y_2) =>
  if y_2 = true then (
    (cover_ranges_L1 N y_1 N 0 0 ([])).bind fun o_1008 => match o_1008 with
    | .inl y_1007 => (
      some (y_1007, true)
    )
    | .inr (_) => (
      some ([], false)
    )
  ) else (
    some ([], false)
  )
def cover_Cover (N : Nat) (l_0 : List Int) (a_1 : Int) : Option ((List TSpan) × Bool) :=
  (cover_format N l_0 a_1).bind fun y_1 =>
  if y_1 = 1 then (
    (cover_glyphs N l_0 a_1).bind fun (y_5, y_6) =>
    some (y_5, y_6)
  ) else (
    if y_1 = 2 then (
      (cover_ranges N l_0 a_1).bind fun (y_10, y_11) =>
      some (y_10, y_11)
    ) else (
      some ([], false)
    )
  )
def gdef_sets_L1 (N : Nat) (l_0 : List Int) (a_1 : Int) (y_1 : Int) (y_14 : List Int) : Nat → Int → (List (List TSpan)) → Option (((List (List TSpan))) ⊕ (Unit))
  | 0, _, _ => none
  | n + 1, i_23, s_24 =>
    if i_23 < (y_14.length : Int) then (
      (atI y_14 i_23).bind fun x_27 =>
      if (l_0.length : Int) < x_27 then (
        some (.inr ())
      ) else (
        (cover_Cover N l_0 (IntKind.i64.wrap ((IntKind.i64.wrap (a_1 + y_1)) + x_27))).bind fun (y_34, y_35) =>
        if y_35 = true then (
          if (s_24.length + 1) * 24 ≤ 140737488355328 then (
            gdef_sets_L1 N l_0 a_1 y_1 y_14 n (IntKind.i64.wrap (i_23 + 1)) (s_24 ++ [y_34])
          ) else none
        ) else (
          some (.inr ())
        )
      )
    ) else (
      some (.inl s_24)
    )
def gdef_sets (N : Nat) (l_0 : List Int) (a_1 : Int) (a_2 : Int) : Option ((List (List TSpan)) × Bool) :=
  (octet_U16 N l_0 a_2).bind fun (y_1, y_2) =>
  if y_2 = true then (
    if y_1 = 0 then (
      some ([], y_2)
    ) else (
      (octet_U16 N l_0 (IntKind.i64.wrap (a_1 + y_1))).bind fun (y_8, y_9) =>
      (octet_U16 N l_0 (IntKind.i64.wrap ((IntKind.i64.wrap (a_1 + y_1)) + 2))).bind fun (y_11, y_12) =>
      (octet_Row N l_0 (IntKind.i64.wrap ((IntKind.i64.wrap (a_1 + y_1)) + 4)) y_11 4).bind fun (y_14, y_15) =>
      if y_8 = 1 then (
        if 64 < y_11 then (
          some ([], false)
        ) else (
          if y_15 = true then (
            (gdef_sets_L1 N l_0 a_1 y_1 y_14 N 0 ([])).bind fun o_1025 => match o_1025 with
            | .inl y_1024 => (
              some (y_1024, true)
            )
            | .inr (_) => (
              some ([], false)
            )
          ) else (
            some ([], false)
          )
        )
      ) else (
        some ([], false)
      )
    )
  ) else (
    some ([], y_2)
  )
def gdef_Read (N : Nat) (l_0 : List Int) (a_1 : Int) : Option ((List TClass) × (List TClass) × (List (List TSpan)) × Bool) :=
  (octet_U32 N l_0 a_1).bind fun (y_1, y_2) =>
  if y_2 = true then (
    if y_1 = 65536 then (
      (octet_Within N l_0 a_1 12).bind fun y_8 =>
      if y_8 = true then (
        (gdef_classes N l_0 a_1 (IntKind.i64.wrap (a_1 + 4))).bind fun (y_12, y_13) =>
        (gdef_classes N l_0 a_1 (IntKind.i64.wrap ((IntKind.i64.wrap (a_1 + 4)) + 6))).bind fun (y_15, y_16) =>
        if y_1 = 65538 then (
          (gdef_sets N l_0 a_1 (IntKind.i64.wrap ((IntKind.i64.wrap (a_1 + 4)) + 8))).bind fun (y_20, y_21) =>
          if y_13 = true then (
            if y_16 = true then (
              if y_21 = true then (
                some (y_12, y_15, y_20, true)
              ) else (
                some ([], [], [], false)
              )
            ) else (
              some ([], [], [], false)
            )
          ) else (
            some ([], [], [], false)
          )
        ) else (
          if y_13 = true then (
            if y_16 = true then (
              some (y_12, y_15, [], true)
            ) else (
              some ([], [], [], false)
            )
          ) else (
            some ([], [], [], false)
          )
        )
      ) else (
        some ([], [], [], false)
      )
    ) else (
      if y_1 = 65538 then (
        (octet_Within N l_0 a_1 12).bind fun y_35 =>
        if y_35 = true then (
          (gdef_classes N l_0 a_1 (IntKind.i64.wrap (a_1 + 4))).bind fun (y_39, y_40) =>
          (gdef_classes N l_0 a_1 (IntKind.i64.wrap ((IntKind.i64.wrap (a_1 + 4)) + 6))).bind fun (y_42, y_43) =>
          (gdef_sets N l_0 a_1 (IntKind.i64.wrap ((IntKind.i64.wrap (a_1 + 4)) + 8))).bind fun (y_45, y_46) =>
          if y_40 = true then (
            if y_43 = true then (
              if y_46 = true then (
                some (y_39, y_42, y_45, true)
              ) else (
                some ([], [], [], false)
              )
            ) else (
              some ([], [], [], false)
            )
          ) else (
            some ([], [], [], false)
          )
        ) else (
          some ([], [], [], false)
        )
      ) else (
        some ([], [], [], false)
      )
    )
  ) else (
    some ([], [], [], false)
  )
def ref10_SameClasses_L1 (N : Nat) (l_0 : List TClass) (l_1 : List TClass) : Nat → Int → Option ((Unit) ⊕ (Unit))
  | 0, _ => none
  | n + 1, i_3 =>
    if i_3 < (l_0.length : Int) then (
      (atI l_0 i_3).bind fun x_6 =>
      (atI l_1 i_3).bind fun x_11 =>
      if x_6.From = x_11.From then (
        if x_6.To = x_11.To then (
          if x_6.Class = x_11.Class then (
            ref10_SameClasses_L1 N l_0 l_1 n (IntKind.i64.wrap (i_3 + 1))
          ) else (
            some (.inr ())
          )
        ) else (
          some (.inr ())
        )
      ) else (
        some (.inr ())
      )
    ) else (
      some (.inl ())
    )
def ref10_SameClasses (N : Nat) (l_0 : List TClass) (l_1 : List TClass) : Option (Bool) :=
  if (l_0.length : Int) = (l_1.length : Int) then (
    (ref10_SameClasses_L1 N l_0 l_1 N 0).bind fun o_1004 => match o_1004 with
    | .inl _ => (
      some true
    )
    | .inr (_) => (
      some false
    )
  ) else (
    some false
  )
def ref10_Same_L1 (N : Nat) (l_0 : List TSpan) (l_1 : List TSpan) : Nat → Int → Option ((Unit) ⊕ (Unit))
  | 0, _ => none
  | n + 1, i_3 =>
    if i_3 < (l_0.length : Int) then (
      (atI l_0 i_3).bind fun x_6 =>
      (atI l_1 i_3).bind fun x_11 =>
      if x_6.From = x_11.From then (
        if x_6.To = x_11.To then (
          ref10_Same_L1 N l_0 l_1 n (IntKind.i64.wrap (i_3 + 1))
        ) else (
          some (.inr ())
        )
      ) else (
        some (.inr ())
      )
    ) else (
      some (.inl ())
    )
def ref10_Same (N : Nat) (l_0 : List TSpan) (l_1 : List TSpan) : Option (Bool) :=
  if (l_0.length : Int) = (l_1.length : Int) then (
    (ref10_Same_L1 N l_0 l_1 N 0).bind fun o_1004 => match o_1004 with
    | .inl _ => (
      some true
    )
    | .inr (_) => (
      some false
    )
  ) else (
    some false
  )
def ref15_Same_L1 (N : Nat) (l_0 : List TClass) (l_1 : List TClass) (l_2 : List (List TSpan)) (l_3 : List TClass) (l_4 : List TClass) (l_5 : List (List TSpan)) : Nat → Int → Option ((Unit) ⊕ (Unit))
  | 0, _ => none
  | n + 1, i_11 =>
    if i_11 < (l_2.length : Int) then (
      (atI l_2 i_11).bind fun x_14 =>
      (atI l_5 i_11).bind fun x_19 =>
      (ref10_Same N x_14 x_19).bind fun y_24 =>
      if y_24 = true then (
        ref15_Same_L1 N l_0 l_1 l_2 l_3 l_4 l_5 n (IntKind.i64.wrap (i_11 + 1))
      ) else (
        some (.inr ())
      )
    ) else (
      some (.inl ())
    )
def ref15_Same (N : Nat) (l_0 : List TClass) (l_1 : List TClass) (l_2 : List (List TSpan)) (l_3 : List TClass) (l_4 : List TClass) (l_5 : List (List TSpan)) : Option (Bool) :=
  (ref10_SameClasses N l_0 l_3).bind fun y_1 =>
  if y_1 = true then (
    (ref10_SameClasses N l_1 l_4).bind fun y_5 =>
    if y_5 = true then (
      if (l_2.length : Int) = (l_5.length : Int) then (
        (ref15_Same_L1 N l_0 l_1 l_2 l_3 l_4 l_5 N 0).bind fun o_1012 => match o_1012 with
        | .inl _ => (
          some true
        )
        | .inr (_) => (
          some false
        )
      ) else (
        some false
      )
    ) else (
      some false
    )
  ) else (
    some false
  )
def gdef_Codes_L1 (N : Nat) (l_0 : List Int) (a_1 : Int) (a_2 : Int) (y_8 : Int) : Nat → Int → Int → Int → Option ((Int × Int) ⊕ (Unit))
  | 0, _, _, _ => none
  | n + 1, i_17, i_18, i_19 =>
    if i_17 < y_8 then (
      (octet_U32 N l_0 (IntKind.i64.wrap ((IntKind.i64.wrap ((IntKind.i64.wrap (a_1 + 4)) + (IntKind.i64.wrap (8 * i_17)))) + 4))).bind fun (y_22, y_23) =>
      if y_23 = true then (
        if (l_0.length : Int) < y_22 then (
          some (.inr ())
        ) else (
          (octet_U16 N l_0 (IntKind.i64.wrap (a_1 + y_22))).bind fun (y_29, y_30) =>
          if y_30 = true then (
            if y_29 = 12 then (
              if i_18 < 0 then (
                gdef_Codes_L1 N l_0 a_1 a_2 y_8 n (IntKind.i64.wrap (i_17 + 1)) (IntKind.i64.wrap (a_1 + y_22)) i_19
              ) else (
                gdef_Codes_L1 N l_0 a_1 a_2 y_8 n (IntKind.i64.wrap (i_17 + 1)) i_18 i_19
              )
            ) else (
              if y_29 = 4 then (
                if i_19 < 0 then (
                  gdef_Codes_L1 N l_0 a_1 a_2 y_8 n (IntKind.i64.wrap (i_17 + 1)) i_18 (IntKind.i64.wrap (a_1 + y_22))
                ) else (
                  gdef_Codes_L1 N l_0 a_1 a_2 y_8 n (IntKind.i64.wrap (i_17 + 1)) i_18 i_19
                )
              ) else (
                gdef_Codes_L1 N l_0 a_1 a_2 y_8 n (IntKind.i64.wrap (i_17 + 1)) i_18 i_19
              )
            )
          ) else (
            some (.inr ())
          )
        )
      ) else (
        some (.inr ())
      )
    ) else (
      some (.inl (i_18, i_19))
    )
def gdef_list_add_row (N : Nat) (l_0 : List TGroup) (a_1 : Int) (a_2 : Int) (a_3 : Int) (a_4 : Int) : Option ((List TGroup)) :=
  if a_4 = 0 then (
    if min a_3 (IntKind.i64.wrap ((IntKind.i64.wrap ((IntKind.i64.wrap ((IntKind.i64.wrap (a_2 + 1)) + a_1)) - 1)) - 1)) < IntKind.i64.wrap (a_2 + 1) then (
      some l_0
    ) else (
      if 0 < (l_0.length : Int) then (
        (atI l_0 (IntKind.i64.wrap ((l_0.length : Int) - 1))).bind fun x_7 =>
        if IntKind.i32.wrap (x_7.To + 1) = IntKind.i32.wrap (IntKind.i64.wrap (a_2 + 1)) then (
          if IntKind.i64.wrap ((IntKind.i64.wrap (x_7.Glyph + (IntKind.i64.wrap (IntKind.i32.wrap (x_7.To - x_7.From))))) + 1) = 1 then (
            some (List.set l_0 (IntKind.i64.wrap ((l_0.length : Int) - 1)).toNat (TGroup.mk x_7.From (IntKind.i32.wrap (min a_3 (IntKind.i64.wrap ((IntKind.i64.wrap ((IntKind.i64.wrap ((IntKind.i64.wrap (a_2 + 1)) + a_1)) - 1)) - 1)))) x_7.Glyph))
          ) else (
            if (l_0.length + 1) * 16 ≤ 140737488355328 then (
              some (l_0 ++ [TGroup.mk (IntKind.i32.wrap (IntKind.i64.wrap (a_2 + 1))) (IntKind.i32.wrap (min a_3 (IntKind.i64.wrap ((IntKind.i64.wrap ((IntKind.i64.wrap ((IntKind.i64.wrap (a_2 + 1)) + a_1)) - 1)) - 1)))) 1])
            ) else none
          )
        ) else (
          if (l_0.length + 1) * 16 ≤ 140737488355328 then (
            some (l_0 ++ [TGroup.mk (IntKind.i32.wrap (IntKind.i64.wrap (a_2 + 1))) (IntKind.i32.wrap (min a_3 (IntKind.i64.wrap ((IntKind.i64.wrap ((IntKind.i64.wrap ((IntKind.i64.wrap (a_2 + 1)) + a_1)) - 1)) - 1)))) 1])
          ) else none
        )
      ) else (
        if (l_0.length + 1) * 16 ≤ 140737488355328 then (
          some (l_0 ++ [TGroup.mk (IntKind.i32.wrap (IntKind.i64.wrap (a_2 + 1))) (IntKind.i32.wrap (min a_3 (IntKind.i64.wrap ((IntKind.i64.wrap ((IntKind.i64.wrap ((IntKind.i64.wrap (a_2 + 1)) + a_1)) - 1)) - 1)))) 1])
        ) else none
      )
    )
  ) else (
    if min a_3 (IntKind.i64.wrap ((IntKind.i64.wrap ((IntKind.i64.wrap (a_2 + a_1)) - 1)) - a_4)) < a_2 then (
      some l_0
    ) else (
      if 0 < (l_0.length : Int) then (
        (atI l_0 (IntKind.i64.wrap ((l_0.length : Int) - 1))).bind fun x_33 =>
        if IntKind.i32.wrap (x_33.To + 1) = IntKind.i32.wrap a_2 then (
          if IntKind.i64.wrap ((IntKind.i64.wrap (x_33.Glyph + (IntKind.i64.wrap (IntKind.i32.wrap (x_33.To - x_33.From))))) + 1) = a_4 then (
            some (List.set l_0 (IntKind.i64.wrap ((l_0.length : Int) - 1)).toNat (TGroup.mk x_33.From (IntKind.i32.wrap (min a_3 (IntKind.i64.wrap ((IntKind.i64.wrap ((IntKind.i64.wrap (a_2 + a_1)) - 1)) - a_4)))) x_33.Glyph))
          ) else (
            if (l_0.length + 1) * 16 ≤ 140737488355328 then (
              some (l_0 ++ [TGroup.mk (IntKind.i32.wrap a_2) (IntKind.i32.wrap (min a_3 (IntKind.i64.wrap ((IntKind.i64.wrap ((IntKind.i64.wrap (a_2 + a_1)) - 1)) - a_4)))) a_4])
            ) else none
          )
        ) else (
          if (l_0.length + 1) * 16 ≤ 140737488355328 then (
            some (l_0 ++ [TGroup.mk (IntKind.i32.wrap a_2) (IntKind.i32.wrap (min a_3 (IntKind.i64.wrap ((IntKind.i64.wrap ((IntKind.i64.wrap (a_2 + a_1)) - 1)) - a_4)))) a_4])
          ) else none
        )
      ) else (
        if (l_0.length + 1) * 16 ≤ 140737488355328 then (
          some (l_0 ++ [TGroup.mk (IntKind.i32.wrap a_2) (IntKind.i32.wrap (min a_3 (IntKind.i64.wrap ((IntKind.i64.wrap ((IntKind.i64.wrap (a_2 + a_1)) - 1)) - a_4)))) a_4])
        ) else none
      )
    )
  )
def gdef_list_wide_nil_L1 (N : Nat) (y_8 : List Int) (y_9 : Bool) (a_0 : Int) : Nat → Int → Int → (List TGroup) → Option (((List TGroup)) ⊕ ((List TGroup)))
  | 0, _, _, _ => none
  | n + 1, i_11, i_12, s_13 =>
    if IntKind.i64.wrap (i_12 + 2) < (y_8.length : Int) then (
      (atI y_8 i_12).bind fun x_16 =>
      (atI y_8 (IntKind.i64.wrap (i_12 + 1))).bind fun x_21 =>
      if x_16 ≤ i_11 then (
        some (.inr (s_13))
      ) else (
        if x_21 < x_16 then (
          some (.inr (s_13))
        ) else (
          if 1114111 < x_21 then (
            some (.inr (s_13))
          ) else (
            (atI y_8 (IntKind.i64.wrap (i_12 + 2))).bind fun x_32 =>
            (gdef_list_add_row N s_13 a_0 x_16 x_21 x_32).bind fun y_37 =>
            gdef_list_wide_nil_L1 N y_8 y_9 a_0 n x_21 (IntKind.i64.wrap (i_12 + 3)) y_37
          )
        )
      )
    ) else (
      some (.inl s_13)
    )
def gdef_list_wide_nil (N : Nat) (a_0 : Int) (l_1 : List Int) (a_2 : Int) : Option (Bool × (List TGroup)) :=
  (octet_U32 N l_1 (IntKind.i64.wrap (a_2 + 12))).bind fun (y_1, y_2) =>
  if y_2 = true then (
    if 5000 < y_1 then (
      some (false, [])
    ) else (
      (octet_Row N l_1 (IntKind.i64.wrap (a_2 + 16)) (IntKind.i64.wrap (3 * y_1)) 4).bind fun (y_8, y_9) =>
      (gdef_list_wide_nil_L1 N y_8 y_9 a_0 N (-1) 0 ([])).bind fun o_1014 => match o_1014 with
      | .inl y_1012 => (
        some (y_9, y_1012)
      )
      | .inr (y_1013) => (
        some (false, y_1013)
      )
    )
  ) else (
    some (false, [])
  )
def gdef_list_narrow_row_L1 (N : Nat) (l_2 : List Int) (a_1 : Int) (a_3 : Int) (a_4 : Int) (a_5 : Int) (a_6 : Int) (a_7 : Int) : Nat → Int → (List TGroup) → Option (((List TGroup)) ⊕ ((List TGroup)))
  | 0, _, _ => none
  | n + 1, i_1, s_2 =>
    if i_1 ≤ a_4 then (
      if a_6 = 0 then (
        if (IntKind.i64.wrap (i_1 + a_5)).tmod 65536 = 0 then (
          gdef_list_narrow_row_L1 N l_2 a_1 a_3 a_4 a_5 a_6 a_7 n (IntKind.i64.wrap (i_1 + 1)) s_2
        ) else (
          (gdef_list_add_row N s_2 a_1 i_1 i_1 ((IntKind.i64.wrap (i_1 + a_5)).tmod 65536)).bind fun y_9 =>
          gdef_list_narrow_row_L1 N l_2 a_1 a_3 a_4 a_5 a_6 a_7 n (IntKind.i64.wrap (i_1 + 1)) y_9
        )
      ) else (
        (octet_U16 N l_2 (IntKind.i64.wrap ((IntKind.i64.wrap (a_7 + a_6)) + (IntKind.i64.wrap (2 * (IntKind.i64.wrap (i_1 - a_3))))))).bind fun (y_11, y_12) =>
        if y_12 = true then (
          if y_11 = 0 then (
            gdef_list_narrow_row_L1 N l_2 a_1 a_3 a_4 a_5 a_6 a_7 n (IntKind.i64.wrap (i_1 + 1)) s_2
          ) else (
            if (IntKind.i64.wrap (y_11 + a_5)).tmod 65536 = 0 then (
              gdef_list_narrow_row_L1 N l_2 a_1 a_3 a_4 a_5 a_6 a_7 n (IntKind.i64.wrap (i_1 + 1)) s_2
            ) else (
              (gdef_list_add_row N s_2 a_1 i_1 i_1 ((IntKind.i64.wrap (y_11 + a_5)).tmod 65536)).bind fun y_20 =>
              gdef_list_narrow_row_L1 N l_2 a_1 a_3 a_4 a_5 a_6 a_7 n (IntKind.i64.wrap (i_1 + 1)) y_20
            )
          )
        ) else (
          some (.inr (s_2))
        )
      )
    ) else (
      some (.inl s_2)
    )
def gdef_list_narrow_row (N : Nat) (l_0 : List TGroup) (a_1 : Int) (l_2 : List Int) (a_3 : Int) (a_4 : Int) (a_5 : Int) (a_6 : Int) (a_7 : Int) : Option (Bool × (List TGroup)) :=
  (gdef_list_narrow_row_L1 N l_2 a_1 a_3 a_4 a_5 a_6 a_7 N a_3 l_0).bind fun o_1004 => match o_1004 with
  | .inl y_1002 => (
    some (true, y_1002)
  )
  | .inr (y_1003) => (
    some (false, y_1003)
  )
def gdef_list_segments_nil_L1 (N : Nat) (l_1 : List Int) (a_2 : Int) (y_1 : Int) (y_8 : List Int) (y_11 : List Int) (a_0 : Int) : Nat → Int → Int → (List TGroup) → Option (((List TGroup)) ⊕ ((List TGroup)))
  | 0, _, _, _ => none
  | n + 1, i_16, i_17, s_18 =>
    if i_17 < IntKind.i64.wrap (y_1.tdiv 2) then (
      (atI y_11 i_17).bind fun x_21 =>
      (atI y_8 i_17).bind fun x_26 =>
      (atI y_11 (IntKind.i64.wrap ((IntKind.i64.wrap (y_1.tdiv 2)) + i_17))).bind fun x_31 =>
      (atI y_11 (IntKind.i64.wrap ((IntKind.i64.wrap (2 * (IntKind.i64.wrap (y_1.tdiv 2)))) + i_17))).bind fun x_36 =>
      if x_21 ≤ i_16 then (
        some (.inr (s_18))
      ) else (
        if x_26 < x_21 then (
          some (.inr (s_18))
        ) else (
          (gdef_list_narrow_row N s_18 a_0 l_1 x_21 x_26 x_31 x_36 (IntKind.i64.wrap ((IntKind.i64.wrap (a_2 + 16)) + (IntKind.i64.wrap (2 * (IntKind.i64.wrap ((IntKind.i64.wrap (3 * (IntKind.i64.wrap (y_1.tdiv 2)))) + i_17))))))).bind fun (y_45, y_46) =>
          if y_45 = true then (
            gdef_list_segments_nil_L1 N l_1 a_2 y_1 y_8 y_11 a_0 n x_26 (IntKind.i64.wrap (i_17 + 1)) y_46
          ) else (
            some (.inr (y_46))
          )
        )
      )
    ) else (
      some (.inl s_18)
    )
def gdef_list_segments_nil (N : Nat) (a_0 : Int) (l_1 : List Int) (a_2 : Int) : Option (Bool × (List TGroup)) :=
  (octet_U16 N l_1 (IntKind.i64.wrap (a_2 + 6))).bind fun (y_1, y_2) =>
  if y_2 = true then (
    if y_1.tmod 2 = 0 then (
      (octet_Row N l_1 (IntKind.i64.wrap (a_2 + 14)) (IntKind.i64.wrap (y_1.tdiv 2)) 2).bind fun (y_8, y_9) =>
      (octet_Row N l_1 (IntKind.i64.wrap ((IntKind.i64.wrap (a_2 + 16)) + (IntKind.i64.wrap (2 * (IntKind.i64.wrap (y_1.tdiv 2)))))) (IntKind.i64.wrap (3 * (IntKind.i64.wrap (y_1.tdiv 2)))) 2).bind fun (y_11, y_12) =>
      if y_12 = true then (
        (gdef_list_segments_nil_L1 N l_1 a_2 y_1 y_8 y_11 a_0 N (-1) 0 ([])).bind fun o_1019 => match o_1019 with
        | .inl y_1017 => (
          some (true, y_1017)
        )
        | .inr (y_1018) => (
          some (false, y_1018)
        )
      ) else (
        some (false, [])
      )
    ) else (
      some (false, [])
    )
  ) else (
    some (false, [])
  )
def gdef_Codes (N : Nat) (l_0 : List Int) (a_1 : Int) (a_2 : Int) : Option ((List TGroup) × Bool) :=
  if a_2 < 0 then (
    some ([], false)
  ) else (
    if 65536 < a_2 then (
      some ([], false)
    ) else (
      (octet_U16 N l_0 a_1).bind fun (y_5, y_6) =>
      (octet_U16 N l_0 (IntKind.i64.wrap (a_1 + 2))).bind fun (y_8, y_9) =>
      if y_9 = true then (
        if y_5 = 0 then (
          if 64 < y_8 then (
            some ([], false)
          ) else (
            (gdef_Codes_L1 N l_0 a_1 a_2 y_8 N 0 (-1) (-1)).bind fun o_1020 => match o_1020 with
            | .inl (y_1018, y_1019) => (
              if 0 ≤ y_1018 then (
                (gdef_list_wide_nil N a_2 l_0 y_1018).bind fun (y_1023, y_1024) =>
                if y_1023 = true then (
                  some (y_1024, true)
                ) else (
                  some ([], false)
                )
              ) else (
                if 0 ≤ y_1019 then (
                  (gdef_list_segments_nil N a_2 l_0 y_1019).bind fun (y_1030, y_1031) =>
                  if y_1030 = true then (
                    some (y_1031, true)
                  ) else (
                    some ([], false)
                  )
                ) else (
                  some ([], true)
                )
              )
            )
            | .inr (_) => (
              some ([], false)
            )
          )
        ) else (
          some ([], false)
        )
      ) else (
        some ([], false)
      )
    )
  )
def ref15_Groups_L1 (N : Nat) (l_0 : List TGroup) (l_1 : List TGroup) : Nat → Int → Option ((Unit) ⊕ (Unit))
  | 0, _ => none
  | n + 1, i_3 =>
    if i_3 < (l_0.length : Int) then (
      (atI l_0 i_3).bind fun x_6 =>
      (atI l_1 i_3).bind fun x_11 =>
      if x_6.From = x_11.From then (
        if x_6.To = x_11.To then (
          if x_6.Glyph = x_11.Glyph then (
            ref15_Groups_L1 N l_0 l_1 n (IntKind.i64.wrap (i_3 + 1))
          ) else (
            some (.inr ())
          )
        ) else (
          some (.inr ())
        )
      ) else (
        some (.inr ())
      )
    ) else (
      some (.inl ())
    )
def ref15_Groups (N : Nat) (l_0 : List TGroup) (l_1 : List TGroup) : Option (Bool) :=
  if (l_0.length : Int) = (l_1.length : Int) then (
    (ref15_Groups_L1 N l_0 l_1 N 0).bind fun o_1004 => match o_1004 with
    | .inl _ => (
      some true
    )
    | .inr (_) => (
      some false
    )
  ) else (
    some false
  )
def law15_GdefBehind (N : Nat) (l_0 : List Int) (l_1 : List Int) (a_2 : Int) : Option (Bool) :=
  if 1000 < (l_0.length : Int) then (
    some true
  ) else (
    if 300 < (l_1.length : Int) then (
      some true
    ) else (
      if l_0.length ≤ 140737488355328 then (
        if l_0.length + l_1.length ≤ 140737488355328 then (
          (gdef_Read N l_0 0).bind fun (y_13, y_14, y_15, y_16) =>
          (gdef_Read N (l_0 ++ l_1) 0).bind fun (y_18, y_19, y_20, y_21) =>
          if y_16 = true then (
            if y_21 = true then (
              (ref15_Same N y_13 y_14 y_15 y_18 y_19 y_20).bind fun y_27 =>
              if y_27 = true then (
                (gdef_Codes N l_0 0 a_2).bind fun (y_31, y_32) =>
                (gdef_Codes N (l_0 ++ l_1) 0 a_2).bind fun (y_34, y_35) =>
                if y_32 = true then (
                  if y_35 = true then (
                    (ref15_Groups N y_31 y_34).bind fun y_41 =>
                    some y_41
                  ) else (
                    some false
                  )
                ) else (
                  some true
                )
              ) else (
                some false
              )
            ) else (
              some false
            )
          ) else (
            (gdef_Codes N l_0 0 a_2).bind fun (y_43, y_44) =>
            (gdef_Codes N (l_0 ++ l_1) 0 a_2).bind fun (y_46, y_47) =>
            if y_44 = true then (
              if y_47 = true then (
                (ref15_Groups N y_43 y_46).bind fun y_53 =>
                some y_53
              ) else (
                some false
              )
            ) else (
              some true
            )
          )
        ) else none
      ) else none
    )
  )
def ref01_Within (N : Nat) (a_0 : Int) (a_1 : Int) (a_2 : Int) : Option (Bool) :=
  if 0 ≤ a_1 then (
    if 0 ≤ a_2 then (
      if a_1 ≤ a_0 then (
        some (decide (a_2 ≤ IntKind.i64.wrap (a_0 - a_1)))
      ) else (
        some false
      )
    ) else (
      some false
    )
  ) else (
    some false
  )
def ref01_Number_L1 (N : Nat) (l_0 : List Int) (a_1 : Int) (a_2 : Int) : Nat → Int → Int → Option (Int)
  | 0, _, _ => none
  | n + 1, i_5, i_6 =>
    if i_6 < a_2 then (
      (atI l_0 (IntKind.i64.wrap (a_1 + i_6))).bind fun x_9 =>
      ref01_Number_L1 N l_0 a_1 a_2 n (IntKind.i64.wrap ((IntKind.i64.wrap (i_5 * 256)) + (IntKind.i64.wrap x_9))) (IntKind.i64.wrap (i_6 + 1))
    ) else (
      some i_5
    )
def ref01_Number (N : Nat) (l_0 : List Int) (a_1 : Int) (a_2 : Int) : Option (Int × Bool) :=
  (ref01_Within N (l_0.length : Int) a_1 a_2).bind fun y_1 =>
  if y_1 = true then (
    (ref01_Number_L1 N l_0 a_1 a_2 N 0 0).bind fun y_1006 =>
    some (y_1006, true)
  ) else (
    some (0, false)
  )
def ref15_U32 (N : Nat) (l_0 : List Int) (a_1 : Int) : Option (Int) :=
  (ref01_Number N l_0 a_1 4).bind fun (y_1, y_2) =>
  if y_2 = true then (
    some y_1
  ) else (
    some (-1)
  )
def ref10_U16 (N : Nat) (l_0 : List Int) (a_1 : Int) : Option (Int) :=
  (ref01_Number N l_0 a_1 2).bind fun (y_1, y_2) =>
  if y_2 = true then (
    some y_1
  ) else (
    some (-1)
  )
def ref10_Table_L1 (N : Nat) (l_0 : List Int) (a_1 : Int) (b_2 : Bool) : Nat → Int → (List Int) → Option ((List Int))
  | 0, _, _ => none
  | n + 1, i_2, s_3 =>
    if i_2 < 65536 then (
      (atI s_3 i_2).bind fun x_6 =>
      ref10_Table_L1 N l_0 a_1 b_2 n (IntKind.i64.wrap (i_2 + 1)) (List.set s_3 (i_2).toNat (-1))
    ) else (
      some s_3
    )
def ref10_Table_L2 (N : Nat) (l_0 : List Int) (a_1 : Int) (y_1012 : Int) (y_1008 : Int) : Nat → Int → (List Int) → Option (((List Int)) ⊕ ((List Int)))
  | 0, _, _ => none
  | n + 1, i_1018, s_1019 =>
    if i_1018 < y_1012 then (
      (ref10_U16 N l_0 (IntKind.i64.wrap ((IntKind.i64.wrap (a_1 + 6)) + (IntKind.i64.wrap (2 * i_1018))))).bind fun y_1022 =>
      if y_1022 < 0 then (
        some (.inr (s_1019))
      ) else (
        (atI s_1019 (IntKind.i64.wrap (y_1008 + i_1018))).bind fun x_1026 =>
        ref10_Table_L2 N l_0 a_1 y_1012 y_1008 n (IntKind.i64.wrap (i_1018 + 1)) (List.set s_1019 (IntKind.i64.wrap (y_1008 + i_1018)).toNat y_1022)
      )
    ) else (
      some (.inl s_1019)
    )
def ref10_Table_L4 (N : Nat) (l_0 : List Int) (a_1 : Int) (b_2 : Bool) (y_1004 : Int) (y_1008 : Int) (y_2044 : Int) (i_2026 : Int) (y_2046 : Int) : Nat → Int → Int → (List Int) → Option (Int × (List Int))
  | 0, _, _, _ => none
  | n + 1, i_2056, i_2057, s_2058 =>
    if i_2057 ≤ y_2044 then (
      (atI s_2058 i_2057).bind fun x_2061 =>
      if b_2 = true then (
        ref10_Table_L4 N l_0 a_1 b_2 y_1004 y_1008 y_2044 i_2026 y_2046 n (IntKind.i64.wrap (i_2056 + 1)) (IntKind.i64.wrap (i_2057 + 1)) (List.set s_2058 (i_2057).toNat y_2046)
      ) else (
        ref10_Table_L4 N l_0 a_1 b_2 y_1004 y_1008 y_2044 i_2026 y_2046 n (IntKind.i64.wrap (i_2056 + 1)) (IntKind.i64.wrap (i_2057 + 1)) (List.set (List.set s_2058 (i_2057).toNat y_2046) (i_2057).toNat i_2056)
      )
    ) else (
      some (i_2056, s_2058)
    )
def ref10_Table_L5 (N : Nat) (l_0 : List Int) (a_1 : Int) (b_2 : Bool) (y_1004 : Int) (y_1008 : Int) : Nat → Int → Int → Int → (List Int) → Option (((List Int)) ⊕ ((List Int)))
  | 0, _, _, _, _ => none
  | n + 1, i_2024, i_2025, i_2026, s_2027 =>
    if i_2026 < y_1008 then (
      if y_1004 = 1 then (
        (ref10_U16 N l_0 (IntKind.i64.wrap ((IntKind.i64.wrap (a_1 + 4)) + (IntKind.i64.wrap (2 * i_2026))))).bind fun y_2032 =>
        if y_2032 ≤ i_2025 then (
          some (.inr (s_2027))
        ) else (
          (atI s_2027 y_2032).bind fun x_2036 =>
          ref10_Table_L5 N l_0 a_1 b_2 y_1004 y_1008 n i_2024 y_2032 (IntKind.i64.wrap (i_2026 + 1)) (List.set s_2027 (y_2032).toNat i_2026)
        )
      ) else (
        (ref10_U16 N l_0 (IntKind.i64.wrap ((IntKind.i64.wrap (a_1 + 4)) + (IntKind.i64.wrap (6 * i_2026))))).bind fun y_2042 =>
        (ref10_U16 N l_0 (IntKind.i64.wrap ((IntKind.i64.wrap (a_1 + 6)) + (IntKind.i64.wrap (6 * i_2026))))).bind fun y_2044 =>
        (ref10_U16 N l_0 (IntKind.i64.wrap ((IntKind.i64.wrap (a_1 + 8)) + (IntKind.i64.wrap (6 * i_2026))))).bind fun y_2046 =>
        if y_2046 < 0 then (
          some (.inr (s_2027))
        ) else (
          if y_2042 ≤ i_2025 then (
            some (.inr (s_2027))
          ) else (
            if y_2044 < y_2042 then (
              some (.inr (s_2027))
            ) else (
              if b_2 = true then (
                (ref10_Table_L4 N l_0 a_1 b_2 y_1004 y_1008 y_2044 i_2026 y_2046 N i_2024 y_2042 s_2027).bind fun (y_3057, y_3058) =>
                ref10_Table_L5 N l_0 a_1 b_2 y_1004 y_1008 n y_3057 y_2044 (IntKind.i64.wrap (i_2026 + 1)) y_3058
              ) else (
                if y_2046 = i_2024 then (
                  (ref10_Table_L4 N l_0 a_1 b_2 y_1004 y_1008 y_2044 i_2026 y_2046 N i_2024 y_2042 s_2027).bind fun (y_4062, y_4063) =>
                  ref10_Table_L5 N l_0 a_1 b_2 y_1004 y_1008 n y_4062 y_2044 (IntKind.i64.wrap (i_2026 + 1)) y_4063
                ) else (
                  some (.inr (s_2027))
                )
              )
            )
          )
        )
      )
    ) else (
      some (.inl s_2027)
    )
def ref10_Table (N : Nat) (l_0 : List Int) (a_1 : Int) (b_2 : Bool) : Option ((List Int) × Bool) :=
  (ref10_Table_L1 N l_0 a_1 b_2 N 0 (List.replicate 65536 0)).bind fun y_1003 =>
  (ref10_U16 N l_0 a_1).bind fun y_1004 =>
  if y_1004 = 1 then (
    (ref10_U16 N l_0 (IntKind.i64.wrap (a_1 + 2))).bind fun y_1008 =>
    if b_2 = true then (
      (ref10_U16 N l_0 (IntKind.i64.wrap (a_1 + 4))).bind fun y_1012 =>
      if y_1012 < 0 then (
        some (y_1003, false)
      ) else (
        if 65536 < IntKind.i64.wrap (y_1008 + y_1012) then (
          some (y_1003, false)
        ) else (
          (ref10_Table_L2 N l_0 a_1 y_1012 y_1008 N 0 y_1003).bind fun o_2021 => match o_2021 with
          | .inl y_2019 => (
            some (y_2019, true)
          )
          | .inr (y_2020) => (
            some (y_2020, false)
          )
        )
      )
    ) else (
      if y_1008 < 0 then (
        some (y_1003, false)
      ) else (
        (ref10_Table_L5 N l_0 a_1 b_2 y_1004 y_1008 N 0 (-1) 0 y_1003).bind fun o_3027 => match o_3027 with
        | .inl y_3025 => (
          some (y_3025, true)
        )
        | .inr (y_3026) => (
          some (y_3026, false)
        )
      )
    )
  ) else (
    if y_1004 = 2 then (
      (ref10_U16 N l_0 (IntKind.i64.wrap (a_1 + 2))).bind fun y_3030 =>
      if y_3030 < 0 then (
        some (y_1003, false)
      ) else (
        (ref10_Table_L5 N l_0 a_1 b_2 y_1004 y_3030 N 0 (-1) 0 y_1003).bind fun o_4037 => match o_4037 with
        | .inl y_4035 => (
          some (y_4035, true)
        )
        | .inr (y_4036) => (
          some (y_4036, false)
        )
      )
    ) else (
      some (y_1003, false)
    )
  )
def ref10_Classes_L3 (N : Nat) (y_1 : List Int) (i_6 : Int) (s_7 : List TClass) : Nat → Int → Option (Int)
  | 0, _ => none
  | n + 1, i_17 =>
    if IntKind.i64.wrap (i_17 + 1) < 65536 then (
      (atI y_1 (IntKind.i64.wrap (i_17 + 1))).bind fun x_20 =>
      (atI y_1 i_6).bind fun x_25 =>
      if x_20 = x_25 then (
        ref10_Classes_L3 N y_1 i_6 s_7 n (IntKind.i64.wrap (i_17 + 1))
      ) else (
        some i_17
      )
    ) else (
      some i_17
    )
def ref10_Classes_L4 (N : Nat) (y_1 : List Int) : Nat → Int → (List TClass) → Option ((List TClass))
  | 0, _, _ => none
  | n + 1, i_6, s_7 =>
    if i_6 < 65536 then (
      (atI y_1 i_6).bind fun x_10 =>
      if x_10 ≤ 0 then (
        ref10_Classes_L4 N y_1 n (IntKind.i64.wrap (i_6 + 1)) s_7
      ) else (
        (ref10_Classes_L3 N y_1 i_6 s_7 N i_6).bind fun y_1018 =>
        if (s_7.length + 1) * 24 ≤ 140737488355328 then (
          ref10_Classes_L4 N y_1 n (IntKind.i64.wrap (y_1018 + 1)) (s_7 ++ [TClass.mk i_6 y_1018 x_10])
        ) else none
      )
    ) else (
      some s_7
    )
def ref10_Classes (N : Nat) (l_0 : List Int) (a_1 : Int) : Option ((List TClass) × Bool) :=
  (ref10_Table N l_0 a_1 true).bind fun (y_1, y_2) =>
  if y_2 = true then (
    (ref10_Classes_L4 N y_1 N 0 ([])).bind fun y_1007 =>
    some (y_1007, true)
  ) else (
    some ([], false)
  )
def ref15_Read_L1 (N : Nat) (l_0 : List Int) (a_1 : Int) (y_1 : Int) : Nat → Int → (List TClass) → (List TClass) → Option (((List TClass) × (List TClass)) ⊕ (Unit))
  | 0, _, _, _ => none
  | n + 1, i_9, s_10, s_11 =>
    if i_9 < 2 then (
      (ref10_U16 N l_0 (IntKind.i64.wrap ((IntKind.i64.wrap (a_1 + 4)) + (IntKind.i64.wrap (6 * i_9))))).bind fun y_14 =>
      if y_14 = 0 then (
        ref15_Read_L1 N l_0 a_1 y_1 n (IntKind.i64.wrap (i_9 + 1)) s_10 s_11
      ) else (
        (ref10_Classes N l_0 (IntKind.i64.wrap (a_1 + y_14))).bind fun (y_18, y_19) =>
        if y_19 = true then (
          if i_9 = 0 then (
            ref15_Read_L1 N l_0 a_1 y_1 n (IntKind.i64.wrap (i_9 + 1)) y_18 s_11
          ) else (
            ref15_Read_L1 N l_0 a_1 y_1 n (IntKind.i64.wrap (i_9 + 1)) s_10 y_18
          )
        ) else (
          some (.inr ())
        )
      )
    ) else (
      some (.inl (s_10, s_11))
    )
def ref10_Cover_L1 (N : Nat) (y_1 : List Int) : Nat → Int → (List Bool) → Option ((List Bool))
  | 0, _, _ => none
  | n + 1, i_7, s_8 =>
    if i_7 < 65536 then (
      (atI y_1 i_7).bind fun x_11 =>
      (atI s_8 i_7).bind fun x_16 =>
      ref10_Cover_L1 N y_1 n (IntKind.i64.wrap (i_7 + 1)) (List.set s_8 (i_7).toNat (decide (0 ≤ x_11)))
    ) else (
      some s_8
    )
def ref10_Spans_row_L3 (N : Nat) (i_1 : Int) (l_0 : List Bool) (s_2 : List TSpan) : Nat → Int → Option (Int)
  | 0, _ => none
  | n + 1, i_12 =>
    if IntKind.i64.wrap (i_12 + 1) < (l_0.length : Int) then (
      (atI l_0 (IntKind.i64.wrap (i_12 + 1))).bind fun x_15 =>
      if x_15 = true then (
        ref10_Spans_row_L3 N i_1 l_0 s_2 n (IntKind.i64.wrap (i_12 + 1))
      ) else (
        some i_12
      )
    ) else (
      some i_12
    )
def ref10_Spans_row_L4 (N : Nat) (l_0 : List Bool) : Nat → Int → (List TSpan) → Option ((List TSpan))
  | 0, _, _ => none
  | n + 1, i_1, s_2 =>
    if i_1 < (l_0.length : Int) then (
      (atI l_0 i_1).bind fun x_5 =>
      if x_5 = true then (
        (ref10_Spans_row_L3 N i_1 l_0 s_2 N i_1).bind fun y_1013 =>
        if (s_2.length + 1) * 16 ≤ 140737488355328 then (
          ref10_Spans_row_L4 N l_0 n (IntKind.i64.wrap (y_1013 + 1)) (s_2 ++ [TSpan.mk i_1 y_1013])
        ) else none
      ) else (
        ref10_Spans_row_L4 N l_0 n (IntKind.i64.wrap (i_1 + 1)) s_2
      )
    ) else (
      some s_2
    )
def ref10_Spans_row (N : Nat) (l_0 : List Bool) : Option ((List TSpan)) :=
  (ref10_Spans_row_L4 N l_0 N 0 ([])).bind fun y_1002 =>
  some y_1002
def ref10_Cover (N : Nat) (l_0 : List Int) (a_1 : Int) : Option ((List TSpan) × Bool) :=
  (ref10_Table N l_0 a_1 false).bind fun (y_1, y_2) =>
  if y_2 = true then (
    (ref10_Cover_L1 N y_1 N 0 (List.replicate 65536 false)).bind fun y_1008 =>
    (ref10_Spans_row N y_1008).bind fun y_1009 =>
    some (y_1009, true)
  ) else (
    some ([], false)
  )
def ref15_Read_L2 (N : Nat) (l_0 : List Int) (a_1 : Int) (y_2023 : Int) (y_2029 : Int) (y_2020 : List TClass) (y_2021 : List TClass) : Nat → Int → (List (List TSpan)) → Option (((List (List TSpan))) ⊕ (Unit))
  | 0, _, _ => none
  | n + 1, i_2039, s_2040 =>
    if i_2039 < y_2029 then (
      (ref15_U32 N l_0 (IntKind.i64.wrap ((IntKind.i64.wrap ((IntKind.i64.wrap (a_1 + y_2023)) + 4)) + (IntKind.i64.wrap (4 * i_2039))))).bind fun y_2043 =>
      if y_2043 < 0 then (
        some (.inr ())
      ) else (
        if (l_0.length : Int) < y_2043 then (
          some (.inr ())
        ) else (
          (ref10_Cover N l_0 (IntKind.i64.wrap ((IntKind.i64.wrap (a_1 + y_2023)) + y_2043))).bind fun (y_2049, y_2050) =>
          if y_2050 = true then (
            if (s_2040.length + 1) * 24 ≤ 140737488355328 then (
              ref15_Read_L2 N l_0 a_1 y_2023 y_2029 y_2020 y_2021 n (IntKind.i64.wrap (i_2039 + 1)) (s_2040 ++ [y_2049])
            ) else none
          ) else (
            some (.inr ())
          )
        )
      )
    ) else (
      some (.inl s_2040)
    )
def ref15_Read (N : Nat) (l_0 : List Int) (a_1 : Int) : Option ((List TClass) × (List TClass) × (List (List TSpan)) × Bool) :=
  (ref15_U32 N l_0 a_1).bind fun y_1 =>
  if y_1 = 65536 then (
    (ref10_U16 N l_0 (IntKind.i64.wrap (a_1 + 10))).bind fun y_5 =>
    if y_5 < 0 then (
      some ([], [], [], false)
    ) else (
      (ref15_Read_L1 N l_0 a_1 y_1 N 0 ([]) ([])).bind fun o_1012 => match o_1012 with
      | .inl (y_1010, y_1011) => (
        some (y_1010, y_1011, [], true)
      )
      | .inr (_) => (
        some ([], [], [], false)
      )
    )
  ) else (
    if y_1 = 65538 then (
      (ref10_U16 N l_0 (IntKind.i64.wrap (a_1 + 10))).bind fun y_1015 =>
      if y_1015 < 0 then (
        some ([], [], [], false)
      ) else (
        (ref15_Read_L1 N l_0 a_1 y_1 N 0 ([]) ([])).bind fun o_2022 => match o_2022 with
        | .inl (y_2020, y_2021) => (
          (ref10_U16 N l_0 (IntKind.i64.wrap (a_1 + 12))).bind fun y_2023 =>
          if y_2023 < 0 then (
            some ([], [], [], false)
          ) else (
            if y_2023 = 0 then (
              some (y_2020, y_2021, [], true)
            ) else (
              (ref10_U16 N l_0 (IntKind.i64.wrap ((IntKind.i64.wrap (a_1 + y_2023)) + 2))).bind fun y_2029 =>
              (ref10_U16 N l_0 (IntKind.i64.wrap (a_1 + y_2023))).bind fun y_2031 =>
              if y_2031 = 1 then (
                if y_2029 < 0 then (
                  some ([], [], [], false)
                ) else (
                  if 64 < y_2029 then (
                    some ([], [], [], false)
                  ) else (
                    (ref15_Read_L2 N l_0 a_1 y_2023 y_2029 y_2020 y_2021 N 0 ([])).bind fun o_3041 => match o_3041 with
                    | .inl y_3040 => (
                      some (y_2020, y_2021, y_3040, true)
                    )
                    | .inr (_) => (
                      some ([], [], [], false)
                    )
                  )
                )
              ) else (
                some ([], [], [], false)
              )
            )
          )
        )
        | .inr (_) => (
          some ([], [], [], false)
        )
      )
    ) else (
      some ([], [], [], false)
    )
  )
def law15_GdefReads (N : Nat) (l_0 : List Int) (a_1 : Int) : Option (Bool) :=
  if 1000 < (l_0.length : Int) then (
    some true
  ) else (
    if 1000 < a_1 then (
      some true
    ) else (
      if a_1 < (-1000) then (
        some true
      ) else (
        (gdef_Read N l_0 a_1).bind fun (y_7, y_8, y_9, y_10) =>
        (ref15_Read N l_0 a_1).bind fun (y_12, y_13, y_14, y_15) =>
        if y_10 = true then (
          if y_15 = true then (
            (ref15_Same N y_7 y_8 y_9 y_12 y_13 y_14).bind fun y_21 =>
            some y_21
          ) else (
            some false
          )
        ) else (
          if y_15 = true then (
            some false
          ) else (
            (ref15_Same N y_7 y_8 y_9 y_12 y_13 y_14).bind fun y_25 =>
            some y_25
          )
        )
      )
    )
  )
end Go.Proofs.Ytakplhfiohjcmaa.AI
