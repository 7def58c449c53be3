/- What functions answer, plainly: printed by a program (pw.py) out of the translation. -/
import Derived.Test.YtjdnbdhdpcnikaaA20
set_option linter.unusedVariables false
set_option linter.unusedSimpArgs false
set_option maxRecDepth 100000
set_option maxHeartbeats 1000000
namespace Go.Proofs.Ytjdnbdhdpcnikaa.AI
structure TGlyph where
  Id : Int
  Cluster : Int
  Mask : Int
  Syl : Int
  Code : Int
  Cat : Int
  Pos : Int
  Key : Int
  Lig : Int
  Part : Int
  X : Int
  Y : Int
  Wide : Int
  High : Int
deriving Inhabited, DecidableEq
def buffer_Rise_1 (N : Nat) (a_0 : Int) (a_1 : Int) (a_2 : Int) (a_3 : Int) (a_4 : Int) (a_5 : Int) (a_6 : Int) (a_7 : Int) (a_8 : Int) (a_9 : Int) (a_10 : Int) (a_11 : Int) (a_12 : Int) (a_13 : Int) (a_14 : Int) (a_15 : Int) (a_16 : Int) (a_17 : Int) (a_18 : Int) (a_19 : Int) (a_20 : Int) (a_21 : Int) (a_22 : Int) (a_23 : Int) (a_24 : Int) (a_25 : Int) (a_26 : Int) (a_27 : Int) : Option (Int) :=
  if a_1 < a_15 then (
    some (-1)
  ) else (
    if a_15 < a_1 then (
      some 1
    ) else (
      some 0
    )
  )
def slices_IsSortedFunc_apiGlyphapiGlyph_L1 (N : Nat) (l_0 : List TGlyph) : Nat → Int → Option ((Unit) ⊕ (Unit))
  | 0, _ => none
  | n + 1, i_1 =>
    if 0 < i_1 then (
      (atI l_0 i_1).bind fun x_4 =>
      (atI l_0 (IntKind.i64.wrap (i_1 - 1))).bind fun x_9 =>
      (buffer_Rise_1 N x_4.Id x_4.Cluster x_4.Mask x_4.Syl x_4.Code x_4.Cat x_4.Pos x_4.Key x_4.Lig x_4.Part x_4.X x_4.Y x_4.Wide x_4.High x_9.Id x_9.Cluster x_9.Mask x_9.Syl x_9.Code x_9.Cat x_9.Pos x_9.Key x_9.Lig x_9.Part x_9.X x_9.Y x_9.Wide x_9.High).bind fun y_14 =>
      if y_14 < 0 then (
        some (.inr ())
      ) else (
        slices_IsSortedFunc_apiGlyphapiGlyph_L1 N l_0 n (IntKind.i64.wrap (i_1 - 1))
      )
    ) else (
      some (.inl ())
    )
def slices_IsSortedFunc_apiGlyphapiGlyph (N : Nat) (l_0 : List TGlyph) : Option (Bool) :=
  (slices_IsSortedFunc_apiGlyphapiGlyph_L1 N l_0 N (IntKind.i64.wrap ((l_0.length : Int) - 1))).bind fun o_1002 => match o_1002 with
  | .inl _ => (
    some true
  )
  | .inr (_) => (
    some false
  )
def buffer_Rise (N : Nat) (l_0 : List TGlyph) : Option (Bool) :=
  (slices_IsSortedFunc_apiGlyphapiGlyph N l_0).bind fun y_1 =>
  some y_1
def ref17_Rise_L1 (N : Nat) (l_0 : List TGlyph) : Nat → Int → Option ((Unit) ⊕ (Unit))
  | 0, _ => none
  | n + 1, i_1 =>
    if i_1 < (l_0.length : Int) then (
      (atI l_0 (IntKind.i64.wrap (i_1 - 1))).bind fun x_4 =>
      (atI l_0 i_1).bind fun x_9 =>
      if x_9.Cluster < x_4.Cluster then (
        some (.inr ())
      ) else (
        ref17_Rise_L1 N l_0 n (IntKind.i64.wrap (i_1 + 1))
      )
    ) else (
      some (.inl ())
    )
def ref17_Rise (N : Nat) (l_0 : List TGlyph) : Option (Bool) :=
  (ref17_Rise_L1 N l_0 N 1).bind fun o_1002 => match o_1002 with
  | .inl _ => (
    some true
  )
  | .inr (_) => (
    some false
  )
def slices_Clone_apiGlyphapiGlyph (N : Nat) (l_0 : List TGlyph) : Option ((List TGlyph)) :=
  if l_0 = [] then (
    some ([])
  ) else (
    if l_0.length * 112 ≤ 140737488355328 then (
      some l_0
    ) else none
  )
def buffer_Merge_L1 (N : Nat) (l_0 : List TGlyph) (a_1 : Int) (a_2 : Int) (y_1 : List TGlyph) : Nat → Int → Int → Option (Int)
  | 0, _, _ => none
  | n + 1, i_22, i_23 =>
    if i_23 < (((slI l_0 a_1 a_2).length : Nat) : Int) then (
      (atI (slI l_0 a_1 a_2) i_23).bind fun x_26 =>
      buffer_Merge_L1 N l_0 a_1 a_2 y_1 n (min i_22 x_26.Cluster) (IntKind.i64.wrap (i_23 + 1))
    ) else (
      some i_22
    )
def buffer_Merge_L2 (N : Nat) (l_0 : List TGlyph) (a_1 : Int) (a_2 : Int) (y_1023 : Int) (y_1 : List TGlyph) : Nat → Int → Option (Int)
  | 0, _ => none
  | n + 1, i_1024 =>
    if 0 < i_1024 then (
      (atI l_0 (IntKind.i64.wrap (i_1024 - 1))).bind fun x_1027 =>
      (atI l_0 a_1).bind fun x_1032 =>
      if x_1027.Cluster = x_1032.Cluster then (
        buffer_Merge_L2 N l_0 a_1 a_2 y_1023 y_1 n (IntKind.i64.wrap (i_1024 - 1))
      ) else (
        some i_1024
      )
    ) else (
      some i_1024
    )
def buffer_Merge_L3 (N : Nat) (l_0 : List TGlyph) (a_2 : Int) (y_1023 : Int) (y_2025 : Int) (y_1 : List TGlyph) : Nat → Int → Option (Int)
  | 0, _ => none
  | n + 1, i_2026 =>
    if i_2026 < (l_0.length : Int) then (
      (atI l_0 i_2026).bind fun x_2029 =>
      (atI l_0 (IntKind.i64.wrap (a_2 - 1))).bind fun x_2034 =>
      if x_2029.Cluster = x_2034.Cluster then (
        buffer_Merge_L3 N l_0 a_2 y_1023 y_2025 y_1 n (IntKind.i64.wrap (i_2026 + 1))
      ) else (
        some i_2026
      )
    ) else (
      some i_2026
    )
def buffer_Merge_L4 (N : Nat) (y_1023 : Int) (y_3027 : Int) : Nat → Int → (List TGlyph) → Option ((List TGlyph))
  | 0, _, _ => none
  | n + 1, i_3028, s_3029 =>
    if i_3028 < y_3027 then (
      (atI s_3029 i_3028).bind fun x_3032 =>
      buffer_Merge_L4 N y_1023 y_3027 n (IntKind.i64.wrap (i_3028 + 1)) (List.set s_3029 (i_3028).toNat (TGlyph.mk x_3032.Id y_1023 x_3032.Mask x_3032.Syl x_3032.Code x_3032.Cat x_3032.Pos x_3032.Key x_3032.Lig x_3032.Part x_3032.X x_3032.Y x_3032.Wide x_3032.High))
    ) else (
      some s_3029
    )
def buffer_Merge (N : Nat) (l_0 : List TGlyph) (a_1 : Int) (a_2 : Int) : Option ((List TGlyph)) :=
  (slices_Clone_apiGlyphapiGlyph N l_0).bind fun y_1 =>
  if a_1 < 0 then (
    some y_1
  ) else (
    if (l_0.length : Int) < a_2 then (
      some y_1
    ) else (
      if a_2 ≤ a_1 then (
        some y_1
      ) else (
        (atI l_0 a_1).bind fun x_9 =>
        if 0 ≤ a_1 then (
          if a_1 ≤ a_2 then (
            if a_2 ≤ (l_0.length : Int) then (
              (buffer_Merge_L1 N l_0 a_1 a_2 y_1 N x_9.Cluster 0).bind fun y_1023 =>
              (buffer_Merge_L2 N l_0 a_1 a_2 y_1023 y_1 N a_1).bind fun y_2025 =>
              (buffer_Merge_L3 N l_0 a_2 y_1023 y_2025 y_1 N a_2).bind fun y_3027 =>
              (buffer_Merge_L4 N y_1023 y_3027 N y_2025 y_1).bind fun y_4029 =>
              some y_4029
            ) else none
          ) else none
        ) else none
      )
    )
  )
def ref17_Copy (N : Nat) (l_0 : List TGlyph) : Option (Unit) :=
  if l_0.length * 112 ≤ 140737488355328 then (
    some ()
  ) else none
def ref17_Merge_L1 (N : Nat) (l_0 : List TGlyph) (a_1 : Int) (a_2 : Int) : Nat → Int → Int → Option (Int)
  | 0, _, _ => none
  | n + 1, i_13, i_14 =>
    if i_14 < a_2 then (
      (atI l_0 i_14).bind fun x_17 =>
      if x_17.Cluster < i_13 then (
        ref17_Merge_L1 N l_0 a_1 a_2 n x_17.Cluster (IntKind.i64.wrap (i_14 + 1))
      ) else (
        ref17_Merge_L1 N l_0 a_1 a_2 n i_13 (IntKind.i64.wrap (i_14 + 1))
      )
    ) else (
      some i_13
    )
def ref17_Merge_L2 (N : Nat) (l_0 : List TGlyph) (a_1 : Int) (a_2 : Int) (y_1014 : Int) : Nat → Int → (List Bool) → Option ((List Bool))
  | 0, _, _ => none
  | n + 1, i_1020, s_1021 =>
    if i_1020 < a_2 then (
      (atI s_1021 i_1020).bind fun x_1024 =>
      ref17_Merge_L2 N l_0 a_1 a_2 y_1014 n (IntKind.i64.wrap (i_1020 + 1)) (List.set s_1021 (i_1020).toNat true)
    ) else (
      some s_1021
    )
def ref17_Merge_L3 (N : Nat) (l_0 : List TGlyph) (a_1 : Int) (a_2 : Int) (y_1014 : Int) : Nat → Int → (List Bool) → Option ((List Bool))
  | 0, _, _ => none
  | n + 1, i_2022, s_2023 =>
    if 0 ≤ i_2022 then (
      (atI s_2023 (IntKind.i64.wrap (i_2022 + 1))).bind fun x_2026 =>
      if x_2026 = true then (
        (atI l_0 i_2022).bind fun x_2033 =>
        (atI l_0 a_1).bind fun x_2038 =>
        (atI s_2023 i_2022).bind fun x_2043 =>
        ref17_Merge_L3 N l_0 a_1 a_2 y_1014 n (IntKind.i64.wrap (i_2022 - 1)) (List.set s_2023 (i_2022).toNat (decide (x_2033.Cluster = x_2038.Cluster)))
      ) else (
        some s_2023
      )
    ) else (
      some s_2023
    )
def ref17_Merge_L4 (N : Nat) (l_0 : List TGlyph) (a_2 : Int) (y_1014 : Int) : Nat → Int → (List Bool) → Option ((List Bool))
  | 0, _, _ => none
  | n + 1, i_3024, s_3025 =>
    if i_3024 < (l_0.length : Int) then (
      (atI s_3025 (IntKind.i64.wrap (i_3024 - 1))).bind fun x_3028 =>
      if x_3028 = true then (
        (atI l_0 i_3024).bind fun x_3035 =>
        (atI l_0 (IntKind.i64.wrap (a_2 - 1))).bind fun x_3040 =>
        (atI s_3025 i_3024).bind fun x_3045 =>
        ref17_Merge_L4 N l_0 a_2 y_1014 n (IntKind.i64.wrap (i_3024 + 1)) (List.set s_3025 (i_3024).toNat (decide (x_3035.Cluster = x_3040.Cluster)))
      ) else (
        some s_3025
      )
    ) else (
      some s_3025
    )
def ref17_Merge_L5 (N : Nat) (l_0 : List TGlyph) (y_1014 : Int) (y_4025 : List Bool) : Nat → Int → (List TGlyph) → Option ((List TGlyph))
  | 0, _, _ => none
  | n + 1, i_4026, s_4027 =>
    if i_4026 < (l_0.length : Int) then (
      (atI y_4025 i_4026).bind fun x_4030 =>
      if x_4030 = true then (
        (atI s_4027 i_4026).bind fun x_4037 =>
        ref17_Merge_L5 N l_0 y_1014 y_4025 n (IntKind.i64.wrap (i_4026 + 1)) (List.set s_4027 (i_4026).toNat (TGlyph.mk x_4037.Id y_1014 x_4037.Mask x_4037.Syl x_4037.Code x_4037.Cat x_4037.Pos x_4037.Key x_4037.Lig x_4037.Part x_4037.X x_4037.Y x_4037.Wide x_4037.High))
      ) else (
        ref17_Merge_L5 N l_0 y_1014 y_4025 n (IntKind.i64.wrap (i_4026 + 1)) s_4027
      )
    ) else (
      some s_4027
    )
def ref17_Merge (N : Nat) (l_0 : List TGlyph) (a_1 : Int) (a_2 : Int) : Option ((List TGlyph)) :=
  (ref17_Copy N l_0).bind fun _ =>
  if a_1 < 0 then (
    some l_0
  ) else (
    if (l_0.length : Int) < a_2 then (
      some l_0
    ) else (
      if a_2 ≤ a_1 then (
        some l_0
      ) else (
        (atI l_0 a_1).bind fun x_8 =>
        (ref17_Merge_L1 N l_0 a_1 a_2 N x_8.Cluster a_1).bind fun y_1014 =>
        if 0 ≤ (l_0.length : Int) then (
          if (l_0.length : Int) * 1 ≤ 140737488355328 then (
            (ref17_Merge_L2 N l_0 a_1 a_2 y_1014 N a_1 (List.replicate l_0.length false)).bind fun y_2021 =>
            (ref17_Merge_L3 N l_0 a_1 a_2 y_1014 N (IntKind.i64.wrap (a_1 - 1)) y_2021).bind fun y_3023 =>
            (ref17_Merge_L4 N l_0 a_2 y_1014 N a_2 y_3023).bind fun y_4025 =>
            (ref17_Merge_L5 N l_0 y_1014 y_4025 N 0 l_0).bind fun y_5027 =>
            some y_5027
          ) else none
        ) else none
      )
    )
  )
def ref17_Same_L1 (N : Nat) (l_0 : List TGlyph) (l_1 : List TGlyph) : Nat → Int → Option ((Unit) ⊕ (Unit))
  | 0, _ => none
  | n + 1, i_3 =>
    if i_3 < (l_0.length : Int) then (
      (atI l_0 i_3).bind fun x_6 =>
      (atI l_1 i_3).bind fun x_11 =>
      if x_6.Id = x_11.Id then (
        if x_6.Cluster = x_11.Cluster then (
          if x_6.Mask = x_11.Mask then (
            if x_6.Syl = x_11.Syl then (
              if x_6.Code = x_11.Code then (
                if x_6.Cat = x_11.Cat then (
                  if x_6.Pos = x_11.Pos then (
                    if x_6.Key = x_11.Key then (
                      if x_6.Lig = x_11.Lig then (
                        if x_6.Part = x_11.Part then (
                          if x_6.X = x_11.X then (
                            if x_6.Y = x_11.Y then (
                              if x_6.Wide = x_11.Wide then (
                                if x_6.High = x_11.High then (
                                  ref17_Same_L1 N l_0 l_1 n (IntKind.i64.wrap (i_3 + 1))
                                ) else (
                                  some (.inr ())
                                )
                              ) else (
                                some (.inr ())
                              )
                            ) else (
                              some (.inr ())
                            )
                          ) else (
                            some (.inr ())
                          )
                        ) else (
                          some (.inr ())
                        )
                      ) else (
                        some (.inr ())
                      )
                    ) else (
                      some (.inr ())
                    )
                  ) else (
                    some (.inr ())
                  )
                ) else (
                  some (.inr ())
                )
              ) else (
                some (.inr ())
              )
            ) else (
              some (.inr ())
            )
          ) else (
            some (.inr ())
          )
        ) else (
          some (.inr ())
        )
      ) else (
        some (.inr ())
      )
    ) else (
      some (.inl ())
    )
def ref17_Same (N : Nat) (l_0 : List TGlyph) (l_1 : List TGlyph) : Option (Bool) :=
  if (l_0.length : Int) = (l_1.length : Int) then (
    (ref17_Same_L1 N l_0 l_1 N 0).bind fun o_1004 => match o_1004 with
    | .inl _ => (
      some true
    )
    | .inr (_) => (
      some false
    )
  ) else (
    some false
  )
def law17_BufferMerges (N : Nat) (l_0 : List TGlyph) (a_1 : Int) (a_2 : Int) : Option (Bool) :=
  if 200 < (l_0.length : Int) then (
    some true
  ) else (
    (buffer_Rise N l_0).bind fun y_3 =>
    (ref17_Rise N l_0).bind fun y_5 =>
    if y_3 = true then (
      if y_5 = true then (
        (buffer_Merge N l_0 a_1 a_2).bind fun y_11 =>
        (ref17_Merge N l_0 a_1 a_2).bind fun y_13 =>
        (ref17_Same N y_11 y_13).bind fun y_15 =>
        some y_15
      ) else (
        some false
      )
    ) else (
      if y_5 = true then (
        some false
      ) else (
        (buffer_Merge N l_0 a_1 a_2).bind fun y_19 =>
        (ref17_Merge N l_0 a_1 a_2).bind fun y_21 =>
        (ref17_Same N y_19 y_21).bind fun y_23 =>
        some y_23
      )
    )
  )
end Go.Proofs.Ytjdnbdhdpcnikaa.AI
