/- What functions answer, plainly: printed by a program (pw.py) out of the translation. -/
import Derived.Test.YtjdnbdhdpcnikaaA20
set_option linter.unusedVariables false
set_option linter.unusedSimpArgs false
set_option maxRecDepth 100000
set_option maxHeartbeats 1000000
namespace Go.Proofs.Ytjdnbdhdpcnikaa.AI
structure TGlyph where
  Id : Int
  Cluster : Int
  Mask : Int
  Syl : Int
  Code : Int
  Cat : Int
  Pos : Int
  Key : Int
  Lig : Int
  Part : Int
  X : Int
  Y : Int
  Wide : Int
  High : Int
deriving Inhabited, DecidableEq
structure TArr2_I64 where
  e0 : Int
  e1 : Int
deriving Inhabited, DecidableEq
def law17_BufferStays_L1 (N : Nat) (l_0 : List TGlyph) (a_1 : Int) : Nat → Int → (List Int) → (List Int) → Option ((List Int) × (List Int))
  | 0, _, _, _ => none
  | n + 1, i_3, s_4, s_5 =>
    if i_3 < (l_0.length : Int) then (
      if (s_4.length + 1) * 8 ≤ 140737488355328 then (
        if (s_5.length + 1) * 8 ≤ 140737488355328 then (
          law17_BufferStays_L1 N l_0 a_1 n (IntKind.i64.wrap (i_3 + 1)) (s_4 ++ [i_3]) (s_5 ++ [7])
        ) else none
      ) else none
    ) else (
      some (s_4, s_5)
    )
def slices_Clone_apiGlyphapiGlyph (N : Nat) (l_0 : List TGlyph) : Option ((List TGlyph)) :=
  if l_0 = [] then (
    some ([])
  ) else (
    if l_0.length * 112 ≤ 140737488355328 then (
      some l_0
    ) else none
  )
def buffer_Merge_L1 (N : Nat) (l_0 : List TGlyph) (a_1 : Int) (a_2 : Int) (y_1 : List TGlyph) : Nat → Int → Int → Option (Int)
  | 0, _, _ => none
  | n + 1, i_22, i_23 =>
    if i_23 < (((slI l_0 a_1 a_2).length : Nat) : Int) then (
      (atI (slI l_0 a_1 a_2) i_23).bind fun x_26 =>
      buffer_Merge_L1 N l_0 a_1 a_2 y_1 n (min i_22 x_26.Cluster) (IntKind.i64.wrap (i_23 + 1))
    ) else (
      some i_22
    )
def buffer_Merge_L2 (N : Nat) (l_0 : List TGlyph) (a_1 : Int) (a_2 : Int) (y_1023 : Int) (y_1 : List TGlyph) : Nat → Int → Option (Int)
  | 0, _ => none
  | n + 1, i_1024 =>
    if 0 < i_1024 then (
      (atI l_0 (IntKind.i64.wrap (i_1024 - 1))).bind fun x_1027 =>
      (atI l_0 a_1).bind fun x_1032 =>
      if x_1027.Cluster = x_1032.Cluster then (
        buffer_Merge_L2 N l_0 a_1 a_2 y_1023 y_1 n (IntKind.i64.wrap (i_1024 - 1))
      ) else (
        some i_1024
      )
    ) else (
      some i_1024
    )
def buffer_Merge_L3 (N : Nat) (l_0 : List TGlyph) (a_2 : Int) (y_1023 : Int) (y_2025 : Int) (y_1 : List TGlyph) : Nat → Int → Option (Int)
  | 0, _ => none
  | n + 1, i_2026 =>
    if i_2026 < (l_0.length : Int) then (
      (atI l_0 i_2026).bind fun x_2029 =>
      (atI l_0 (IntKind.i64.wrap (a_2 - 1))).bind fun x_2034 =>
      if x_2029.Cluster = x_2034.Cluster then (
        buffer_Merge_L3 N l_0 a_2 y_1023 y_2025 y_1 n (IntKind.i64.wrap (i_2026 + 1))
      ) else (
        some i_2026
      )
    ) else (
      some i_2026
    )
def buffer_Merge_L4 (N : Nat) (y_1023 : Int) (y_3027 : Int) : Nat → Int → (List TGlyph) → Option ((List TGlyph))
  | 0, _, _ => none
  | n + 1, i_3028, s_3029 =>
    if i_3028 < y_3027 then (
      (atI s_3029 i_3028).bind fun x_3032 =>
      buffer_Merge_L4 N y_1023 y_3027 n (IntKind.i64.wrap (i_3028 + 1)) (List.set s_3029 (i_3028).toNat (TGlyph.mk x_3032.Id y_1023 x_3032.Mask x_3032.Syl x_3032.Code x_3032.Cat x_3032.Pos x_3032.Key x_3032.Lig x_3032.Part x_3032.X x_3032.Y x_3032.Wide x_3032.High))
    ) else (
      some s_3029
    )
def buffer_Merge (N : Nat) (l_0 : List TGlyph) (a_1 : Int) (a_2 : Int) : Option ((List TGlyph)) :=
  (slices_Clone_apiGlyphapiGlyph N l_0).bind fun y_1 =>
  if a_1 < 0 then (
    some y_1
  ) else (
    if (l_0.length : Int) < a_2 then (
      some y_1
    ) else (
      if a_2 ≤ a_1 then (
        some y_1
      ) else (
        (atI l_0 a_1).bind fun x_9 =>
        if 0 ≤ a_1 then (
          if a_1 ≤ a_2 then (
            if a_2 ≤ (l_0.length : Int) then (
              (buffer_Merge_L1 N l_0 a_1 a_2 y_1 N x_9.Cluster 0).bind fun y_1023 =>
              (buffer_Merge_L2 N l_0 a_1 a_2 y_1023 y_1 N a_1).bind fun y_2025 =>
              (buffer_Merge_L3 N l_0 a_2 y_1023 y_2025 y_1 N a_2).bind fun y_3027 =>
              (buffer_Merge_L4 N y_1023 y_3027 N y_2025 y_1).bind fun y_4029 =>
              some y_4029
            ) else none
          ) else none
        ) else none
      )
    )
  )
def buffer_Replace_L1 (N : Nat) (y_19 : List TGlyph) (a_1 : Int) (a_2 : Int) (l_3 : List Int) (x_21 : TGlyph) : Nat → Int → (List TGlyph) → Option ((List TGlyph))
  | 0, _, _ => none
  | n + 1, i_36, s_37 =>
    if i_36 < (l_3.length : Int) then (
      (atI l_3 i_36).bind fun x_40 =>
      if (s_37.length + 1) * 112 ≤ 140737488355328 then (
        buffer_Replace_L1 N y_19 a_1 a_2 l_3 x_21 n (IntKind.i64.wrap (i_36 + 1)) (s_37 ++ [TGlyph.mk x_40 x_21.Cluster x_21.Mask x_21.Syl x_21.Code x_21.Cat x_21.Pos x_21.Key x_21.Lig x_21.Part x_21.X x_21.Y x_21.Wide x_21.High])
      ) else none
    ) else (
      some s_37
    )
def buffer_Replace_L2 (N : Nat) (x_1055 : TGlyph) (x_21 : TGlyph) : Nat → Int → (List TGlyph) → Option ((List TGlyph))
  | 0, _, _ => none
  | n + 1, i_1059, s_1060 =>
    if i_1059 < (s_1060.length : Int) then (
      (atI s_1060 i_1059).bind fun x_1063 =>
      if x_1063.Cluster = x_1055.Cluster then (
        buffer_Replace_L2 N x_1055 x_21 n (IntKind.i64.wrap (i_1059 + 1)) (List.set s_1060 (i_1059).toNat (TGlyph.mk x_1063.Id x_21.Cluster x_1063.Mask x_1063.Syl x_1063.Code x_1063.Cat x_1063.Pos x_1063.Key x_1063.Lig x_1063.Part x_1063.X x_1063.Y x_1063.Wide x_1063.High))
      ) else (
        some s_1060
      )
    ) else (
      some s_1060
    )
def buffer_Replace_L3 (N : Nat) (l_0 : List TGlyph) (a_1 : Int) (a_2 : Int) (l_3 : List Int) (x_2061 : TGlyph) : Nat → Int → (List TGlyph) → Option ((List TGlyph))
  | 0, _, _ => none
  | n + 1, i_2076, s_2077 =>
    if i_2076 < (l_3.length : Int) then (
      (atI l_3 i_2076).bind fun x_2080 =>
      if (s_2077.length + 1) * 112 ≤ 140737488355328 then (
        buffer_Replace_L3 N l_0 a_1 a_2 l_3 x_2061 n (IntKind.i64.wrap (i_2076 + 1)) (s_2077 ++ [TGlyph.mk x_2080 x_2061.Cluster x_2061.Mask x_2061.Syl x_2061.Code x_2061.Cat x_2061.Pos x_2061.Key x_2061.Lig x_2061.Part x_2061.X x_2061.Y x_2061.Wide x_2061.High])
      ) else none
    ) else (
      some s_2077
    )
def buffer_Replace (N : Nat) (l_0 : List TGlyph) (a_1 : Int) (a_2 : Int) (l_3 : List Int) : Option ((List TGlyph)) :=
  if a_1 < 0 then (
    (slices_Clone_apiGlyphapiGlyph N l_0).bind fun y_3 =>
    some y_3
  ) else (
    if a_2 < 1 then (
      (slices_Clone_apiGlyphapiGlyph N l_0).bind fun y_7 =>
      some y_7
    ) else (
      if (l_0.length : Int) < a_2 then (
        (slices_Clone_apiGlyphapiGlyph N l_0).bind fun y_11 =>
        some y_11
      ) else (
        if IntKind.i64.wrap ((l_0.length : Int) - a_2) < a_1 then (
          (slices_Clone_apiGlyphapiGlyph N l_0).bind fun y_15 =>
          some y_15
        ) else (
          if 1 < a_2 then (
            (buffer_Merge N l_0 a_1 (IntKind.i64.wrap (a_1 + a_2))).bind fun y_19 =>
            (atI y_19 a_1).bind fun x_21 =>
            if 0 ≤ a_1 then (
              if a_1 ≤ (y_19.length : Int) then (
                (slices_Clone_apiGlyphapiGlyph N (slI y_19 0 a_1)).bind fun y_34 =>
                (buffer_Replace_L1 N y_19 a_1 a_2 l_3 x_21 N 0 y_34).bind fun y_1037 =>
                if 0 ≤ IntKind.i64.wrap (a_1 + a_2) then (
                  if IntKind.i64.wrap (a_1 + a_2) ≤ (y_19.length : Int) then (
                    if (y_1037.length + (slI y_19 (IntKind.i64.wrap (a_1 + a_2)) (y_19.length : Int)).length) * 112 ≤ 140737488355328 then (
                      if a_1 = 0 then (
                        if (l_3.length : Int) = 0 then (
                          if 0 < ((y_1037.length + (slI y_19 (IntKind.i64.wrap (a_1 + a_2)) (y_19.length : Int)).length : Nat) : Int) then (
                            (atI (y_1037 ++ (slI y_19 (IntKind.i64.wrap (a_1 + a_2)) (y_19.length : Int))) 0).bind fun x_1055 =>
                            (buffer_Replace_L2 N x_1055 x_21 N 0 (y_1037 ++ (slI y_19 (IntKind.i64.wrap (a_1 + a_2)) (y_19.length : Int)))).bind fun y_2060 =>
                            some y_2060
                          ) else (
                            some (y_1037 ++ (slI y_19 (IntKind.i64.wrap (a_1 + a_2)) (y_19.length : Int)))
                          )
                        ) else (
                          some (y_1037 ++ (slI y_19 (IntKind.i64.wrap (a_1 + a_2)) (y_19.length : Int)))
                        )
                      ) else (
                        some (y_1037 ++ (slI y_19 (IntKind.i64.wrap (a_1 + a_2)) (y_19.length : Int)))
                      )
                    ) else none
                  ) else none
                ) else none
              ) else none
            ) else none
          ) else (
            (atI l_0 a_1).bind fun x_2061 =>
            if 0 ≤ a_1 then (
              if a_1 ≤ (l_0.length : Int) then (
                (slices_Clone_apiGlyphapiGlyph N (slI l_0 0 a_1)).bind fun y_2074 =>
                (buffer_Replace_L3 N l_0 a_1 a_2 l_3 x_2061 N 0 y_2074).bind fun y_3077 =>
                if 0 ≤ IntKind.i64.wrap (a_1 + a_2) then (
                  if IntKind.i64.wrap (a_1 + a_2) ≤ (l_0.length : Int) then (
                    if (y_3077.length + (slI l_0 (IntKind.i64.wrap (a_1 + a_2)) (l_0.length : Int)).length) * 112 ≤ 140737488355328 then (
                      if a_1 = 0 then (
                        if (l_3.length : Int) = 0 then (
                          if 0 < ((y_3077.length + (slI l_0 (IntKind.i64.wrap (a_1 + a_2)) (l_0.length : Int)).length : Nat) : Int) then (
                            (atI (y_3077 ++ (slI l_0 (IntKind.i64.wrap (a_1 + a_2)) (l_0.length : Int))) 0).bind fun x_3095 =>
                            (buffer_Replace_L2 N x_3095 x_2061 N 0 (y_3077 ++ (slI l_0 (IntKind.i64.wrap (a_1 + a_2)) (l_0.length : Int)))).bind fun y_4100 =>
                            some y_4100
                          ) else (
                            some (y_3077 ++ (slI l_0 (IntKind.i64.wrap (a_1 + a_2)) (l_0.length : Int)))
                          )
                        ) else (
                          some (y_3077 ++ (slI l_0 (IntKind.i64.wrap (a_1 + a_2)) (l_0.length : Int)))
                        )
                      ) else (
                        some (y_3077 ++ (slI l_0 (IntKind.i64.wrap (a_1 + a_2)) (l_0.length : Int)))
                      )
                    ) else none
                  ) else none
                ) else none
              ) else none
            ) else none
          )
        )
      )
    )
  )
def buffer_Blocks_row_L1 (N : Nat) (l_0 : List Int) : Nat → Int → (List Bool) → Option ((Unit) ⊕ (Unit))
  | 0, _, _ => none
  | n + 1, i_6, s_7 =>
    if i_6 < (l_0.length : Int) then (
      (atI l_0 i_6).bind fun x_10 =>
      if x_10 < 0 then (
        some (.inr ())
      ) else (
        if (l_0.length : Int) ≤ x_10 then (
          some (.inr ())
        ) else (
          (atI s_7 x_10).bind fun x_19 =>
          if x_19 = true then (
            some (.inr ())
          ) else (
            buffer_Blocks_row_L1 N l_0 n (IntKind.i64.wrap (i_6 + 1)) (List.set s_7 (x_10).toNat true)
          )
        )
      )
    ) else (
      some (.inl ())
    )
def buffer_Blocks_row_L2 (N : Nat) (l_0 : List Int) : Nat → Int → Int → Int → (List TArr2_I64) → Option ((List TArr2_I64))
  | 0, _, _, _, _ => none
  | n + 1, i_1008, i_1009, i_1010, s_1011 =>
    if i_1010 < (l_0.length : Int) then (
      (atI l_0 i_1010).bind fun x_1014 =>
      if max i_1009 x_1014 = i_1010 then (
        if (s_1011.length + 1) * 16 ≤ 140737488355328 then (
          buffer_Blocks_row_L2 N l_0 n (IntKind.i64.wrap (i_1010 + 1)) (max i_1009 x_1014) (IntKind.i64.wrap (i_1010 + 1)) (s_1011 ++ [TArr2_I64.mk i_1008 (IntKind.i64.wrap (i_1010 + 1))])
        ) else none
      ) else (
        buffer_Blocks_row_L2 N l_0 n i_1008 (max i_1009 x_1014) (IntKind.i64.wrap (i_1010 + 1)) s_1011
      )
    ) else (
      some s_1011
    )
def buffer_Blocks_row (N : Nat) (l_0 : List Int) : Option ((List TArr2_I64)) :=
  if 0 ≤ (l_0.length : Int) then (
    if (l_0.length : Int) * 1 ≤ 140737488355328 then (
      (buffer_Blocks_row_L1 N l_0 N 0 (List.replicate l_0.length false)).bind fun o_1007 => match o_1007 with
      | .inl _ => (
        (buffer_Blocks_row_L2 N l_0 N 0 (-1) 0 ([])).bind fun y_2009 =>
        some y_2009
      )
      | .inr (_) => (
        some ([])
      )
    ) else none
  ) else none
def slices_Clone_apiGlyphapiGlyph_row (N : Nat) (l_0 : List TGlyph) : Option ((List TGlyph)) :=
  if l_0 = [] then (
    some ([])
  ) else (
    if l_0.length * 112 ≤ 140737488355328 then (
      some l_0
    ) else none
  )
def buffer_Merge_row_L1 (N : Nat) (a_1 : Int) (a_2 : Int) (l_0 : List TGlyph) (y_1 : List TGlyph) : Nat → Int → Int → Option (Int)
  | 0, _, _ => none
  | n + 1, i_20, i_21 =>
    if i_21 < ((((a_2).toNat - (a_1).toNat) : Nat) : Int) then (
      (atI (slI l_0 a_1 a_2) i_21).bind fun x_24 =>
      buffer_Merge_row_L1 N a_1 a_2 l_0 y_1 n (min i_20 x_24.Cluster) (IntKind.i64.wrap (i_21 + 1))
    ) else (
      some i_20
    )
def buffer_Merge_row_L2 (N : Nat) (a_1 : Int) (a_2 : Int) (y_1021 : Int) (l_0 : List TGlyph) (y_1 : List TGlyph) : Nat → Int → Option (Int)
  | 0, _ => none
  | n + 1, i_1022 =>
    if 0 < i_1022 then (
      (atI l_0 (IntKind.i64.wrap (i_1022 - 1))).bind fun x_1025 =>
      (atI l_0 a_1).bind fun x_1030 =>
      if x_1025.Cluster = x_1030.Cluster then (
        buffer_Merge_row_L2 N a_1 a_2 y_1021 l_0 y_1 n (IntKind.i64.wrap (i_1022 - 1))
      ) else (
        some i_1022
      )
    ) else (
      some i_1022
    )
def buffer_Merge_row_L3 (N : Nat) (a_2 : Int) (y_1021 : Int) (y_2023 : Int) (l_0 : List TGlyph) (y_1 : List TGlyph) : Nat → Int → Option (Int)
  | 0, _ => none
  | n + 1, i_2024 =>
    if i_2024 < (l_0.length : Int) then (
      (atI l_0 i_2024).bind fun x_2027 =>
      (atI l_0 (IntKind.i64.wrap (a_2 - 1))).bind fun x_2032 =>
      if x_2027.Cluster = x_2032.Cluster then (
        buffer_Merge_row_L3 N a_2 y_1021 y_2023 l_0 y_1 n (IntKind.i64.wrap (i_2024 + 1))
      ) else (
        some i_2024
      )
    ) else (
      some i_2024
    )
def buffer_Merge_row_L4 (N : Nat) (y_1021 : Int) (y_3025 : Int) (l_0 : List TGlyph) : Nat → Int → (List TGlyph) → Option ((List TGlyph))
  | 0, _, _ => none
  | n + 1, i_3026, s_3027 =>
    if i_3026 < y_3025 then (
      (atI s_3027 i_3026).bind fun x_3030 =>
      buffer_Merge_row_L4 N y_1021 y_3025 l_0 n (IntKind.i64.wrap (i_3026 + 1)) (List.set s_3027 (i_3026).toNat (TGlyph.mk x_3030.Id y_1021 x_3030.Mask x_3030.Syl x_3030.Code x_3030.Cat x_3030.Pos x_3030.Key x_3030.Lig x_3030.Part x_3030.X x_3030.Y x_3030.Wide x_3030.High))
    ) else (
      some s_3027
    )
def buffer_Merge_row (N : Nat) (l_0 : List TGlyph) (a_1 : Int) (a_2 : Int) : Option ((List TGlyph)) :=
  (slices_Clone_apiGlyphapiGlyph_row N l_0).bind fun y_1 =>
  if a_1 < 0 then (
    some y_1
  ) else (
    if (l_0.length : Int) < a_2 then (
      some y_1
    ) else (
      if a_2 ≤ a_1 then (
        some y_1
      ) else (
        (atI l_0 a_1).bind fun x_9 =>
        if 0 ≤ a_1 then (
          if a_1 ≤ a_2 then (
            if a_2 ≤ (l_0.length : Int) then (
              (buffer_Merge_row_L1 N a_1 a_2 l_0 y_1 N x_9.Cluster 0).bind fun y_1021 =>
              (buffer_Merge_row_L2 N a_1 a_2 y_1021 l_0 y_1 N a_1).bind fun y_2023 =>
              (buffer_Merge_row_L3 N a_2 y_1021 y_2023 l_0 y_1 N a_2).bind fun y_3025 =>
              (buffer_Merge_row_L4 N y_1021 y_3025 l_0 N y_2023 y_1).bind fun y_4027 =>
              some y_4027
            ) else none
          ) else none
        ) else none
      )
    )
  )
def buffer_Order_row_L1 (N : Nat) (a_1 : Int) (y_1 : List TArr2_I64) (l_2 : List Int) : Nat → Int → (List TGlyph) → Option ((List TGlyph))
  | 0, _, _ => none
  | n + 1, i_13, s_14 =>
    if i_13 < (y_1.length : Int) then (
      (atI y_1 i_13).bind fun x_17 =>
      if 1 < IntKind.i64.wrap (x_17.e1 - x_17.e0) then (
        (buffer_Merge_row N s_14 (IntKind.i64.wrap (a_1 + x_17.e0)) (IntKind.i64.wrap (a_1 + x_17.e1))).bind fun y_24 =>
        buffer_Order_row_L1 N a_1 y_1 l_2 n (IntKind.i64.wrap (i_13 + 1)) y_24
      ) else (
        buffer_Order_row_L1 N a_1 y_1 l_2 n (IntKind.i64.wrap (i_13 + 1)) s_14
      )
    ) else (
      some s_14
    )
def buffer_Order_row_L2 (N : Nat) (a_1 : Int) (l_2 : List Int) (y_1015 : List TGlyph) : Nat → Int → (List TGlyph) → Option ((List TGlyph))
  | 0, _, _ => none
  | n + 1, i_1017, s_1018 =>
    if i_1017 < (l_2.length : Int) then (
      (atI l_2 i_1017).bind fun x_1021 =>
      (atI y_1015 (IntKind.i64.wrap (a_1 + x_1021))).bind fun x_1026 =>
      (atI s_1018 (IntKind.i64.wrap (a_1 + i_1017))).bind fun x_1031 =>
      buffer_Order_row_L2 N a_1 l_2 y_1015 n (IntKind.i64.wrap (i_1017 + 1)) (List.set s_1018 (IntKind.i64.wrap (a_1 + i_1017)).toNat x_1026)
    ) else (
      some s_1018
    )
def buffer_Order_row (N : Nat) (l_0 : List TGlyph) (a_1 : Int) (l_2 : List Int) : Option ((List TGlyph)) :=
  (buffer_Blocks_row N l_2).bind fun y_1 =>
  (slices_Clone_apiGlyphapiGlyph N l_0).bind fun y_3 =>
  if a_1 < 0 then (
    some y_3
  ) else (
    if (l_0.length : Int) < (l_2.length : Int) then (
      some y_3
    ) else (
      if IntKind.i64.wrap ((l_0.length : Int) - (l_2.length : Int)) < a_1 then (
        some y_3
      ) else (
        if (y_1.length : Int) = 0 then (
          some y_3
        ) else (
          (buffer_Order_row_L1 N a_1 y_1 l_2 N 0 y_3).bind fun y_1014 =>
          (slices_Clone_apiGlyphapiGlyph_row N y_1014).bind fun y_1015 =>
          (buffer_Order_row_L2 N a_1 l_2 y_1015 N 0 y_1014).bind fun y_2018 =>
          some y_2018
        )
      )
    )
  )
def ref17_Same_L1 (N : Nat) (l_0 : List TGlyph) (l_1 : List TGlyph) : Nat → Int → Option ((Unit) ⊕ (Unit))
  | 0, _ => none
  | n + 1, i_3 =>
    if i_3 < (l_0.length : Int) then (
      (atI l_0 i_3).bind fun x_6 =>
      (atI l_1 i_3).bind fun x_11 =>
      if x_6.Id = x_11.Id then (
        if x_6.Cluster = x_11.Cluster then (
          if x_6.Mask = x_11.Mask then (
            if x_6.Syl = x_11.Syl then (
              if x_6.Code = x_11.Code then (
                if x_6.Cat = x_11.Cat then (
                  if x_6.Pos = x_11.Pos then (
                    if x_6.Key = x_11.Key then (
                      if x_6.Lig = x_11.Lig then (
                        if x_6.Part = x_11.Part then (
                          if x_6.X = x_11.X then (
                            if x_6.Y = x_11.Y then (
                              if x_6.Wide = x_11.Wide then (
                                if x_6.High = x_11.High then (
                                  ref17_Same_L1 N l_0 l_1 n (IntKind.i64.wrap (i_3 + 1))
                                ) else (
                                  some (.inr ())
                                )
                              ) else (
                                some (.inr ())
                              )
                            ) else (
                              some (.inr ())
                            )
                          ) else (
                            some (.inr ())
                          )
                        ) else (
                          some (.inr ())
                        )
                      ) else (
                        some (.inr ())
                      )
                    ) else (
                      some (.inr ())
                    )
                  ) else (
                    some (.inr ())
                  )
                ) else (
                  some (.inr ())
                )
              ) else (
                some (.inr ())
              )
            ) else (
              some (.inr ())
            )
          ) else (
            some (.inr ())
          )
        ) else (
          some (.inr ())
        )
      ) else (
        some (.inr ())
      )
    ) else (
      some (.inl ())
    )
def ref17_Same (N : Nat) (l_0 : List TGlyph) (l_1 : List TGlyph) : Option (Bool) :=
  if (l_0.length : Int) = (l_1.length : Int) then (
    (ref17_Same_L1 N l_0 l_1 N 0).bind fun o_1004 => match o_1004 with
    | .inl _ => (
      some true
    )
    | .inr (_) => (
      some false
    )
  ) else (
    some false
  )
def buffer_Sort_1_row (N : Nat) (a_0 : Int) (a_1 : Int) (l_2 : List Int) : Option (Int) :=
  (atI l_2 a_0).bind fun x_1 =>
  (atI l_2 a_1).bind fun x_6 =>
  if x_1 < x_6 then (
    some (-1)
  ) else (
    if x_6 < x_1 then (
      some 1
    ) else (
      some 0
    )
  )
def slices_insertionSortCmpFunc_int_row_L2 (N : Nat) (a_1 : Int) (a_2 : Int) (i_1 : Int) (l_3 : List Int) : Nat → Int → (List Int) → Option ((List Int))
  | 0, _, _ => none
  | n + 1, i_5, s_6 =>
    if a_1 < i_5 then (
      (atI s_6 i_5).bind fun x_9 =>
      (atI s_6 (IntKind.i64.wrap (i_5 - 1))).bind fun x_14 =>
      (buffer_Sort_1_row N x_9 x_14 l_3).bind fun y_19 =>
      if y_19 < 0 then (
        (atI (List.set s_6 (i_5).toNat x_14) (IntKind.i64.wrap (i_5 - 1))).bind fun x_24 =>
        slices_insertionSortCmpFunc_int_row_L2 N a_1 a_2 i_1 l_3 n (IntKind.i64.wrap (i_5 - 1)) (List.set (List.set s_6 (i_5).toNat x_14) (IntKind.i64.wrap (i_5 - 1)).toNat x_9)
      ) else (
        some s_6
      )
    ) else (
      some s_6
    )
def slices_insertionSortCmpFunc_int_row_L3 (N : Nat) (a_1 : Int) (a_2 : Int) (l_3 : List Int) : Nat → Int → (List Int) → Option ((List Int))
  | 0, _, _ => none
  | n + 1, i_1, s_2 =>
    if i_1 < a_2 then (
      (slices_insertionSortCmpFunc_int_row_L2 N a_1 a_2 i_1 l_3 N i_1 s_2).bind fun y_1006 =>
      slices_insertionSortCmpFunc_int_row_L3 N a_1 a_2 l_3 n (IntKind.i64.wrap (i_1 + 1)) y_1006
    ) else (
      some s_2
    )
def slices_insertionSortCmpFunc_int_row (N : Nat) (l_0 : List Int) (a_1 : Int) (a_2 : Int) (l_3 : List Int) : Option ((List Int)) :=
  (slices_insertionSortCmpFunc_int_row_L3 N a_1 a_2 l_3 N (IntKind.i64.wrap (a_1 + 1)) l_0).bind fun y_1002 =>
  some y_1002
def slices_stableCmpFunc_int_row_L1 (N : Nat) (a_1 : Int) (l_2 : List Int) : Nat → Int → Int → (List Int) → Option (Int × (List Int))
  | 0, _, _, _ => none
  | n + 1, i_1, i_2, s_3 =>
    if i_2 ≤ a_1 then (
      (slices_insertionSortCmpFunc_int_row N s_3 i_1 i_2 l_2).bind fun y_6 =>
      if y_6.length = s_3.length then (
        slices_stableCmpFunc_int_row_L1 N a_1 l_2 n i_2 (IntKind.i64.wrap (i_2 + 20)) y_6
      ) else none
    ) else (
      some (i_1, s_3)
    )
def slices_swapRangeCmpFunc_int_row_L1 (N : Nat) (a_1 : Int) (a_2 : Int) (a_3 : Int) (l_4 : List Int) : Nat → Int → (List Int) → Option ((List Int))
  | 0, _, _ => none
  | n + 1, i_1, s_2 =>
    if i_1 < a_3 then (
      (atI s_2 (IntKind.i64.wrap (a_2 + i_1))).bind fun x_5 =>
      (atI s_2 (IntKind.i64.wrap (a_1 + i_1))).bind fun x_10 =>
      (atI (List.set s_2 (IntKind.i64.wrap (a_1 + i_1)).toNat x_5) (IntKind.i64.wrap (a_2 + i_1))).bind fun x_16 =>
      slices_swapRangeCmpFunc_int_row_L1 N a_1 a_2 a_3 l_4 n (IntKind.i64.wrap (i_1 + 1)) (List.set (List.set s_2 (IntKind.i64.wrap (a_1 + i_1)).toNat x_5) (IntKind.i64.wrap (a_2 + i_1)).toNat x_10)
    ) else (
      some s_2
    )
def slices_swapRangeCmpFunc_int_row (N : Nat) (l_0 : List Int) (a_1 : Int) (a_2 : Int) (a_3 : Int) (l_4 : List Int) : Option ((List Int)) :=
  (slices_swapRangeCmpFunc_int_row_L1 N a_1 a_2 a_3 l_4 N 0 l_0).bind fun y_1002 =>
  some y_1002
def slices_rotateCmpFunc_int_row_L1 (N : Nat) (a_2 : Int) (l_4 : List Int) : Nat → Int → Int → (List Int) → Option (Int × (List Int))
  | 0, _, _, _ => none
  | n + 1, i_1, i_2, s_3 =>
    if i_1 = i_2 then (
      some (i_1, s_3)
    ) else (
      if i_2 < i_1 then (
        (slices_swapRangeCmpFunc_int_row N s_3 (IntKind.i64.wrap (a_2 - i_1)) a_2 i_2 l_4).bind fun y_8 =>
        if y_8.length = s_3.length then (
          slices_rotateCmpFunc_int_row_L1 N a_2 l_4 n (IntKind.i64.wrap (i_1 - i_2)) i_2 y_8
        ) else none
      ) else (
        (slices_swapRangeCmpFunc_int_row N s_3 (IntKind.i64.wrap (a_2 - i_1)) (IntKind.i64.wrap ((IntKind.i64.wrap (a_2 + i_2)) - i_1)) i_1 l_4).bind fun y_11 =>
        if y_11.length = s_3.length then (
          slices_rotateCmpFunc_int_row_L1 N a_2 l_4 n i_1 (IntKind.i64.wrap (i_2 - i_1)) y_11
        ) else none
      )
    )
def slices_rotateCmpFunc_int_row (N : Nat) (l_0 : List Int) (a_1 : Int) (a_2 : Int) (a_3 : Int) (l_4 : List Int) : Option ((List Int)) :=
  (slices_rotateCmpFunc_int_row_L1 N a_2 l_4 N (IntKind.i64.wrap (a_2 - a_1)) (IntKind.i64.wrap (a_3 - a_2)) l_0).bind fun (y_1002, y_1003) =>
  (slices_swapRangeCmpFunc_int_row N y_1003 (IntKind.i64.wrap (a_2 - y_1002)) a_2 y_1002 l_4).bind fun y_1004 =>
  if y_1004.length = y_1003.length then (
    some y_1004
  ) else none
def slices_symMergeCmpFunc_int_row_L1 (N : Nat) (a_1 : Int) (l_0 : List Int) (l_4 : List Int) : Nat → Int → Int → Option (Int)
  | 0, _, _ => none
  | n + 1, i_3, i_4 =>
    if i_3 < i_4 then (
      (atI l_0 (IntKind.i64.wrap ((IntKind.u64.wrap (IntKind.i64.wrap (i_3 + i_4))).fdiv (2 ^ 1)))).bind fun x_8 =>
      (atI l_0 a_1).bind fun x_13 =>
      (buffer_Sort_1_row N x_8 x_13 l_4).bind fun y_18 =>
      if y_18 < 0 then (
        slices_symMergeCmpFunc_int_row_L1 N a_1 l_0 l_4 n (IntKind.i64.wrap ((IntKind.i64.wrap ((IntKind.u64.wrap (IntKind.i64.wrap (i_3 + i_4))).fdiv (2 ^ 1))) + 1)) i_4
      ) else (
        slices_symMergeCmpFunc_int_row_L1 N a_1 l_0 l_4 n i_3 (IntKind.i64.wrap ((IntKind.u64.wrap (IntKind.i64.wrap (i_3 + i_4))).fdiv (2 ^ 1)))
      )
    ) else (
      some i_3
    )
def slices_symMergeCmpFunc_int_row_L2 (N : Nat) (y_1004 : Int) (l_4 : List Int) : Nat → Int → (List Int) → Option ((List Int))
  | 0, _, _ => none
  | n + 1, i_1005, s_1006 =>
    if i_1005 < IntKind.i64.wrap (y_1004 - 1) then (
      (atI s_1006 (IntKind.i64.wrap (i_1005 + 1))).bind fun x_1009 =>
      (atI s_1006 i_1005).bind fun x_1014 =>
      (atI (List.set s_1006 (i_1005).toNat x_1009) (IntKind.i64.wrap (i_1005 + 1))).bind fun x_1020 =>
      slices_symMergeCmpFunc_int_row_L2 N y_1004 l_4 n (IntKind.i64.wrap (i_1005 + 1)) (List.set (List.set s_1006 (i_1005).toNat x_1009) (IntKind.i64.wrap (i_1005 + 1)).toNat x_1014)
    ) else (
      some s_1006
    )
def slices_symMergeCmpFunc_int_row_L3 (N : Nat) (a_2 : Int) (l_0 : List Int) (l_4 : List Int) : Nat → Int → Int → Option (Int)
  | 0, _, _ => none
  | n + 1, i_2009, i_2010 =>
    if i_2009 < i_2010 then (
      (atI l_0 a_2).bind fun x_2014 =>
      (atI l_0 (IntKind.i64.wrap ((IntKind.u64.wrap (IntKind.i64.wrap (i_2009 + i_2010))).fdiv (2 ^ 1)))).bind fun x_2019 =>
      (buffer_Sort_1_row N x_2014 x_2019 l_4).bind fun y_2024 =>
      if y_2024 < 0 then (
        slices_symMergeCmpFunc_int_row_L3 N a_2 l_0 l_4 n i_2009 (IntKind.i64.wrap ((IntKind.u64.wrap (IntKind.i64.wrap (i_2009 + i_2010))).fdiv (2 ^ 1)))
      ) else (
        slices_symMergeCmpFunc_int_row_L3 N a_2 l_0 l_4 n (IntKind.i64.wrap ((IntKind.i64.wrap ((IntKind.u64.wrap (IntKind.i64.wrap (i_2009 + i_2010))).fdiv (2 ^ 1))) + 1)) i_2010
      )
    ) else (
      some i_2009
    )
def slices_symMergeCmpFunc_int_row_L4 (N : Nat) (y_3010 : Int) (l_4 : List Int) : Nat → Int → (List Int) → Option ((List Int))
  | 0, _, _ => none
  | n + 1, i_3011, s_3012 =>
    if y_3010 < i_3011 then (
      (atI s_3012 (IntKind.i64.wrap (i_3011 - 1))).bind fun x_3015 =>
      (atI s_3012 i_3011).bind fun x_3020 =>
      (atI (List.set s_3012 (i_3011).toNat x_3015) (IntKind.i64.wrap (i_3011 - 1))).bind fun x_3026 =>
      slices_symMergeCmpFunc_int_row_L4 N y_3010 l_4 n (IntKind.i64.wrap (i_3011 - 1)) (List.set (List.set s_3012 (i_3011).toNat x_3015) (IntKind.i64.wrap (i_3011 - 1)).toNat x_3020)
    ) else (
      some s_3012
    )
def slices_symMergeCmpFunc_int_row_L5 (N : Nat) (a_1 : Int) (a_2 : Int) (a_3 : Int) (l_0 : List Int) (l_4 : List Int) : Nat → Int → Int → Option (Int)
  | 0, _, _ => none
  | n + 1, i_4016, i_4017 =>
    if i_4016 < i_4017 then (
      (atI l_0 (IntKind.i64.wrap ((IntKind.i64.wrap ((IntKind.i64.wrap ((IntKind.i64.wrap ((IntKind.u64.wrap (IntKind.i64.wrap (a_1 + a_3))).fdiv (2 ^ 1))) + a_2)) - 1)) - (IntKind.i64.wrap ((IntKind.u64.wrap (IntKind.i64.wrap (i_4016 + i_4017))).fdiv (2 ^ 1)))))).bind fun x_4021 =>
      (atI l_0 (IntKind.i64.wrap ((IntKind.u64.wrap (IntKind.i64.wrap (i_4016 + i_4017))).fdiv (2 ^ 1)))).bind fun x_4026 =>
      (buffer_Sort_1_row N x_4021 x_4026 l_4).bind fun y_4031 =>
      if y_4031 < 0 then (
        slices_symMergeCmpFunc_int_row_L5 N a_1 a_2 a_3 l_0 l_4 n i_4016 (IntKind.i64.wrap ((IntKind.u64.wrap (IntKind.i64.wrap (i_4016 + i_4017))).fdiv (2 ^ 1)))
      ) else (
        slices_symMergeCmpFunc_int_row_L5 N a_1 a_2 a_3 l_0 l_4 n (IntKind.i64.wrap ((IntKind.i64.wrap ((IntKind.u64.wrap (IntKind.i64.wrap (i_4016 + i_4017))).fdiv (2 ^ 1))) + 1)) i_4017
      )
    ) else (
      some i_4016
    )
def slices_symMergeCmpFunc_int_row (N : Nat) : Nat → (List Int) → Int → Int → Int → (List Int) → Option ((List Int))
  | 0, _, _, _, _, _ => none
  | n + 1, l_0, a_1, a_2, a_3, l_4 =>
    if IntKind.i64.wrap (a_2 - a_1) = 1 then (
      (slices_symMergeCmpFunc_int_row_L1 N a_1 l_0 l_4 N a_2 a_3).bind fun y_1004 =>
      (slices_symMergeCmpFunc_int_row_L2 N y_1004 l_4 N a_1 l_0).bind fun y_2006 =>
      some y_2006
    ) else (
      if IntKind.i64.wrap (a_3 - a_2) = 1 then (
        (slices_symMergeCmpFunc_int_row_L3 N a_2 l_0 l_4 N a_1 a_2).bind fun y_3010 =>
        (slices_symMergeCmpFunc_int_row_L4 N y_3010 l_4 N a_2 l_0).bind fun y_4012 =>
        some y_4012
      ) else (
        if IntKind.i64.wrap ((IntKind.u64.wrap (IntKind.i64.wrap (a_1 + a_3))).fdiv (2 ^ 1)) < a_2 then (
          (slices_symMergeCmpFunc_int_row_L5 N a_1 a_2 a_3 l_0 l_4 N (IntKind.i64.wrap ((IntKind.i64.wrap ((IntKind.i64.wrap ((IntKind.u64.wrap (IntKind.i64.wrap (a_1 + a_3))).fdiv (2 ^ 1))) + a_2)) - a_3)) (IntKind.i64.wrap ((IntKind.u64.wrap (IntKind.i64.wrap (a_1 + a_3))).fdiv (2 ^ 1)))).bind fun y_5017 =>
          if y_5017 < a_2 then (
            if a_2 < IntKind.i64.wrap ((IntKind.i64.wrap ((IntKind.i64.wrap ((IntKind.u64.wrap (IntKind.i64.wrap (a_1 + a_3))).fdiv (2 ^ 1))) + a_2)) - y_5017) then (
              (slices_rotateCmpFunc_int_row N l_0 y_5017 a_2 (IntKind.i64.wrap ((IntKind.i64.wrap ((IntKind.i64.wrap ((IntKind.u64.wrap (IntKind.i64.wrap (a_1 + a_3))).fdiv (2 ^ 1))) + a_2)) - y_5017)) l_4).bind fun y_5022 =>
              if y_5022.length = l_0.length then (
                if a_1 < y_5017 then (
                  if y_5017 < IntKind.i64.wrap ((IntKind.u64.wrap (IntKind.i64.wrap (a_1 + a_3))).fdiv (2 ^ 1)) then (
                    (slices_symMergeCmpFunc_int_row N n y_5022 a_1 y_5017 (IntKind.i64.wrap ((IntKind.u64.wrap (IntKind.i64.wrap (a_1 + a_3))).fdiv (2 ^ 1))) l_4).bind fun y_5029 =>
                    if y_5029.length = l_0.length then (
                      if IntKind.i64.wrap ((IntKind.u64.wrap (IntKind.i64.wrap (a_1 + a_3))).fdiv (2 ^ 1)) < IntKind.i64.wrap ((IntKind.i64.wrap ((IntKind.i64.wrap ((IntKind.u64.wrap (IntKind.i64.wrap (a_1 + a_3))).fdiv (2 ^ 1))) + a_2)) - y_5017) then (
                        if IntKind.i64.wrap ((IntKind.i64.wrap ((IntKind.i64.wrap ((IntKind.u64.wrap (IntKind.i64.wrap (a_1 + a_3))).fdiv (2 ^ 1))) + a_2)) - y_5017) < a_3 then (
                          (slices_symMergeCmpFunc_int_row N n y_5029 (IntKind.i64.wrap ((IntKind.u64.wrap (IntKind.i64.wrap (a_1 + a_3))).fdiv (2 ^ 1))) (IntKind.i64.wrap ((IntKind.i64.wrap ((IntKind.i64.wrap ((IntKind.u64.wrap (IntKind.i64.wrap (a_1 + a_3))).fdiv (2 ^ 1))) + a_2)) - y_5017)) a_3 l_4).bind fun y_5036 =>
                          if y_5036.length = l_0.length then (
                            some y_5036
                          ) else none
                        ) else (
                          some y_5029
                        )
                      ) else (
                        some y_5029
                      )
                    ) else none
                  ) else (
                    if IntKind.i64.wrap ((IntKind.u64.wrap (IntKind.i64.wrap (a_1 + a_3))).fdiv (2 ^ 1)) < IntKind.i64.wrap ((IntKind.i64.wrap ((IntKind.i64.wrap ((IntKind.u64.wrap (IntKind.i64.wrap (a_1 + a_3))).fdiv (2 ^ 1))) + a_2)) - y_5017) then (
                      if IntKind.i64.wrap ((IntKind.i64.wrap ((IntKind.i64.wrap ((IntKind.u64.wrap (IntKind.i64.wrap (a_1 + a_3))).fdiv (2 ^ 1))) + a_2)) - y_5017) < a_3 then (
                        (slices_symMergeCmpFunc_int_row N n y_5022 (IntKind.i64.wrap ((IntKind.u64.wrap (IntKind.i64.wrap (a_1 + a_3))).fdiv (2 ^ 1))) (IntKind.i64.wrap ((IntKind.i64.wrap ((IntKind.i64.wrap ((IntKind.u64.wrap (IntKind.i64.wrap (a_1 + a_3))).fdiv (2 ^ 1))) + a_2)) - y_5017)) a_3 l_4).bind fun y_5043 =>
                        if y_5043.length = l_0.length then (
                          some y_5043
                        ) else none
                      ) else (
                        some y_5022
                      )
                    ) else (
                      some y_5022
                    )
                  )
                ) else (
                  if IntKind.i64.wrap ((IntKind.u64.wrap (IntKind.i64.wrap (a_1 + a_3))).fdiv (2 ^ 1)) < IntKind.i64.wrap ((IntKind.i64.wrap ((IntKind.i64.wrap ((IntKind.u64.wrap (IntKind.i64.wrap (a_1 + a_3))).fdiv (2 ^ 1))) + a_2)) - y_5017) then (
                    if IntKind.i64.wrap ((IntKind.i64.wrap ((IntKind.i64.wrap ((IntKind.u64.wrap (IntKind.i64.wrap (a_1 + a_3))).fdiv (2 ^ 1))) + a_2)) - y_5017) < a_3 then (
                      (slices_symMergeCmpFunc_int_row N n y_5022 (IntKind.i64.wrap ((IntKind.u64.wrap (IntKind.i64.wrap (a_1 + a_3))).fdiv (2 ^ 1))) (IntKind.i64.wrap ((IntKind.i64.wrap ((IntKind.i64.wrap ((IntKind.u64.wrap (IntKind.i64.wrap (a_1 + a_3))).fdiv (2 ^ 1))) + a_2)) - y_5017)) a_3 l_4).bind fun y_5050 =>
                      if y_5050.length = l_0.length then (
                        some y_5050
                      ) else none
                    ) else (
                      some y_5022
                    )
                  ) else (
                    some y_5022
                  )
                )
              ) else none
            ) else (
              if a_1 < y_5017 then (
                if y_5017 < IntKind.i64.wrap ((IntKind.u64.wrap (IntKind.i64.wrap (a_1 + a_3))).fdiv (2 ^ 1)) then (
                  (slices_symMergeCmpFunc_int_row N n l_0 a_1 y_5017 (IntKind.i64.wrap ((IntKind.u64.wrap (IntKind.i64.wrap (a_1 + a_3))).fdiv (2 ^ 1))) l_4).bind fun y_5057 =>
                  if y_5057.length = l_0.length then (
                    if IntKind.i64.wrap ((IntKind.u64.wrap (IntKind.i64.wrap (a_1 + a_3))).fdiv (2 ^ 1)) < IntKind.i64.wrap ((IntKind.i64.wrap ((IntKind.i64.wrap ((IntKind.u64.wrap (IntKind.i64.wrap (a_1 + a_3))).fdiv (2 ^ 1))) + a_2)) - y_5017) then (
                      if IntKind.i64.wrap ((IntKind.i64.wrap ((IntKind.i64.wrap ((IntKind.u64.wrap (IntKind.i64.wrap (a_1 + a_3))).fdiv (2 ^ 1))) + a_2)) - y_5017) < a_3 then (
                        (slices_symMergeCmpFunc_int_row N n y_5057 (IntKind.i64.wrap ((IntKind.u64.wrap (IntKind.i64.wrap (a_1 + a_3))).fdiv (2 ^ 1))) (IntKind.i64.wrap ((IntKind.i64.wrap ((IntKind.i64.wrap ((IntKind.u64.wrap (IntKind.i64.wrap (a_1 + a_3))).fdiv (2 ^ 1))) + a_2)) - y_5017)) a_3 l_4).bind fun y_5064 =>
                        if y_5064.length = l_0.length then (
                          some y_5064
                        ) else none
                      ) else (
                        some y_5057
                      )
                    ) else (
                      some y_5057
                    )
                  ) else none
                ) else (
                  if IntKind.i64.wrap ((IntKind.u64.wrap (IntKind.i64.wrap (a_1 + a_3))).fdiv (2 ^ 1)) < IntKind.i64.wrap ((IntKind.i64.wrap ((IntKind.i64.wrap ((IntKind.u64.wrap (IntKind.i64.wrap (a_1 + a_3))).fdiv (2 ^ 1))) + a_2)) - y_5017) then (
                    if IntKind.i64.wrap ((IntKind.i64.wrap ((IntKind.i64.wrap ((IntKind.u64.wrap (IntKind.i64.wrap (a_1 + a_3))).fdiv (2 ^ 1))) + a_2)) - y_5017) < a_3 then (
                      (slices_symMergeCmpFunc_int_row N n l_0 (IntKind.i64.wrap ((IntKind.u64.wrap (IntKind.i64.wrap (a_1 + a_3))).fdiv (2 ^ 1))) (IntKind.i64.wrap ((IntKind.i64.wrap ((IntKind.i64.wrap ((IntKind.u64.wrap (IntKind.i64.wrap (a_1 + a_3))).fdiv (2 ^ 1))) + a_2)) - y_5017)) a_3 l_4).bind fun y_5071 =>
                      if y_5071.length = l_0.length then (
                        some y_5071
                      ) else none
                    ) else (
                      some l_0
                    )
                  ) else (
                    some l_0
                  )
                )
              ) else (
                if IntKind.i64.wrap ((IntKind.u64.wrap (IntKind.i64.wrap (a_1 + a_3))).fdiv (2 ^ 1)) < IntKind.i64.wrap ((IntKind.i64.wrap ((IntKind.i64.wrap ((IntKind.u64.wrap (IntKind.i64.wrap (a_1 + a_3))).fdiv (2 ^ 1))) + a_2)) - y_5017) then (
                  if IntKind.i64.wrap ((IntKind.i64.wrap ((IntKind.i64.wrap ((IntKind.u64.wrap (IntKind.i64.wrap (a_1 + a_3))).fdiv (2 ^ 1))) + a_2)) - y_5017) < a_3 then (
                    (slices_symMergeCmpFunc_int_row N n l_0 (IntKind.i64.wrap ((IntKind.u64.wrap (IntKind.i64.wrap (a_1 + a_3))).fdiv (2 ^ 1))) (IntKind.i64.wrap ((IntKind.i64.wrap ((IntKind.i64.wrap ((IntKind.u64.wrap (IntKind.i64.wrap (a_1 + a_3))).fdiv (2 ^ 1))) + a_2)) - y_5017)) a_3 l_4).bind fun y_5078 =>
                    if y_5078.length = l_0.length then (
                      some y_5078
                    ) else none
                  ) else (
                    some l_0
                  )
                ) else (
                  some l_0
                )
              )
            )
          ) else (
            if a_1 < y_5017 then (
              if y_5017 < IntKind.i64.wrap ((IntKind.u64.wrap (IntKind.i64.wrap (a_1 + a_3))).fdiv (2 ^ 1)) then (
                (slices_symMergeCmpFunc_int_row N n l_0 a_1 y_5017 (IntKind.i64.wrap ((IntKind.u64.wrap (IntKind.i64.wrap (a_1 + a_3))).fdiv (2 ^ 1))) l_4).bind fun y_5085 =>
                if y_5085.length = l_0.length then (
                  if IntKind.i64.wrap ((IntKind.u64.wrap (IntKind.i64.wrap (a_1 + a_3))).fdiv (2 ^ 1)) < IntKind.i64.wrap ((IntKind.i64.wrap ((IntKind.i64.wrap ((IntKind.u64.wrap (IntKind.i64.wrap (a_1 + a_3))).fdiv (2 ^ 1))) + a_2)) - y_5017) then (
                    if IntKind.i64.wrap ((IntKind.i64.wrap ((IntKind.i64.wrap ((IntKind.u64.wrap (IntKind.i64.wrap (a_1 + a_3))).fdiv (2 ^ 1))) + a_2)) - y_5017) < a_3 then (
                      (slices_symMergeCmpFunc_int_row N n y_5085 (IntKind.i64.wrap ((IntKind.u64.wrap (IntKind.i64.wrap (a_1 + a_3))).fdiv (2 ^ 1))) (IntKind.i64.wrap ((IntKind.i64.wrap ((IntKind.i64.wrap ((IntKind.u64.wrap (IntKind.i64.wrap (a_1 + a_3))).fdiv (2 ^ 1))) + a_2)) - y_5017)) a_3 l_4).bind fun y_5092 =>
                      if y_5092.length = l_0.length then (
                        some y_5092
                      ) else none
                    ) else (
                      some y_5085
                    )
                  ) else (
                    some y_5085
                  )
                ) else none
              ) else (
                if IntKind.i64.wrap ((IntKind.u64.wrap (IntKind.i64.wrap (a_1 + a_3))).fdiv (2 ^ 1)) < IntKind.i64.wrap ((IntKind.i64.wrap ((IntKind.i64.wrap ((IntKind.u64.wrap (IntKind.i64.wrap (a_1 + a_3))).fdiv (2 ^ 1))) + a_2)) - y_5017) then (
                  if IntKind.i64.wrap ((IntKind.i64.wrap ((IntKind.i64.wrap ((IntKind.u64.wrap (IntKind.i64.wrap (a_1 + a_3))).fdiv (2 ^ 1))) + a_2)) - y_5017) < a_3 then (
                    (slices_symMergeCmpFunc_int_row N n l_0 (IntKind.i64.wrap ((IntKind.u64.wrap (IntKind.i64.wrap (a_1 + a_3))).fdiv (2 ^ 1))) (IntKind.i64.wrap ((IntKind.i64.wrap ((IntKind.i64.wrap ((IntKind.u64.wrap (IntKind.i64.wrap (a_1 + a_3))).fdiv (2 ^ 1))) + a_2)) - y_5017)) a_3 l_4).bind fun y_5099 =>
                    if y_5099.length = l_0.length then (
                      some y_5099
                    ) else none
                  ) else (
                    some l_0
                  )
                ) else (
                  some l_0
                )
              )
            ) else (
              if IntKind.i64.wrap ((IntKind.u64.wrap (IntKind.i64.wrap (a_1 + a_3))).fdiv (2 ^ 1)) < IntKind.i64.wrap ((IntKind.i64.wrap ((IntKind.i64.wrap ((IntKind.u64.wrap (IntKind.i64.wrap (a_1 + a_3))).fdiv (2 ^ 1))) + a_2)) - y_5017) then (
                if IntKind.i64.wrap ((IntKind.i64.wrap ((IntKind.i64.wrap ((IntKind.u64.wrap (IntKind.i64.wrap (a_1 + a_3))).fdiv (2 ^ 1))) + a_2)) - y_5017) < a_3 then (
                  (slices_symMergeCmpFunc_int_row N n l_0 (IntKind.i64.wrap ((IntKind.u64.wrap (IntKind.i64.wrap (a_1 + a_3))).fdiv (2 ^ 1))) (IntKind.i64.wrap ((IntKind.i64.wrap ((IntKind.i64.wrap ((IntKind.u64.wrap (IntKind.i64.wrap (a_1 + a_3))).fdiv (2 ^ 1))) + a_2)) - y_5017)) a_3 l_4).bind fun y_5106 =>
                  if y_5106.length = l_0.length then (
                    some y_5106
                  ) else none
                ) else (
                  some l_0
                )
              ) else (
                some l_0
              )
            )
          )
        ) else (
          (slices_symMergeCmpFunc_int_row_L5 N a_1 a_2 a_3 l_0 l_4 N a_1 a_2).bind fun y_6110 =>
          if y_6110 < a_2 then (
            if a_2 < IntKind.i64.wrap ((IntKind.i64.wrap ((IntKind.i64.wrap ((IntKind.u64.wrap (IntKind.i64.wrap (a_1 + a_3))).fdiv (2 ^ 1))) + a_2)) - y_6110) then (
              (slices_rotateCmpFunc_int_row N l_0 y_6110 a_2 (IntKind.i64.wrap ((IntKind.i64.wrap ((IntKind.i64.wrap ((IntKind.u64.wrap (IntKind.i64.wrap (a_1 + a_3))).fdiv (2 ^ 1))) + a_2)) - y_6110)) l_4).bind fun y_6115 =>
              if y_6115.length = l_0.length then (
                if a_1 < y_6110 then (
                  if y_6110 < IntKind.i64.wrap ((IntKind.u64.wrap (IntKind.i64.wrap (a_1 + a_3))).fdiv (2 ^ 1)) then (
                    (slices_symMergeCmpFunc_int_row N n y_6115 a_1 y_6110 (IntKind.i64.wrap ((IntKind.u64.wrap (IntKind.i64.wrap (a_1 + a_3))).fdiv (2 ^ 1))) l_4).bind fun y_6122 =>
                    if y_6122.length = l_0.length then (
                      if IntKind.i64.wrap ((IntKind.u64.wrap (IntKind.i64.wrap (a_1 + a_3))).fdiv (2 ^ 1)) < IntKind.i64.wrap ((IntKind.i64.wrap ((IntKind.i64.wrap ((IntKind.u64.wrap (IntKind.i64.wrap (a_1 + a_3))).fdiv (2 ^ 1))) + a_2)) - y_6110) then (
                        if IntKind.i64.wrap ((IntKind.i64.wrap ((IntKind.i64.wrap ((IntKind.u64.wrap (IntKind.i64.wrap (a_1 + a_3))).fdiv (2 ^ 1))) + a_2)) - y_6110) < a_3 then (
                          (slices_symMergeCmpFunc_int_row N n y_6122 (IntKind.i64.wrap ((IntKind.u64.wrap (IntKind.i64.wrap (a_1 + a_3))).fdiv (2 ^ 1))) (IntKind.i64.wrap ((IntKind.i64.wrap ((IntKind.i64.wrap ((IntKind.u64.wrap (IntKind.i64.wrap (a_1 + a_3))).fdiv (2 ^ 1))) + a_2)) - y_6110)) a_3 l_4).bind fun y_6129 =>
                          if y_6129.length = l_0.length then (
                            some y_6129
                          ) else none
                        ) else (
                          some y_6122
                        )
                      ) else (
                        some y_6122
                      )
                    ) else none
                  ) else (
                    if IntKind.i64.wrap ((IntKind.u64.wrap (IntKind.i64.wrap (a_1 + a_3))).fdiv (2 ^ 1)) < IntKind.i64.wrap ((IntKind.i64.wrap ((IntKind.i64.wrap ((IntKind.u64.wrap (IntKind.i64.wrap (a_1 + a_3))).fdiv (2 ^ 1))) + a_2)) - y_6110) then (
                      if IntKind.i64.wrap ((IntKind.i64.wrap ((IntKind.i64.wrap ((IntKind.u64.wrap (IntKind.i64.wrap (a_1 + a_3))).fdiv (2 ^ 1))) + a_2)) - y_6110) < a_3 then (
                        (slices_symMergeCmpFunc_int_row N n y_6115 (IntKind.i64.wrap ((IntKind.u64.wrap (IntKind.i64.wrap (a_1 + a_3))).fdiv (2 ^ 1))) (IntKind.i64.wrap ((IntKind.i64.wrap ((IntKind.i64.wrap ((IntKind.u64.wrap (IntKind.i64.wrap (a_1 + a_3))).fdiv (2 ^ 1))) + a_2)) - y_6110)) a_3 l_4).bind fun y_6136 =>
                        if y_6136.length = l_0.length then (
                          some y_6136
                        ) else none
                      ) else (
                        some y_6115
                      )
                    ) else (
                      some y_6115
                    )
                  )
                ) else (
                  if IntKind.i64.wrap ((IntKind.u64.wrap (IntKind.i64.wrap (a_1 + a_3))).fdiv (2 ^ 1)) < IntKind.i64.wrap ((IntKind.i64.wrap ((IntKind.i64.wrap ((IntKind.u64.wrap (IntKind.i64.wrap (a_1 + a_3))).fdiv (2 ^ 1))) + a_2)) - y_6110) then (
                    if IntKind.i64.wrap ((IntKind.i64.wrap ((IntKind.i64.wrap ((IntKind.u64.wrap (IntKind.i64.wrap (a_1 + a_3))).fdiv (2 ^ 1))) + a_2)) - y_6110) < a_3 then (
                      (slices_symMergeCmpFunc_int_row N n y_6115 (IntKind.i64.wrap ((IntKind.u64.wrap (IntKind.i64.wrap (a_1 + a_3))).fdiv (2 ^ 1))) (IntKind.i64.wrap ((IntKind.i64.wrap ((IntKind.i64.wrap ((IntKind.u64.wrap (IntKind.i64.wrap (a_1 + a_3))).fdiv (2 ^ 1))) + a_2)) - y_6110)) a_3 l_4).bind fun y_6143 =>
                      if y_6143.length = l_0.length then (
                        some y_6143
                      ) else none
                    ) else (
                      some y_6115
                    )
                  ) else (
                    some y_6115
                  )
                )
              ) else none
            ) else (
              if a_1 < y_6110 then (
                if y_6110 < IntKind.i64.wrap ((IntKind.u64.wrap (IntKind.i64.wrap (a_1 + a_3))).fdiv (2 ^ 1)) then (
                  (slices_symMergeCmpFunc_int_row N n l_0 a_1 y_6110 (IntKind.i64.wrap ((IntKind.u64.wrap (IntKind.i64.wrap (a_1 + a_3))).fdiv (2 ^ 1))) l_4).bind fun y_6150 =>
                  if y_6150.length = l_0.length then (
                    if IntKind.i64.wrap ((IntKind.u64.wrap (IntKind.i64.wrap (a_1 + a_3))).fdiv (2 ^ 1)) < IntKind.i64.wrap ((IntKind.i64.wrap ((IntKind.i64.wrap ((IntKind.u64.wrap (IntKind.i64.wrap (a_1 + a_3))).fdiv (2 ^ 1))) + a_2)) - y_6110) then (
                      if IntKind.i64.wrap ((IntKind.i64.wrap ((IntKind.i64.wrap ((IntKind.u64.wrap (IntKind.i64.wrap (a_1 + a_3))).fdiv (2 ^ 1))) + a_2)) - y_6110) < a_3 then (
                        (slices_symMergeCmpFunc_int_row N n y_6150 (IntKind.i64.wrap ((IntKind.u64.wrap (IntKind.i64.wrap (a_1 + a_3))).fdiv (2 ^ 1))) (IntKind.i64.wrap ((IntKind.i64.wrap ((IntKind.i64.wrap ((IntKind.u64.wrap (IntKind.i64.wrap (a_1 + a_3))).fdiv (2 ^ 1))) + a_2)) - y_6110)) a_3 l_4).bind fun y_6157 =>
                        if y_6157.length = l_0.length then (
                          some y_6157
                        ) else none
                      ) else (
                        some y_6150
                      )
                    ) else (
                      some y_6150
                    )
                  ) else none
                ) else (
                  if IntKind.i64.wrap ((IntKind.u64.wrap (IntKind.i64.wrap (a_1 + a_3))).fdiv (2 ^ 1)) < IntKind.i64.wrap ((IntKind.i64.wrap ((IntKind.i64.wrap ((IntKind.u64.wrap (IntKind.i64.wrap (a_1 + a_3))).fdiv (2 ^ 1))) + a_2)) - y_6110) then (
                    if IntKind.i64.wrap ((IntKind.i64.wrap ((IntKind.i64.wrap ((IntKind.u64.wrap (IntKind.i64.wrap (a_1 + a_3))).fdiv (2 ^ 1))) + a_2)) - y_6110) < a_3 then (
                      (slices_symMergeCmpFunc_int_row N n l_0 (IntKind.i64.wrap ((IntKind.u64.wrap (IntKind.i64.wrap (a_1 + a_3))).fdiv (2 ^ 1))) (IntKind.i64.wrap ((IntKind.i64.wrap ((IntKind.i64.wrap ((IntKind.u64.wrap (IntKind.i64.wrap (a_1 + a_3))).fdiv (2 ^ 1))) + a_2)) - y_6110)) a_3 l_4).bind fun y_6164 =>
                      if y_6164.length = l_0.length then (
                        some y_6164
                      ) else none
                    ) else (
                      some l_0
                    )
                  ) else (
                    some l_0
                  )
                )
              ) else (
                if IntKind.i64.wrap ((IntKind.u64.wrap (IntKind.i64.wrap (a_1 + a_3))).fdiv (2 ^ 1)) < IntKind.i64.wrap ((IntKind.i64.wrap ((IntKind.i64.wrap ((IntKind.u64.wrap (IntKind.i64.wrap (a_1 + a_3))).fdiv (2 ^ 1))) + a_2)) - y_6110) then (
                  if IntKind.i64.wrap ((IntKind.i64.wrap ((IntKind.i64.wrap ((IntKind.u64.wrap (IntKind.i64.wrap (a_1 + a_3))).fdiv (2 ^ 1))) + a_2)) - y_6110) < a_3 then (
                    (slices_symMergeCmpFunc_int_row N n l_0 (IntKind.i64.wrap ((IntKind.u64.wrap (IntKind.i64.wrap (a_1 + a_3))).fdiv (2 ^ 1))) (IntKind.i64.wrap ((IntKind.i64.wrap ((IntKind.i64.wrap ((IntKind.u64.wrap (IntKind.i64.wrap (a_1 + a_3))).fdiv (2 ^ 1))) + a_2)) - y_6110)) a_3 l_4).bind fun y_6171 =>
                    if y_6171.length = l_0.length then (
                      some y_6171
                    ) else none
                  ) else (
                    some l_0
                  )
                ) else (
                  some l_0
                )
              )
            )
          ) else (
            if a_1 < y_6110 then (
              if y_6110 < IntKind.i64.wrap ((IntKind.u64.wrap (IntKind.i64.wrap (a_1 + a_3))).fdiv (2 ^ 1)) then (
                (slices_symMergeCmpFunc_int_row N n l_0 a_1 y_6110 (IntKind.i64.wrap ((IntKind.u64.wrap (IntKind.i64.wrap (a_1 + a_3))).fdiv (2 ^ 1))) l_4).bind fun y_6178 =>
                if y_6178.length = l_0.length then (
                  if IntKind.i64.wrap ((IntKind.u64.wrap (IntKind.i64.wrap (a_1 + a_3))).fdiv (2 ^ 1)) < IntKind.i64.wrap ((IntKind.i64.wrap ((IntKind.i64.wrap ((IntKind.u64.wrap (IntKind.i64.wrap (a_1 + a_3))).fdiv (2 ^ 1))) + a_2)) - y_6110) then (
                    if IntKind.i64.wrap ((IntKind.i64.wrap ((IntKind.i64.wrap ((IntKind.u64.wrap (IntKind.i64.wrap (a_1 + a_3))).fdiv (2 ^ 1))) + a_2)) - y_6110) < a_3 then (
                      (slices_symMergeCmpFunc_int_row N n y_6178 (IntKind.i64.wrap ((IntKind.u64.wrap (IntKind.i64.wrap (a_1 + a_3))).fdiv (2 ^ 1))) (IntKind.i64.wrap ((IntKind.i64.wrap ((IntKind.i64.wrap ((IntKind.u64.wrap (IntKind.i64.wrap (a_1 + a_3))).fdiv (2 ^ 1))) + a_2)) - y_6110)) a_3 l_4).bind fun y_6185 =>
                      if y_6185.length = l_0.length then (
                        some y_6185
                      ) else none
                    ) else (
                      some y_6178
                    )
                  ) else (
                    some y_6178
                  )
                ) else none
              ) else (
                if IntKind.i64.wrap ((IntKind.u64.wrap (IntKind.i64.wrap (a_1 + a_3))).fdiv (2 ^ 1)) < IntKind.i64.wrap ((IntKind.i64.wrap ((IntKind.i64.wrap ((IntKind.u64.wrap (IntKind.i64.wrap (a_1 + a_3))).fdiv (2 ^ 1))) + a_2)) - y_6110) then (
                  if IntKind.i64.wrap ((IntKind.i64.wrap ((IntKind.i64.wrap ((IntKind.u64.wrap (IntKind.i64.wrap (a_1 + a_3))).fdiv (2 ^ 1))) + a_2)) - y_6110) < a_3 then (
                    (slices_symMergeCmpFunc_int_row N n l_0 (IntKind.i64.wrap ((IntKind.u64.wrap (IntKind.i64.wrap (a_1 + a_3))).fdiv (2 ^ 1))) (IntKind.i64.wrap ((IntKind.i64.wrap ((IntKind.i64.wrap ((IntKind.u64.wrap (IntKind.i64.wrap (a_1 + a_3))).fdiv (2 ^ 1))) + a_2)) - y_6110)) a_3 l_4).bind fun y_6192 =>
                    if y_6192.length = l_0.length then (
                      some y_6192
                    ) else none
                  ) else (
                    some l_0
                  )
                ) else (
                  some l_0
                )
              )
            ) else (
              if IntKind.i64.wrap ((IntKind.u64.wrap (IntKind.i64.wrap (a_1 + a_3))).fdiv (2 ^ 1)) < IntKind.i64.wrap ((IntKind.i64.wrap ((IntKind.i64.wrap ((IntKind.u64.wrap (IntKind.i64.wrap (a_1 + a_3))).fdiv (2 ^ 1))) + a_2)) - y_6110) then (
                if IntKind.i64.wrap ((IntKind.i64.wrap ((IntKind.i64.wrap ((IntKind.u64.wrap (IntKind.i64.wrap (a_1 + a_3))).fdiv (2 ^ 1))) + a_2)) - y_6110) < a_3 then (
                  (slices_symMergeCmpFunc_int_row N n l_0 (IntKind.i64.wrap ((IntKind.u64.wrap (IntKind.i64.wrap (a_1 + a_3))).fdiv (2 ^ 1))) (IntKind.i64.wrap ((IntKind.i64.wrap ((IntKind.i64.wrap ((IntKind.u64.wrap (IntKind.i64.wrap (a_1 + a_3))).fdiv (2 ^ 1))) + a_2)) - y_6110)) a_3 l_4).bind fun y_6199 =>
                  if y_6199.length = l_0.length then (
                    some y_6199
                  ) else none
                ) else (
                  some l_0
                )
              ) else (
                some l_0
              )
            )
          )
        )
      )
    )
def slices_stableCmpFunc_int_row_L3 (N : Nat) (a_1 : Int) (i_1007 : Int) (l_2 : List Int) : Nat → Int → Int → (List Int) → Option (Int × (List Int))
  | 0, _, _, _ => none
  | n + 1, i_1011, i_1012, s_1013 =>
    if i_1012 ≤ a_1 then (
      (slices_symMergeCmpFunc_int_row N N s_1013 i_1011 (IntKind.i64.wrap (i_1011 + i_1007)) i_1012 l_2).bind fun y_1016 =>
      if y_1016.length = s_1013.length then (
        slices_stableCmpFunc_int_row_L3 N a_1 i_1007 l_2 n i_1012 (IntKind.i64.wrap (i_1012 + (IntKind.i64.wrap (2 * i_1007)))) y_1016
      ) else none
    ) else (
      some (i_1011, s_1013)
    )
def slices_stableCmpFunc_int_row_L4 (N : Nat) (a_1 : Int) (l_2 : List Int) : Nat → Int → (List Int) → Option ((List Int))
  | 0, _, _ => none
  | n + 1, i_1007, s_1008 =>
    if i_1007 < a_1 then (
      (slices_stableCmpFunc_int_row_L3 N a_1 i_1007 l_2 N 0 (IntKind.i64.wrap (2 * i_1007)) s_1008).bind fun (y_2012, y_2013) =>
      if IntKind.i64.wrap (y_2012 + i_1007) < a_1 then (
        (slices_symMergeCmpFunc_int_row N N y_2013 y_2012 (IntKind.i64.wrap (y_2012 + i_1007)) a_1 l_2).bind fun y_2016 =>
        if y_2016.length = y_2013.length then (
          slices_stableCmpFunc_int_row_L4 N a_1 l_2 n (IntKind.i64.wrap (i_1007 * 2)) y_2016
        ) else none
      ) else (
        slices_stableCmpFunc_int_row_L4 N a_1 l_2 n (IntKind.i64.wrap (i_1007 * 2)) y_2013
      )
    ) else (
      some s_1008
    )
def slices_stableCmpFunc_int_row (N : Nat) (l_0 : List Int) (a_1 : Int) (l_2 : List Int) : Option ((List Int)) :=
  (slices_stableCmpFunc_int_row_L1 N a_1 l_2 N 0 20 l_0).bind fun (y_1002, y_1003) =>
  (slices_insertionSortCmpFunc_int_row N y_1003 y_1002 a_1 l_2).bind fun y_1004 =>
  if y_1004.length = y_1003.length then (
    (slices_stableCmpFunc_int_row_L4 N a_1 l_2 N 20 y_1004).bind fun y_2008 =>
    some y_2008
  ) else none
def slices_SortStableFunc_intint_row (N : Nat) (l_0 : List Int) (l_1 : List Int) : Option ((List Int)) :=
  (slices_stableCmpFunc_int_row N l_0 (l_0.length : Int) l_1).bind fun y_1 =>
  if y_1.length = l_0.length then (
    some y_1
  ) else none
def buffer_Sort_row_L1 (N : Nat) (l_0 : List TGlyph) (a_1 : Int) (l_3 : List Int) : Nat → Int → (List Int) → Option ((List Int))
  | 0, _, _ => none
  | n + 1, i_15, s_16 =>
    if i_15 < (l_3.length : Int) then (
      if (s_16.length + 1) * 8 ≤ 140737488355328 then (
        buffer_Sort_row_L1 N l_0 a_1 l_3 n (IntKind.i64.wrap (i_15 + 1)) (s_16 ++ [i_15])
      ) else none
    ) else (
      some s_16
    )
def buffer_Sort_row (N : Nat) (l_0 : List TGlyph) (a_1 : Int) (a_2 : Int) (l_3 : List Int) : Option ((List TGlyph)) :=
  if a_1 < 0 then (
    (slices_Clone_apiGlyphapiGlyph N l_0).bind fun y_3 =>
    some y_3
  ) else (
    if (l_0.length : Int) < a_2 then (
      (slices_Clone_apiGlyphapiGlyph N l_0).bind fun y_7 =>
      some y_7
    ) else (
      if a_2 < a_1 then (
        (slices_Clone_apiGlyphapiGlyph N l_0).bind fun y_11 =>
        some y_11
      ) else (
        if (l_3.length : Int) = IntKind.i64.wrap (a_2 - a_1) then (
          (buffer_Sort_row_L1 N l_0 a_1 l_3 N 0 ([])).bind fun y_1016 =>
          (slices_SortStableFunc_intint_row N y_1016 l_3).bind fun y_1017 =>
          if y_1017.length = y_1016.length then (
            (buffer_Order_row N l_0 a_1 y_1017).bind fun y_1020 =>
            some y_1020
          ) else none
        ) else (
          (slices_Clone_apiGlyphapiGlyph N l_0).bind fun y_1022 =>
          some y_1022
        )
      )
    )
  )
def law17_BufferStays (N : Nat) (l_0 : List TGlyph) (a_1 : Int) : Option (Bool) :=
  if 100 < (l_0.length : Int) then (
    some true
  ) else (
    (law17_BufferStays_L1 N l_0 a_1 N 0 ([]) ([])).bind fun (y_1004, y_1005) =>
    if 0 ≤ a_1 then (
      if a_1 < (l_0.length : Int) then (
        (atI l_0 a_1).bind fun x_1010 =>
        (buffer_Replace N l_0 a_1 1 ([x_1010.Id])).bind fun y_1015 =>
        (buffer_Order_row N l_0 0 y_1004).bind fun y_1017 =>
        (ref17_Same N y_1017 l_0).bind fun y_1019 =>
        if y_1019 = true then (
          (buffer_Sort_row N l_0 0 (l_0.length : Int) y_1005).bind fun y_1023 =>
          (ref17_Same N y_1023 l_0).bind fun y_1025 =>
          if y_1025 = true then (
            (ref17_Same N y_1015 l_0).bind fun y_1029 =>
            if y_1029 = true then (
              (buffer_Blocks_row N y_1004).bind fun y_1033 =>
              some (decide ((y_1033.length : Int) = (l_0.length : Int)))
            ) else (
              some false
            )
          ) else (
            some false
          )
        ) else (
          some false
        )
      ) else (
        (buffer_Order_row N l_0 0 y_1004).bind fun y_1035 =>
        (ref17_Same N y_1035 l_0).bind fun y_1037 =>
        if y_1037 = true then (
          (buffer_Sort_row N l_0 0 (l_0.length : Int) y_1005).bind fun y_1041 =>
          (ref17_Same N y_1041 l_0).bind fun y_1043 =>
          if y_1043 = true then (
            (ref17_Same N l_0 l_0).bind fun y_1047 =>
            if y_1047 = true then (
              (buffer_Blocks_row N y_1004).bind fun y_1051 =>
              some (decide ((y_1051.length : Int) = (l_0.length : Int)))
            ) else (
              some false
            )
          ) else (
            some false
          )
        ) else (
          some false
        )
      )
    ) else (
      (buffer_Order_row N l_0 0 y_1004).bind fun y_1053 =>
      (ref17_Same N y_1053 l_0).bind fun y_1055 =>
      if y_1055 = true then (
        (buffer_Sort_row N l_0 0 (l_0.length : Int) y_1005).bind fun y_1059 =>
        (ref17_Same N y_1059 l_0).bind fun y_1061 =>
        if y_1061 = true then (
          (ref17_Same N l_0 l_0).bind fun y_1065 =>
          if y_1065 = true then (
            (buffer_Blocks_row N y_1004).bind fun y_1069 =>
            some (decide ((y_1069.length : Int) = (l_0.length : Int)))
          ) else (
            some false
          )
        ) else (
          some false
        )
      ) else (
        some false
      )
    )
  )
def buffer_Rise_1 (N : Nat) (a_0 : Int) (a_1 : Int) (a_2 : Int) (a_3 : Int) (a_4 : Int) (a_5 : Int) (a_6 : Int) (a_7 : Int) (a_8 : Int) (a_9 : Int) (a_10 : Int) (a_11 : Int) (a_12 : Int) (a_13 : Int) (a_14 : Int) (a_15 : Int) (a_16 : Int) (a_17 : Int) (a_18 : Int) (a_19 : Int) (a_20 : Int) (a_21 : Int) (a_22 : Int) (a_23 : Int) (a_24 : Int) (a_25 : Int) (a_26 : Int) (a_27 : Int) : Option (Int) :=
  if a_1 < a_15 then (
    some (-1)
  ) else (
    if a_15 < a_1 then (
      some 1
    ) else (
      some 0
    )
  )
def slices_IsSortedFunc_apiGlyphapiGlyph_L1 (N : Nat) (l_0 : List TGlyph) : Nat → Int → Option ((Unit) ⊕ (Unit))
  | 0, _ => none
  | n + 1, i_1 =>
    if 0 < i_1 then (
      (atI l_0 i_1).bind fun x_4 =>
      (atI l_0 (IntKind.i64.wrap (i_1 - 1))).bind fun x_9 =>
      (buffer_Rise_1 N x_4.Id x_4.Cluster x_4.Mask x_4.Syl x_4.Code x_4.Cat x_4.Pos x_4.Key x_4.Lig x_4.Part x_4.X x_4.Y x_4.Wide x_4.High x_9.Id x_9.Cluster x_9.Mask x_9.Syl x_9.Code x_9.Cat x_9.Pos x_9.Key x_9.Lig x_9.Part x_9.X x_9.Y x_9.Wide x_9.High).bind fun y_14 =>
      if y_14 < 0 then (
        some (.inr ())
      ) else (
        slices_IsSortedFunc_apiGlyphapiGlyph_L1 N l_0 n (IntKind.i64.wrap (i_1 - 1))
      )
    ) else (
      some (.inl ())
    )
def slices_IsSortedFunc_apiGlyphapiGlyph (N : Nat) (l_0 : List TGlyph) : Option (Bool) :=
  (slices_IsSortedFunc_apiGlyphapiGlyph_L1 N l_0 N (IntKind.i64.wrap ((l_0.length : Int) - 1))).bind fun o_1002 => match o_1002 with
  | .inl _ => (
    some true
  )
  | .inr (_) => (
    some false
  )
def buffer_Rise (N : Nat) (l_0 : List TGlyph) : Option (Bool) :=
  (slices_IsSortedFunc_apiGlyphapiGlyph N l_0).bind fun y_1 =>
  some y_1
def ref17_Rise_L1 (N : Nat) (l_0 : List TGlyph) : Nat → Int → Option ((Unit) ⊕ (Unit))
  | 0, _ => none
  | n + 1, i_1 =>
    if i_1 < (l_0.length : Int) then (
      (atI l_0 (IntKind.i64.wrap (i_1 - 1))).bind fun x_4 =>
      (atI l_0 i_1).bind fun x_9 =>
      if x_9.Cluster < x_4.Cluster then (
        some (.inr ())
      ) else (
        ref17_Rise_L1 N l_0 n (IntKind.i64.wrap (i_1 + 1))
      )
    ) else (
      some (.inl ())
    )
def ref17_Rise (N : Nat) (l_0 : List TGlyph) : Option (Bool) :=
  (ref17_Rise_L1 N l_0 N 1).bind fun o_1002 => match o_1002 with
  | .inl _ => (
    some true
  )
  | .inr (_) => (
    some false
  )
def ref17_Copy (N : Nat) (l_0 : List TGlyph) : Option (Unit) :=
  if l_0.length * 112 ≤ 140737488355328 then (
    some ()
  ) else none
def ref17_Merge_L1 (N : Nat) (l_0 : List TGlyph) (a_1 : Int) (a_2 : Int) : Nat → Int → Int → Option (Int)
  | 0, _, _ => none
  | n + 1, i_13, i_14 =>
    if i_14 < a_2 then (
      (atI l_0 i_14).bind fun x_17 =>
      if x_17.Cluster < i_13 then (
        ref17_Merge_L1 N l_0 a_1 a_2 n x_17.Cluster (IntKind.i64.wrap (i_14 + 1))
      ) else (
        ref17_Merge_L1 N l_0 a_1 a_2 n i_13 (IntKind.i64.wrap (i_14 + 1))
      )
    ) else (
      some i_13
    )
def ref17_Merge_L2 (N : Nat) (l_0 : List TGlyph) (a_1 : Int) (a_2 : Int) (y_1014 : Int) : Nat → Int → (List Bool) → Option ((List Bool))
  | 0, _, _ => none
  | n + 1, i_1020, s_1021 =>
    if i_1020 < a_2 then (
      (atI s_1021 i_1020).bind fun x_1024 =>
      ref17_Merge_L2 N l_0 a_1 a_2 y_1014 n (IntKind.i64.wrap (i_1020 + 1)) (List.set s_1021 (i_1020).toNat true)
    ) else (
      some s_1021
    )
def ref17_Merge_L3 (N : Nat) (l_0 : List TGlyph) (a_1 : Int) (a_2 : Int) (y_1014 : Int) : Nat → Int → (List Bool) → Option ((List Bool))
  | 0, _, _ => none
  | n + 1, i_2022, s_2023 =>
    if 0 ≤ i_2022 then (
      (atI s_2023 (IntKind.i64.wrap (i_2022 + 1))).bind fun x_2026 =>
      if x_2026 = true then (
        (atI l_0 i_2022).bind fun x_2033 =>
        (atI l_0 a_1).bind fun x_2038 =>
        (atI s_2023 i_2022).bind fun x_2043 =>
        ref17_Merge_L3 N l_0 a_1 a_2 y_1014 n (IntKind.i64.wrap (i_2022 - 1)) (List.set s_2023 (i_2022).toNat (decide (x_2033.Cluster = x_2038.Cluster)))
      ) else (
        some s_2023
      )
    ) else (
      some s_2023
    )
def ref17_Merge_L4 (N : Nat) (l_0 : List TGlyph) (a_2 : Int) (y_1014 : Int) : Nat → Int → (List Bool) → Option ((List Bool))
  | 0, _, _ => none
  | n + 1, i_3024, s_3025 =>
    if i_3024 < (l_0.length : Int) then (
      (atI s_3025 (IntKind.i64.wrap (i_3024 - 1))).bind fun x_3028 =>
      if x_3028 = true then (
        (atI l_0 i_3024).bind fun x_3035 =>
        (atI l_0 (IntKind.i64.wrap (a_2 - 1))).bind fun x_3040 =>
        (atI s_3025 i_3024).bind fun x_3045 =>
        ref17_Merge_L4 N l_0 a_2 y_1014 n (IntKind.i64.wrap (i_3024 + 1)) (List.set s_3025 (i_3024).toNat (decide (x_3035.Cluster = x_3040.Cluster)))
      ) else (
        some s_3025
      )
    ) else (
      some s_3025
    )
def ref17_Merge_L5 (N : Nat) (l_0 : List TGlyph) (y_1014 : Int) (y_4025 : List Bool) : Nat → Int → (List TGlyph) → Option ((List TGlyph))
  | 0, _, _ => none
  | n + 1, i_4026, s_4027 =>
    if i_4026 < (l_0.length : Int) then (
      (atI y_4025 i_4026).bind fun x_4030 =>
      if x_4030 = true then (
        (atI s_4027 i_4026).bind fun x_4037 =>
        ref17_Merge_L5 N l_0 y_1014 y_4025 n (IntKind.i64.wrap (i_4026 + 1)) (List.set s_4027 (i_4026).toNat (TGlyph.mk x_4037.Id y_1014 x_4037.Mask x_4037.Syl x_4037.Code x_4037.Cat x_4037.Pos x_4037.Key x_4037.Lig x_4037.Part x_4037.X x_4037.Y x_4037.Wide x_4037.High))
      ) else (
        ref17_Merge_L5 N l_0 y_1014 y_4025 n (IntKind.i64.wrap (i_4026 + 1)) s_4027
      )
    ) else (
      some s_4027
    )
def ref17_Merge (N : Nat) (l_0 : List TGlyph) (a_1 : Int) (a_2 : Int) : Option ((List TGlyph)) :=
  (ref17_Copy N l_0).bind fun _ =>
  if a_1 < 0 then (
    some l_0
  ) else (
    if (l_0.length : Int) < a_2 then (
      some l_0
    ) else (
      if a_2 ≤ a_1 then (
        some l_0
      ) else (
        (atI l_0 a_1).bind fun x_8 =>
        (ref17_Merge_L1 N l_0 a_1 a_2 N x_8.Cluster a_1).bind fun y_1014 =>
        if 0 ≤ (l_0.length : Int) then (
          if (l_0.length : Int) * 1 ≤ 140737488355328 then (
            (ref17_Merge_L2 N l_0 a_1 a_2 y_1014 N a_1 (List.replicate l_0.length false)).bind fun y_2021 =>
            (ref17_Merge_L3 N l_0 a_1 a_2 y_1014 N (IntKind.i64.wrap (a_1 - 1)) y_2021).bind fun y_3023 =>
            (ref17_Merge_L4 N l_0 a_2 y_1014 N a_2 y_3023).bind fun y_4025 =>
            (ref17_Merge_L5 N l_0 y_1014 y_4025 N 0 l_0).bind fun y_5027 =>
            some y_5027
          ) else none
        ) else none
      )
    )
  )
def law17_BufferMerges (N : Nat) (l_0 : List TGlyph) (a_1 : Int) (a_2 : Int) : Option (Bool) :=
  if 200 < (l_0.length : Int) then (
    some true
  ) else (
    (buffer_Rise N l_0).bind fun y_3 =>
    (ref17_Rise N l_0).bind fun y_5 =>
    if y_3 = true then (
      if y_5 = true then (
        (buffer_Merge N l_0 a_1 a_2).bind fun y_11 =>
        (ref17_Merge N l_0 a_1 a_2).bind fun y_13 =>
        (ref17_Same N y_11 y_13).bind fun y_15 =>
        some y_15
      ) else (
        some false
      )
    ) else (
      if y_5 = true then (
        some false
      ) else (
        (buffer_Merge N l_0 a_1 a_2).bind fun y_19 =>
        (ref17_Merge N l_0 a_1 a_2).bind fun y_21 =>
        (ref17_Same N y_19 y_21).bind fun y_23 =>
        some y_23
      )
    )
  )
end Go.Proofs.Ytjdnbdhdpcnikaa.AI
