/- Plain laws of layer 21: the example. -/
import Derived.Test.YtejkiahbknjmaaaDT2
set_option linter.unusedVariables false
set_option linter.unusedSimpArgs false
set_option maxRecDepth 100000
namespace Go.Proofs.Ytejkiahbknjmaaa.AI
theorem cloneM {N : Nat} {l : List TMade} (h : l.length ≤ 1000000) : slices_Clone_apiMadeapiMade N l = some l := by
  unfold slices_Clone_apiMadeapiMade
  by_cases g : l = []
  · rw [if_pos g, g]
  · rw [if_neg g, if_pos (by omega)]
theorem cloneR {N : Nat} {l : List TRange} (h : l.length ≤ 1000000) : slices_Clone_apiRangeapiRange N l = some l := by
  unfold slices_Clone_apiRangeapiRange
  by_cases g : l = []
  · rw [if_pos g, g]
  · rw [if_neg g, if_pos (by omega)]
theorem alive21 {N : Nat} (hN : 1000000000000 < N) : law21_alive N = some true := by
  obtain ⟨M, rfl⟩ : ∃ M, N = M + 60 := ⟨N - 60, by omega⟩
  have hc : Rt 255 [TRange.mk 65 65 1] := ⟨by simp, by simp [chR, okV]⟩
  have hk : Rt 255 [TRange.mk 769 769 230] := ⟨by simp, by simp [chR, okV]⟩
  have hn : Rt 255 [] := ⟨by simp, by simp [chR]⟩
  obtain ⟨i1, b1, e1, t1⟩ := get_eq hN hc (st := 0) (as := 0) (.inl ⟨rfl, rfl, rfl, rfl⟩) 65
  obtain ⟨i2, b2, e2, t2⟩ := get_eq hN hk (st := 0) (as := 0) (.inl ⟨rfl, rfl, rfl, rfl⟩) 769
  obtain ⟨i3, b3, e3, t3⟩ := get_eq hN hn (st := 0) (as := 0) (.inl ⟨rfl, rfl, rfl, rfl⟩) 65
  have v1 : valc [TRange.mk 65 65 1] 65 = 1 := by decide
  have v2 : valc [TRange.mk 769 769 230] 769 = 230 := by decide
  have v3 : valc [] 65 = 0 := by decide
  rw [v1] at e1
  rw [v2] at e2
  rw [v3] at e3
  have w1 : decomp_Whole (M + 60) [TMade.mk 193 65 769] 65 769 = some (193, true) := rfl
  have w2 : decomp_Right (M + 60) [TMade.mk 193 65 769] = some true := rfl
  have w3 : span_Right (M + 60) [TRange.mk 65 65 1] 15 = some true := rfl
  have w4 : span_Right (M + 60) [] 4 = some true := rfl
  have w5 : span_Right (M + 60) [] 5 = some true := rfl
  have w6 : span_Right (M + 60) [TRange.mk 769 769 230] 254 = some true := rfl
  have w7 : decomp_Parts (M + 60) [TMade.mk 193 65 769] 193 = some [65, 769] := rfl
  have w8 : ref21_Codes (M + 60) [65, 769] [65, 769] = some true := rfl
  have w9 : decomp_Class (M + 60) [TRange.mk 769 769 230] 769 = some 230 := rfl
  have wa : decomp_Marks (M + 60) [230, 220, 0, 220] = some [1, 0, 2, 3] := rfl
  have wb : ref01_Ints (M + 60) [1, 0, 2, 3] [1, 0, 2, 3] = some true := rfl
  have c1 := cloneM (N := M + 60) (l := [TMade.mk 193 65 769]) (by simp)
  have c2 := cloneR (N := M + 60) (l := [TRange.mk 65 65 1]) (by simp)
  have c3 := cloneR (N := M + 60) (l := []) (by simp)
  have c4 := cloneR (N := M + 60) (l := [TRange.mk 769 769 230]) (by simp)
  have n1 := (new_eq hN [TRange.mk 65 65 1] (by simp)).1 hc
  have n2 := (new_eq hN [TRange.mk 769 769 230] (by simp)).1 hk
  have n3 := (new_eq hN [] (by simp)).1 hn
  unfold law21_alive
  first
    | simp only [w1, w2, w3, w4, w5, w6, w7, w8, w9, wa, wb, c1, c2, c3, c4, n1, n2, n3, e1, e2, e3, Option.bind_some, if_true, decomp_Book_Pairs_row, List.length_cons, List.length_nil]
    | simp only [w1, w2, w3, w4, w5, w6, w7, w8, w9, wa, wb, c1, c2, c3, c4, n1, n2, n3, e1, e2, e3, Option.bind_some, if_true, List.length_cons, List.length_nil]
  simp
end Go.Proofs.Ytejkiahbknjmaaa.AI
