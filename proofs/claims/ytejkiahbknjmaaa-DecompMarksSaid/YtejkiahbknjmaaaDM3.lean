/- Plain laws of layer 21: ranges that may be more. -/
import Derived.Test.YtejkiahbknjmaaaDM1
import Derived.Test.YtejkiahbknjmaaaDT3
set_option linter.unusedVariables false
set_option linter.unusedSimpArgs false
set_option maxRecDepth 100000
namespace Go.Proofs.Ytejkiahbknjmaaa.AI
theorem okV_mono {m m' : Int} (h : m ≤ m') {r : TRange} (hr : okV m r) : okV m' r := ⟨hr.1, hr.2.1, hr.2.2.1, by have := hr.2.2.2; omega⟩
theorem chR_mono2 {m m' : Int} (h : m ≤ m') : ∀ {l : List TRange} {a : Int}, chR m a l → chR m' a l
  | [], _, _ => trivial
  | r :: l, a, h' => ⟨h'.1, okV_mono h h'.2.1, chR_mono2 h h'.2.2⟩
theorem Rt_mono {m m' : Int} (h : m ≤ m') {l : List TRange} (hl : Rt m l) : Rt m' l := ⟨hl.1, chR_mono2 h hl.2⟩
theorem get21 {N : Nat} (hN : 1000000000000 < N) {l : List TRange} (hl : l.length ≤ 5000) (c : Int) : ref21_Get N l c = some (valc l c) := by
  unfold ref21_Get
  rw [rget_eq hN hl, Option.bind_some]
end Go.Proofs.Ytejkiahbknjmaaa.AI
