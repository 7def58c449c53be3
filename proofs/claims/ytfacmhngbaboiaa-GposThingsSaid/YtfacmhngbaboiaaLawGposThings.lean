/- The statement GposThings: for every input it returns true, and the input reads as it did. Walked by the abstract machine. -/
import Derived.Test.YtfacmhngbaboiaaRows
import Derived.Test.YtfacmhngbaboiaagsW1
import Derived.Test.YtfacmhngbaboiaaGT4
import Derived.WalkKit
import Derived.ProofKit
import Derived.OpenShut
import Derived.ShutString
import Derived.ChangeOld
import Derived.Below
import Derived.SizedLaws
set_option linter.unusedVariables false
set_option maxRecDepth 100000
namespace Go.Proofs.Ytfacmhngbaboiaa.AI
open Go.Proofs
def wf87 (x : TSpan) : Prop := (fun n => (Lit.int .i64 n).wf = true) x.From ∧ (fun n => (Lit.int .i64 n).wf = true) x.To
theorem reads87 : Reads Try.prog 87 eTSpan wf87 :=
  (Reads.struct Try.underlying87 (by kernel_rfl) (FReads.cons (m := 1) (n := 1) (Reads.int (k := .i64) Try.underlying3) rfl (by kernel_rfl) (FReads.last (Reads.int (k := .i64) Try.underlying3) rfl (by kernel_rfl)))).iso (fun p => (⟨p.1, p.2⟩ : TSpan)) (fun _ => rfl) (fun _ h => h)
theorem reads24 : Reads Try.prog 24 (fun l : List TSpan => [.vec false (l.map eTSpan)]) (fun l => l.length * 16 ≤ 140737488351232 ∧ ∀ x ∈ l, wf87 x) := Reads.slice (B := 16) Try.underlying24 (by kernel_rfl) reads87
theorem reads48 : Reads Try.prog 48 (fun l : List Int => [.vec false (l.map eI64)]) (fun l => l.length * 8 ≤ 140737488351232 ∧ ∀ x ∈ l, (fun n => (Lit.int .i64 n).wf = true) x) := Reads.slice (B := 8) Try.underlying48 (by kernel_rfl) (Reads.int (k := .i64) Try.underlying3)
theorem reads25 : Reads Try.prog 25 (fun l : List (List Int) => [.vec false (l.map eLI64)]) (fun l => l.length * 24 ≤ 140737488351232 ∧ ∀ x ∈ l, (fun l : List Int => l.length * 8 ≤ 140737488351232 ∧ ∀ x ∈ l, (fun n => (Lit.int .i64 n).wf = true) x) x) := Reads.slice (B := 24) Try.underlying25 (by kernel_rfl) reads48
def wf77 (x : TLig) : Prop := (fun l : List Int => l.length * 8 ≤ 140737488351232 ∧ ∀ x ∈ l, (fun n => (Lit.int .i64 n).wf = true) x) x.Parts ∧ (fun n => (Lit.int .i64 n).wf = true) x.To
theorem reads77 : Reads Try.prog 77 eTLig wf77 :=
  (Reads.struct Try.underlying77 (by kernel_rfl) (FReads.cons (m := 1) (n := 1) reads48 rfl (by kernel_rfl) (FReads.last (Reads.int (k := .i64) Try.underlying3) rfl (by kernel_rfl)))).iso (fun p => (⟨p.1, p.2⟩ : TLig)) (fun _ => rfl) (fun _ h => h)
theorem reads41 : Reads Try.prog 41 (fun l : List TLig => [.vec false (l.map eTLig)]) (fun l => l.length * 32 ≤ 140737488351232 ∧ ∀ x ∈ l, wf77 x) := Reads.slice (B := 32) Try.underlying41 (by kernel_rfl) reads77
theorem reads26 : Reads Try.prog 26 (fun l : List (List TLig) => [.vec false (l.map eLTLig)]) (fun l => l.length * 24 ≤ 140737488351232 ∧ ∀ x ∈ l, (fun l : List TLig => l.length * 32 ≤ 140737488351232 ∧ ∀ x ∈ l, wf77 x) x) := Reads.slice (B := 24) Try.underlying26 (by kernel_rfl) reads41
def wf85 (x : TSet) : Prop := (fun l : List TSpan => l.length * 16 ≤ 140737488351232 ∧ ∀ x ∈ l, wf87 x) x.Spans ∧ (fun _ => True) x.Not
theorem reads85 : Reads Try.prog 85 eTSet wf85 :=
  (Reads.struct Try.underlying85 (by kernel_rfl) (FReads.cons (m := 1) (n := 1) reads24 rfl (by kernel_rfl) (FReads.last (Reads.bool Try.underlying4) rfl (by kernel_rfl)))).iso (fun p => (⟨p.1, p.2⟩ : TSet)) (fun _ => rfl) (fun _ h => h)
theorem reads42 : Reads Try.prog 42 (fun l : List TSet => [.vec false (l.map eTSet)]) (fun l => l.length * 32 ≤ 140737488351232 ∧ ∀ x ∈ l, wf85 x) := Reads.slice (B := 32) Try.underlying42 (by kernel_rfl) reads85
def wf120 (x : TAct) : Prop := (fun n => (Lit.int .i64 n).wf = true) x.At ∧ (fun n => (Lit.int .i64 n).wf = true) x.Lookup
theorem reads120 : Reads Try.prog 120 eTAct wf120 :=
  (Reads.struct Try.underlying120 (by kernel_rfl) (FReads.cons (m := 1) (n := 1) (Reads.int (k := .i64) Try.underlying3) rfl (by kernel_rfl) (FReads.last (Reads.int (k := .i64) Try.underlying3) rfl (by kernel_rfl)))).iso (fun p => (⟨p.1, p.2⟩ : TAct)) (fun _ => rfl) (fun _ h => h)
theorem reads43 : Reads Try.prog 43 (fun l : List TAct => [.vec false (l.map eTAct)]) (fun l => l.length * 16 ≤ 140737488351232 ∧ ∀ x ∈ l, wf120 x) := Reads.slice (B := 16) Try.underlying43 (by kernel_rfl) reads120
def wf45 (x : TCtx) : Prop := (fun l : List TSet => l.length * 32 ≤ 140737488351232 ∧ ∀ x ∈ l, wf85 x) x.Back ∧ (fun l : List TSet => l.length * 32 ≤ 140737488351232 ∧ ∀ x ∈ l, wf85 x) x.In ∧ (fun l : List TSet => l.length * 32 ≤ 140737488351232 ∧ ∀ x ∈ l, wf85 x) x.Ahead ∧ (fun l : List TAct => l.length * 16 ≤ 140737488351232 ∧ ∀ x ∈ l, wf120 x) x.Acts
theorem reads45 : Reads Try.prog 45 eTCtx wf45 :=
  (Reads.struct Try.underlying45 (by kernel_rfl) (FReads.cons (m := 1) (n := 3) reads42 rfl (by kernel_rfl) (FReads.cons (m := 1) (n := 2) reads42 rfl (by kernel_rfl) (FReads.cons (m := 1) (n := 1) reads42 rfl (by kernel_rfl) (FReads.last reads43 rfl (by kernel_rfl)))))).iso (fun p => (⟨p.1, p.2.1, p.2.2.1, p.2.2.2⟩ : TCtx)) (fun _ => rfl) (fun _ h => h)
theorem reads27 : Reads Try.prog 27 (fun l : List TCtx => [.vec false (l.map eTCtx)]) (fun l => l.length * 96 ≤ 140737488351232 ∧ ∀ x ∈ l, wf45 x) := Reads.slice (B := 96) Try.underlying27 (by kernel_rfl) reads45
def wf89 (x : TValue) : Prop := (fun n => (Lit.int .i64 n).wf = true) x.X ∧ (fun n => (Lit.int .i64 n).wf = true) x.Y ∧ (fun n => (Lit.int .i64 n).wf = true) x.Wide ∧ (fun n => (Lit.int .i64 n).wf = true) x.High
theorem reads89 : Reads Try.prog 89 eTValue wf89 :=
  (Reads.struct Try.underlying89 (by kernel_rfl) (FReads.cons (m := 1) (n := 3) (Reads.int (k := .i64) Try.underlying3) rfl (by kernel_rfl) (FReads.cons (m := 1) (n := 2) (Reads.int (k := .i64) Try.underlying3) rfl (by kernel_rfl) (FReads.cons (m := 1) (n := 1) (Reads.int (k := .i64) Try.underlying3) rfl (by kernel_rfl) (FReads.last (Reads.int (k := .i64) Try.underlying3) rfl (by kernel_rfl)))))).iso (fun p => (⟨p.1, p.2.1, p.2.2.1, p.2.2.2⟩ : TValue)) (fun _ => rfl) (fun _ h => h)
theorem reads28 : Reads Try.prog 28 (fun l : List TValue => [.vec false (l.map eTValue)]) (fun l => l.length * 32 ≤ 140737488351232 ∧ ∀ x ∈ l, wf89 x) := Reads.slice (B := 32) Try.underlying28 (by kernel_rfl) reads89
def wf127 (x : TTwo) : Prop := (fun n => (Lit.int .i64 n).wf = true) x.Second ∧ wf89 x.A ∧ wf89 x.B
theorem reads127 : Reads Try.prog 127 eTTwo wf127 :=
  (Reads.struct Try.underlying127 (by kernel_rfl) (FReads.cons (m := 1) (n := 8) (Reads.int (k := .i64) Try.underlying3) rfl (by kernel_rfl) (FReads.cons (m := 4) (n := 4) reads89 rfl (by kernel_rfl) (FReads.last reads89 rfl (by kernel_rfl))))).iso (fun p => (⟨p.1, p.2.1, p.2.2⟩ : TTwo)) (fun _ => rfl) (fun _ h => h)
theorem reads50 : Reads Try.prog 50 (fun l : List TTwo => [.vec false (l.map eTTwo)]) (fun l => l.length * 72 ≤ 140737488351232 ∧ ∀ x ∈ l, wf127 x) := Reads.slice (B := 72) Try.underlying50 (by kernel_rfl) reads127
theorem reads29 : Reads Try.prog 29 (fun l : List (List TTwo) => [.vec false (l.map eLTTwo)]) (fun l => l.length * 24 ≤ 140737488351232 ∧ ∀ x ∈ l, (fun l : List TTwo => l.length * 72 ≤ 140737488351232 ∧ ∀ x ∈ l, wf127 x) x) := Reads.slice (B := 24) Try.underlying29 (by kernel_rfl) reads50
def wf125 (x : TClass) : Prop := (fun n => (Lit.int .i64 n).wf = true) x.From ∧ (fun n => (Lit.int .i64 n).wf = true) x.To ∧ (fun n => (Lit.int .i64 n).wf = true) x.Class
theorem reads125 : Reads Try.prog 125 eTClass wf125 :=
  (Reads.struct Try.underlying125 (by kernel_rfl) (FReads.cons (m := 1) (n := 2) (Reads.int (k := .i64) Try.underlying3) rfl (by kernel_rfl) (FReads.cons (m := 1) (n := 1) (Reads.int (k := .i64) Try.underlying3) rfl (by kernel_rfl) (FReads.last (Reads.int (k := .i64) Try.underlying3) rfl (by kernel_rfl))))).iso (fun p => (⟨p.1, p.2.1, p.2.2⟩ : TClass)) (fun _ => rfl) (fun _ h => h)
theorem reads30 : Reads Try.prog 30 (fun l : List TClass => [.vec false (l.map eTClass)]) (fun l => l.length * 24 ≤ 140737488351232 ∧ ∀ x ∈ l, wf125 x) := Reads.slice (B := 24) Try.underlying30 (by kernel_rfl) reads125
def wf53 (x : TAnchor) : Prop := (fun _ => True) x.Is ∧ (fun n => (Lit.int .i64 n).wf = true) x.X ∧ (fun n => (Lit.int .i64 n).wf = true) x.Y
theorem reads53 : Reads Try.prog 53 eTAnchor wf53 :=
  (Reads.struct Try.underlying53 (by kernel_rfl) (FReads.cons (m := 1) (n := 2) (Reads.bool Try.underlying4) rfl (by kernel_rfl) (FReads.cons (m := 1) (n := 1) (Reads.int (k := .i64) Try.underlying3) rfl (by kernel_rfl) (FReads.last (Reads.int (k := .i64) Try.underlying3) rfl (by kernel_rfl))))).iso (fun p => (⟨p.1, p.2.1, p.2.2⟩ : TAnchor)) (fun _ => rfl) (fun _ h => h)
def wf95 (x : TArr2_TAnchor) : Prop := wf53 x.e0 ∧ wf53 x.e1
theorem reads95 : Reads Try.prog 95 eTArr2_TAnchor wf95 :=
  (Reads.array2 (n := 3) Try.underlying95 (by kernel_rfl) (by kernel_rfl) reads53).iso (fun p => (⟨p.1, p.2⟩ : TArr2_TAnchor)) (fun _ => rfl) (fun _ h => h)
theorem reads31 : Reads Try.prog 31 (fun l : List TArr2_TAnchor => [.vec false (l.map eTArr2_TAnchor)]) (fun l => l.length * 48 ≤ 140737488351232 ∧ ∀ x ∈ l, wf95 x) := Reads.slice (B := 48) Try.underlying31 (by kernel_rfl) reads95
def wf55 (x : TMark) : Prop := (fun n => (Lit.int .i64 n).wf = true) x.Class ∧ wf53 x.At
theorem reads55 : Reads Try.prog 55 eTMark wf55 :=
  (Reads.struct Try.underlying55 (by kernel_rfl) (FReads.cons (m := 1) (n := 3) (Reads.int (k := .i64) Try.underlying3) rfl (by kernel_rfl) (FReads.last reads53 rfl (by kernel_rfl)))).iso (fun p => (⟨p.1, p.2⟩ : TMark)) (fun _ => rfl) (fun _ h => h)
theorem reads32 : Reads Try.prog 32 (fun l : List TMark => [.vec false (l.map eTMark)]) (fun l => l.length * 32 ≤ 140737488351232 ∧ ∀ x ∈ l, wf55 x) := Reads.slice (B := 32) Try.underlying32 (by kernel_rfl) reads55
theorem reads56 : Reads Try.prog 56 (fun l : List TAnchor => [.vec false (l.map eTAnchor)]) (fun l => l.length * 24 ≤ 140737488351232 ∧ ∀ x ∈ l, wf53 x) := Reads.slice (B := 24) Try.underlying56 (by kernel_rfl) reads53
theorem reads51 : Reads Try.prog 51 (fun l : List (List TAnchor) => [.vec false (l.map eLTAnchor)]) (fun l => l.length * 24 ≤ 140737488351232 ∧ ∀ x ∈ l, (fun l : List TAnchor => l.length * 24 ≤ 140737488351232 ∧ ∀ x ∈ l, wf53 x) x) := Reads.slice (B := 24) Try.underlying51 (by kernel_rfl) reads56
theorem reads33 : Reads Try.prog 33 (fun l : List (List (List TAnchor)) => [.vec false (l.map eLLTAnchor)]) (fun l => l.length * 24 ≤ 140737488351232 ∧ ∀ x ∈ l, (fun l : List (List TAnchor) => l.length * 24 ≤ 140737488351232 ∧ ∀ x ∈ l, (fun l : List TAnchor => l.length * 24 ≤ 140737488351232 ∧ ∀ x ∈ l, wf53 x) x) x) := Reads.slice (B := 24) Try.underlying33 (by kernel_rfl) reads51
def wf35 (x : TSub) : Prop := (fun n => (Lit.int .i64 n).wf = true) x.Kind ∧ (fun l : List TSpan => l.length * 16 ≤ 140737488351232 ∧ ∀ x ∈ l, wf87 x) x.Cover ∧ (fun _ => True) x.ByDelta ∧ (fun n => (Lit.int .i64 n).wf = true) x.Delta ∧ (fun l : List (List Int) => l.length * 24 ≤ 140737488351232 ∧ ∀ x ∈ l, (fun l : List Int => l.length * 8 ≤ 140737488351232 ∧ ∀ x ∈ l, (fun n => (Lit.int .i64 n).wf = true) x) x) x.To ∧ (fun l : List (List TLig) => l.length * 24 ≤ 140737488351232 ∧ ∀ x ∈ l, (fun l : List TLig => l.length * 32 ≤ 140737488351232 ∧ ∀ x ∈ l, wf77 x) x) x.Ligs ∧ (fun l : List TCtx => l.length * 96 ≤ 140737488351232 ∧ ∀ x ∈ l, wf45 x) x.Ctxs ∧ (fun l : List TValue => l.length * 32 ≤ 140737488351232 ∧ ∀ x ∈ l, wf89 x) x.Vals ∧ (fun l : List (List TTwo) => l.length * 24 ≤ 140737488351232 ∧ ∀ x ∈ l, (fun l : List TTwo => l.length * 72 ≤ 140737488351232 ∧ ∀ x ∈ l, wf127 x) x) x.Pairs ∧ (fun l : List TClass => l.length * 24 ≤ 140737488351232 ∧ ∀ x ∈ l, wf125 x) x.First ∧ (fun l : List TClass => l.length * 24 ≤ 140737488351232 ∧ ∀ x ∈ l, wf125 x) x.Second ∧ (fun l : List (List TTwo) => l.length * 24 ≤ 140737488351232 ∧ ∀ x ∈ l, (fun l : List TTwo => l.length * 72 ≤ 140737488351232 ∧ ∀ x ∈ l, wf127 x) x) x.Grid ∧ (fun l : List TArr2_TAnchor => l.length * 48 ≤ 140737488351232 ∧ ∀ x ∈ l, wf95 x) x.Curs ∧ (fun l : List TMark => l.length * 32 ≤ 140737488351232 ∧ ∀ x ∈ l, wf55 x) x.Marks ∧ (fun l : List TSpan => l.length * 16 ≤ 140737488351232 ∧ ∀ x ∈ l, wf87 x) x.Base ∧ (fun l : List (List (List TAnchor)) => l.length * 24 ≤ 140737488351232 ∧ ∀ x ∈ l, (fun l : List (List TAnchor) => l.length * 24 ≤ 140737488351232 ∧ ∀ x ∈ l, (fun l : List TAnchor => l.length * 24 ≤ 140737488351232 ∧ ∀ x ∈ l, wf53 x) x) x) x.Bases
theorem reads35 : Reads Try.prog 35 eTSub wf35 :=
  (Reads.struct Try.underlying35 (by kernel_rfl) (FReads.cons (m := 1) (n := 15) (Reads.int (k := .i64) Try.underlying3) rfl (by kernel_rfl) (FReads.cons (m := 1) (n := 14) reads24 rfl (by kernel_rfl) (FReads.cons (m := 1) (n := 13) (Reads.bool Try.underlying4) rfl (by kernel_rfl) (FReads.cons (m := 1) (n := 12) (Reads.int (k := .i64) Try.underlying3) rfl (by kernel_rfl) (FReads.cons (m := 1) (n := 11) reads25 rfl (by kernel_rfl) (FReads.cons (m := 1) (n := 10) reads26 rfl (by kernel_rfl) (FReads.cons (m := 1) (n := 9) reads27 rfl (by kernel_rfl) (FReads.cons (m := 1) (n := 8) reads28 rfl (by kernel_rfl) (FReads.cons (m := 1) (n := 7) reads29 rfl (by kernel_rfl) (FReads.cons (m := 1) (n := 6) reads30 rfl (by kernel_rfl) (FReads.cons (m := 1) (n := 5) reads30 rfl (by kernel_rfl) (FReads.cons (m := 1) (n := 4) reads29 rfl (by kernel_rfl) (FReads.cons (m := 1) (n := 3) reads31 rfl (by kernel_rfl) (FReads.cons (m := 1) (n := 2) reads32 rfl (by kernel_rfl) (FReads.cons (m := 1) (n := 1) reads24 rfl (by kernel_rfl) (FReads.last reads33 rfl (by kernel_rfl)))))))))))))))))).iso (fun p => (⟨p.1, p.2.1, p.2.2.1, p.2.2.2.1, p.2.2.2.2.1, p.2.2.2.2.2.1, p.2.2.2.2.2.2.1, p.2.2.2.2.2.2.2.1, p.2.2.2.2.2.2.2.2.1, p.2.2.2.2.2.2.2.2.2.1, p.2.2.2.2.2.2.2.2.2.2.1, p.2.2.2.2.2.2.2.2.2.2.2.1, p.2.2.2.2.2.2.2.2.2.2.2.2.1, p.2.2.2.2.2.2.2.2.2.2.2.2.2.1, p.2.2.2.2.2.2.2.2.2.2.2.2.2.2.1, p.2.2.2.2.2.2.2.2.2.2.2.2.2.2.2⟩ : TSub)) (fun _ => rfl) (fun _ h => h)
theorem law_GposThings {N : Nat} (hB : 9223372036854775808 < N) {p0 : TSub} (w0 : wf35 p0) : ACalls Go.Proofs.Try.prog 7 [.agg (eTSub p0)] [] (fun e H => e = .ret (.bool true)) :=
  have hN : 1000000000000 < N := by omega
  (law13_GposThings_w N _ _ _ _ _ _ _ _ _ _ _ _ _ _ _ _ false false false false false false false false false false false false false true (GposThings_plain hB (fun c hc => (w0.2.2.2.2.2.2.1.2 c hc).2.2.2.1) (fun c hc s hs => ((w0.2.2.2.2.2.2.1.2 c hc).1.2 s hs).1.1) (fun c hc s hs => ((w0.2.2.2.2.2.2.1.2 c hc).2.1.2 s hs).1.1) (fun c hc s hs => ((w0.2.2.2.2.2.2.1.2 c hc).2.2.1.2 s hs).1.1) (fun x hx => (w0.2.2.2.2.2.2.2.2.2.2.2.2.2.2.2.2 x hx).1))).mono (fun _ _ h => h.2)
end Go.Proofs.Ytfacmhngbaboiaa.AI
namespace Go.Proofs.Ytfacmhngbaboiaa.gposThings
open Go.ChangeShapes Go.WideShapes Go.ChangeAt Go.RowKit Go.Proofs.Ytfacmhngbaboiaa.AI
open Go.ChangeMaps (open_string shut_string)
theorem own : ownKnob Try.prog.godebug = none := by kernel_rfl
theorem laidOut : laidOutB Try.prog = true := by kernel_rfl
theorem lifted (os : Os) (started : os.Started) (H : Type) (enc : TypeId × Value → H) :
    ReturnsInHanded {} Try.checked os 7 .any (Rows.gposThingsSpec.pre6 enc Try.prog Try.f7 Rows.gposThingsRow.domain false) (Rows.gposThingsSpec.post enc Try.prog Try.f7 false true false false) := by
  refine returnsInHanded_of_change_sized (C := Try.checked) own started (by kernel_rfl) Try.func7
    (ChangeSpec.witness6 (enc := enc) (C := Try.checked) false ⟨#[], #[.agg #[.int .i64 0, .slice none 0 0, .bool false, .int .i64 0, .slice none 0 0, .slice none 0 0, .slice none 0 0, .slice none 0 0, .slice none 0 0, .slice none 0 0, .slice none 0 0, .slice none 0 0, .slice none 0 0, .slice none 0 0, .slice none 0 0, .slice none 0 0]], []⟩ 8 (by kernel_rfl) (by kernel_rfl) (by kernel_rfl) (by kernel_rfl)) ?_
  intro W base args ds gs before hval0 hW hcnd hsz0 _
  have hval : ∀ (j : Nat) t v, Try.f7.params[j]? = some t → args[j]? = some v → Value.okWide Try.prog W .any base t v := hval0
  have hW' := hW
  obtain ⟨p, q, hA0, hV, rfl, hfz, hnd⟩ := hW
  have hA : DataW.TrodAll enc Try.prog W 0 (fun _ => true) true Try.f7.params.toList args.toList ds p := hA0
  rw [Try.params7] at hA hval
  obtain ⟨v0, vs0, d0, ds0, pp0, q0, hargs, rfl, rfl, h0, r0⟩ := trodAll_cons hA
  obtain ⟨rfl, rfl, rfl⟩ := trodAll_nil r0
  obtain rfl : args = #[v0] := by cases args; simp_all
  obtain ⟨rfl, rfl⟩ := trodVars_none hV
  obtain ⟨cs0, rfl, hcs0⟩ := okWide_struct Try.underlying35 (hval 0 35 v0 rfl rfl)
  have k0 := h0
  have lt0 : ∀ x ∈ pp0, x.block < W.heap.size := by obtain ⟨m, hm⟩ := k0; exact DataW.trod_lt m _ _ _ hm
  obtain ⟨p0, hr0, w0⟩ : ∃ x : TSub, RD W (eTSub x) cs0.toList ∧ wf35 x := by obtain ⟨fuel, hf⟩ := h0; exact reads35 _ _ _ _ _ _ _ _ _ hf (weights_arg hsz0 (j := 0) rfl rfl)
  clear hA0 hval0
  have hV' : VRs (allK W) rnone [.agg (eTSub p0)] #[.agg cs0] := vrs_cons (RD.agg1 hr0) (vrs_nil)
  refine (ACalls.below (law_GposThings (N := 9223372036854775809) (by decide) w0) hV').mono fun e W' ⟨he, bel0⟩ => ?_
  have bel : Below W.heap.size W W' := bel0
  subst he
  exact ⟨_, rfl, _, _, _, [], _, [], hW', trodAll_mk1 (shut_bool Try.underlying4 _), (trodAll_cons_mk (Below.trod laidOut (by kernel_rfl) (of_decide_eq_true (by kernel_rfl)) k0 bel lt0) trodAll_mk0), rfl, bel.frame _, fun h => by cases h⟩
theorem over : Rows.gposThingsRow.holds Try.pinned (OpenSpec.ofChange Rows.gposThingsSpec) :=
  OpenClaim.holds_of_wide 7 Try.f7 rfl rfl rfl rfl rfl rfl rfl ⟨rfl, rfl, rfl, rfl, rfl⟩ rfl rfl rfl rfl rfl (by kernel_rfl) Try.func7 (by kernel_rfl)
    (of_decide_eq_true (by kernel_rfl)) (by unfold Func.isWrapper; first | (rw [if_pos (by decide +kernel)]; kernel_rfl) | (rw [if_neg (by decide +kernel)]; exact ⟨rfl, rfl⟩))
    (fun os started H enc _ => lifted os started H enc)
theorem proved : Rows.GposThingsSaid := over
#print axioms proved
end Go.Proofs.Ytfacmhngbaboiaa.gposThings
namespace Go.Proofs.Ytfacmhngbaboiaa
/-- The row, under a short name, for the claim. -/
theorem gposThings_holds : Rows.GposThingsSaid := gposThings.proved
end Go.Proofs.Ytfacmhngbaboiaa
