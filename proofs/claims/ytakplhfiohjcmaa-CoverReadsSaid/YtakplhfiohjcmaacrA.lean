/- Functions' code by sight: written by a program (gen.py) out of the translation; Lean checks it against the translation. -/
import Derived.Test.YtakplhfiohjcmaaA20
import Derived.Test.YtakplhfiohjcmaaProg
namespace Go.Proofs.Ytakplhfiohjcmaa.AI
/-! reedpen/reedpenlaw10.CoverReads -/
def A3 : ACode :=
 (.seq
 (.reg [
 ⟨(some 4), .mov (.k (.bool false)), none⟩])
 (.seq
 (.seq
 (.reg [
 ⟨(some 13), .call 17 [], none⟩,
 ⟨(some 14), .un .not (.t 13), none⟩])
 (.cond (.t 14)
 (.seq
 (.reg [
 ⟨(some 4), .mov (.k (.bool false)), none⟩])
 .ret)
 .skip))
 (.seq
 (.seq
 (.reg [
 ⟨(some 15), .mov (.t 0), none⟩,
 ⟨(some 16), .len false (.t 15), none⟩,
 ⟨(some 17), .bin .gtr (.t 16) (.k (.int .i64 3000)), none⟩,
 ⟨(some 18), .mov (.t 17), none⟩,
 ⟨(some 19), .mov (.t 1), (some (18, false))⟩,
 ⟨(some 20), .bin .gtr (.t 19) (.k (.int .i64 3000)), (some (18, false))⟩,
 ⟨(some 21), .pick (.t 18) (.k (.bool true)) (.t 20), none⟩,
 ⟨(some 22), .mov (.t 21), none⟩,
 ⟨(some 23), .mov (.t 1), (some (22, false))⟩,
 ⟨(some 24), .bin .lss (.t 23) (.k (.int .i64 (-3000))), (some (22, false))⟩,
 ⟨(some 25), .pick (.t 22) (.k (.bool true)) (.t 24), none⟩])
 (.cond (.t 25)
 (.seq
 (.reg [
 ⟨(some 4), .mov (.k (.bool true)), none⟩])
 .ret)
 .skip))
 (.seq
 (.reg [
 ⟨(some 27), .mov (.t 0), none⟩,
 ⟨(some 28), .mov (.t 1), none⟩,
 ⟨(some 29), .call 18 [(.t 27), (.t 28)], none⟩,
 ⟨(some 26), .mov (.t 29), none⟩,
 ⟨(some 30), .ext 0 (.t 26), none⟩,
 ⟨(some 31), .ext 1 (.t 26), none⟩,
 ⟨(some 5), .mov (.t 30), none⟩,
 ⟨(some 6), .mov (.t 31), none⟩])
 (.seq
 (.reg [
 ⟨(some 33), .mov (.t 0), none⟩,
 ⟨(some 34), .mov (.t 1), none⟩,
 ⟨(some 35), .call 19 [(.t 33), (.t 34)], none⟩,
 ⟨(some 32), .mov (.t 35), none⟩,
 ⟨(some 36), .ext 0 (.t 32), none⟩,
 ⟨(some 37), .ext 1 (.t 32), none⟩,
 ⟨(some 7), .mov (.t 36), none⟩,
 ⟨(some 8), .mov (.t 37), none⟩])
 (.seq
 (.reg [
 ⟨(some 39), .mov (.t 0), none⟩,
 ⟨(some 40), .mov (.t 1), none⟩,
 ⟨(some 41), .call 20 [(.t 39), (.t 40)], none⟩,
 ⟨(some 38), .mov (.t 41), none⟩,
 ⟨(some 42), .ext 0 (.t 38), none⟩,
 ⟨(some 43), .ext 1 (.t 38), none⟩,
 ⟨(some 9), .mov (.t 42), none⟩,
 ⟨(some 10), .mov (.t 43), none⟩])
 (.seq
 (.reg [
 ⟨(some 45), .mov (.t 0), none⟩,
 ⟨(some 46), .mov (.t 1), none⟩,
 ⟨(some 47), .call 21 [(.t 45), (.t 46)], none⟩,
 ⟨(some 44), .mov (.t 47), none⟩,
 ⟨(some 48), .ext 0 (.t 44), none⟩,
 ⟨(some 49), .ext 1 (.t 44), none⟩,
 ⟨(some 11), .mov (.t 48), none⟩,
 ⟨(some 12), .mov (.t 49), none⟩])
 (.seq
 (.reg [
 ⟨(some 50), .mov (.t 6), none⟩,
 ⟨(some 51), .mov (.t 8), none⟩,
 ⟨(some 52), .eqb false (.t 50) (.t 51), none⟩,
 ⟨(some 53), .mov (.t 52), none⟩,
 ⟨(some 54), .mov (.t 5), (some (53, true))⟩,
 ⟨(some 55), .mov (.t 7), (some (53, true))⟩,
 ⟨(some 56), .call 22 [(.t 54), (.t 55)], (some (53, true))⟩,
 ⟨(some 57), .pick (.t 53) (.t 56) (.k (.bool false)), none⟩,
 ⟨(some 58), .mov (.t 57), none⟩,
 ⟨(some 59), .mov (.t 10), (some (58, true))⟩,
 ⟨(some 60), .mov (.t 12), (some (58, true))⟩,
 ⟨(some 61), .eqb false (.t 59) (.t 60), (some (58, true))⟩,
 ⟨(some 62), .pick (.t 58) (.t 61) (.k (.bool false)), none⟩,
 ⟨(some 63), .mov (.t 62), none⟩,
 ⟨(some 64), .mov (.t 9), (some (63, true))⟩,
 ⟨(some 65), .mov (.t 11), (some (63, true))⟩,
 ⟨(some 66), .call 23 [(.t 64), (.t 65)], (some (63, true))⟩,
 ⟨(some 67), .pick (.t 63) (.t 66) (.k (.bool false)), none⟩,
 ⟨(some 4), .mov (.t 67), none⟩])
 .ret))))))))
theorem a3 : Go.Proofs.Try.f3.body.bind (comp Go.Proofs.Try.prog) = some A3 := by kernel_rfl
theorem r3 : compRVs Go.Proofs.Try.prog Go.Proofs.Try.f3.results.toList = some [.tmp 4] := by kernel_rfl
theorem n3 : (Go.Proofs.Try.f3.name == "runtime.NumGoroutine") = false := by decide +kernel
def E3 : Nat × ACode × Nat × List RV := (3, A3, 68, [.tmp 4])
theorem e3 : EntryOk Go.Proofs.Try.prog E3 := ⟨Go.Proofs.Try.f3, Go.Proofs.Try.func3, n3, a3, Go.Proofs.Try.ntmps3, r3⟩
/-! reedpen/reedpenlaw10.alive -/
def A17 : ACode :=
 (.seq
 (.reg [
 ⟨(some 0), .mov (.k (.bool false)), none⟩])
 (.seq
 (.reg [
 ⟨(some 6), .lits 1 5 [(.k (.int .u8 0)), (.k (.int .u8 1)), (.k (.int .u8 0)), (.k (.int .u8 2)), (.k (.int .u8 0)), (.k (.int .u8 5)), (.k (.int .u8 0)), (.k (.int .u8 6))], none⟩,
 ⟨(some 7), .call 18 [(.t 6), (.k (.int .i64 0))], none⟩,
 ⟨(some 5), .mov (.t 7), none⟩,
 ⟨(some 8), .ext 0 (.t 5), none⟩,
 ⟨(some 9), .ext 1 (.t 5), none⟩,
 ⟨(some 1), .mov (.t 8), none⟩,
 ⟨(some 2), .mov (.t 9), none⟩])
 (.seq
 (.reg [
 ⟨(some 11), .lits 1 5 [(.k (.int .u8 0)), (.k (.int .u8 1)), (.k (.int .u8 0)), (.k (.int .u8 5)), (.k (.int .u8 0)), (.k (.int .u8 2)), (.k (.int .u8 0)), (.k (.int .u8 0)), (.k (.int .u8 0)), (.k (.int .u8 3))], none⟩,
 ⟨(some 12), .call 20 [(.t 11), (.k (.int .i64 0))], none⟩,
 ⟨(some 10), .mov (.t 12), none⟩,
 ⟨(some 13), .ext 0 (.t 10), none⟩,
 ⟨(some 14), .ext 1 (.t 10), none⟩,
 ⟨(some 3), .mov (.t 13), none⟩,
 ⟨(some 4), .mov (.t 14), none⟩])
 (.seq
 (.reg [
 ⟨(some 15), .mov (.t 2), none⟩,
 ⟨(some 16), .mov (.t 15), none⟩,
 ⟨(some 17), .mov (.t 4), (some (16, true))⟩,
 ⟨(some 18), .pick (.t 16) (.t 17) (.k (.bool false)), none⟩,
 ⟨(some 19), .mov (.t 18), none⟩,
 ⟨(some 20), .mov (.t 1), (some (19, true))⟩,
 ⟨(some 21), .len false (.t 20), (some (19, true))⟩,
 ⟨(some 22), .bin .eql (.t 21) (.k (.int .i64 1)), (some (19, true))⟩,
 ⟨(some 23), .pick (.t 19) (.t 22) (.k (.bool false)), none⟩,
 ⟨(some 24), .mov (.t 23), none⟩,
 ⟨(some 25), .mov (.t 1), (some (24, true))⟩,
 ⟨(some 26), .call 26 [(.t 25), (.k (.int .i64 6))], (some (24, true))⟩,
 ⟨(some 27), .bin .eql (.t 26) (.k (.int .i64 1)), (some (24, true))⟩,
 ⟨(some 28), .pick (.t 24) (.t 27) (.k (.bool false)), none⟩,
 ⟨(some 29), .mov (.t 28), none⟩,
 ⟨(some 30), .mov (.t 1), (some (29, true))⟩,
 ⟨(some 31), .call 28 [(.t 30)], (some (29, true))⟩,
 ⟨(some 32), .bin .eql (.t 31) (.k (.int .i64 2)), (some (29, true))⟩,
 ⟨(some 33), .pick (.t 29) (.t 32) (.k (.bool false)), none⟩,
 ⟨(some 34), .mov (.t 33), none⟩,
 ⟨(some 35), .mov (.t 3), (some (34, true))⟩,
 ⟨(some 36), .call 29 [(.t 35), (.k (.int .i64 6))], (some (34, true))⟩,
 ⟨(some 37), .bin .eql (.t 36) (.k (.int .i64 3)), (some (34, true))⟩,
 ⟨(some 38), .pick (.t 34) (.t 37) (.k (.bool false)), none⟩,
 ⟨(some 39), .mov (.t 38), none⟩,
 ⟨(some 40), .mov (.t 3), (some (39, true))⟩,
 ⟨(some 41), .call 33 [(.t 40), (.k (.int .i64 0))], (some (39, true))⟩,
 ⟨(some 42), .call 31 [(.t 41), (.k (.int .i64 5))], (some (39, true))⟩,
 ⟨(some 43), .pick (.t 39) (.t 42) (.k (.bool false)), none⟩,
 ⟨(some 44), .mov (.t 43), none⟩,
 ⟨(some 45), .mov (.t 1), (some (44, true))⟩,
 ⟨(some 46), .mov (.t 3), (some (44, true))⟩,
 ⟨(some 47), .call 33 [(.t 46), (.k (.int .i64 3))], (some (44, true))⟩,
 ⟨(some 48), .call 34 [(.t 45), (.t 47)], (some (44, true))⟩,
 ⟨(some 49), .len false (.t 48), (some (44, true))⟩,
 ⟨(some 50), .bin .eql (.t 49) (.k (.int .i64 1)), (some (44, true))⟩,
 ⟨(some 51), .pick (.t 44) (.t 50) (.k (.bool false)), none⟩,
 ⟨(some 0), .mov (.t 51), none⟩])
 .ret))))
theorem a17 : Go.Proofs.Try.f17.body.bind (comp Go.Proofs.Try.prog) = some A17 := by kernel_rfl
theorem r17 : compRVs Go.Proofs.Try.prog Go.Proofs.Try.f17.results.toList = some [.tmp 0] := by kernel_rfl
theorem n17 : (Go.Proofs.Try.f17.name == "runtime.NumGoroutine") = false := by decide +kernel
def E17 : Nat × ACode × Nat × List RV := (17, A17, 52, [.tmp 0])
theorem e17 : EntryOk Go.Proofs.Try.prog E17 := ⟨Go.Proofs.Try.f17, Go.Proofs.Try.func17, n17, a17, Go.Proofs.Try.ntmps17, r17⟩
/-! reedpen/cover.Cover -/
def A18 : ACode :=
 (.seq
 (.reg [
 ⟨(some 4), .mov (.k (.vec true [])), none⟩,
 ⟨(some 5), .mov (.k (.bool false)), none⟩])
 (.seq
 (.seq
 (.reg [
 ⟨(some 6), .mov (.t 0), none⟩,
 ⟨(some 7), .mov (.t 1), none⟩,
 ⟨(some 8), .call 53 [(.t 6), (.t 7)], none⟩])
 (.block 0
 (.seq
 (.reg [
 ⟨(some 10), .bin .eql (.t 8) (.k (.int .i64 1)), none⟩,
 ⟨(some 9), .mov (.t 10), none⟩])
 (.cond (.t 9)
 (.seq
 (.reg [
 ⟨(some 11), .mov (.t 0), none⟩,
 ⟨(some 12), .mov (.t 1), none⟩,
 ⟨(some 13), .call 54 [(.t 11), (.t 12)], none⟩,
 ⟨(some 14), .ext 0 (.t 13), none⟩,
 ⟨(some 15), .ext 1 (.t 13), none⟩,
 ⟨(some 4), .mov (.t 14), none⟩,
 ⟨(some 5), .mov (.t 15), none⟩])
 .ret)
 (.seq
 (.reg [
 ⟨(some 17), .bin .eql (.t 8) (.k (.int .i64 2)), none⟩,
 ⟨(some 16), .mov (.t 17), none⟩])
 (.cond (.t 16)
 (.seq
 (.reg [
 ⟨(some 18), .mov (.t 0), none⟩,
 ⟨(some 19), .mov (.t 1), none⟩,
 ⟨(some 20), .call 55 [(.t 18), (.t 19)], none⟩,
 ⟨(some 21), .ext 0 (.t 20), none⟩,
 ⟨(some 22), .ext 1 (.t 20), none⟩,
 ⟨(some 4), .mov (.t 21), none⟩,
 ⟨(some 5), .mov (.t 22), none⟩])
 .ret)
 .skip))))))
 (.seq
 (.reg [
 ⟨(some 4), .mov (.k (.vec true [])), none⟩,
 ⟨(some 5), .mov (.k (.bool false)), none⟩])
 .ret)))
theorem a18 : Go.Proofs.Try.f18.body.bind (comp Go.Proofs.Try.prog) = some A18 := by kernel_rfl
theorem r18 : compRVs Go.Proofs.Try.prog Go.Proofs.Try.f18.results.toList = some [.tmp 4, .tmp 5] := by kernel_rfl
theorem n18 : (Go.Proofs.Try.f18.name == "runtime.NumGoroutine") = false := by decide +kernel
def E18 : Nat × ACode × Nat × List RV := (18, A18, 23, [.tmp 4, .tmp 5])
theorem e18 : EntryOk Go.Proofs.Try.prog E18 := ⟨Go.Proofs.Try.f18, Go.Proofs.Try.func18, n18, a18, Go.Proofs.Try.ntmps18, r18⟩
/-! reedpen/reedpenref10.Cover -/
def A19 : ACode :=
 (.seq
 (.reg [
 ⟨(some 4), .mov (.k (.vec true [])), none⟩,
 ⟨(some 5), .mov (.k (.bool false)), none⟩])
 (.seq
 (.reg [
 ⟨(some 11), .mov (.t 0), none⟩,
 ⟨(some 12), .mov (.t 1), none⟩,
 ⟨(some 13), .call 56 [(.t 11), (.t 12), (.k (.bool false))], none⟩,
 ⟨(some 10), .mov (.t 13), none⟩,
 ⟨(some 14), .ext 0 (.t 10), none⟩,
 ⟨(some 15), .ext 1 (.t 10), none⟩,
 ⟨(some 6), .mov (.t 14), none⟩,
 ⟨(some 7), .mov (.t 15), none⟩])
 (.seq
 (.seq
 (.reg [
 ⟨(some 16), .mov (.t 7), none⟩,
 ⟨(some 17), .un .not (.t 16), none⟩])
 (.cond (.t 17)
 (.seq
 (.reg [
 ⟨(some 4), .mov (.k (.vec true [])), none⟩,
 ⟨(some 5), .mov (.k (.bool false)), none⟩])
 .ret)
 .skip))
 (.seq
 (.reg [
 ⟨(some 18), .mksl 1 1 [(.bool false)] 4 (.k (.int .i64 65536)), none⟩,
 ⟨(some 8), .mov (.t 18), none⟩])
 (.seq
 (.seq
 (.reg [
 ⟨(some 9), .mov (.k (.int .i64 0)), none⟩])
 (.block 0
 (.loop
 (.seq
 (.seq
 (.reg [
 ⟨(some 19), .mov (.t 9), none⟩,
 ⟨(some 20), .bin .lss (.t 19) (.k (.int .i64 65536)), none⟩])
 (.cond (.t 20)
 .skip
 (.exit 0)))
 (.seq
 (.block 1
 (.reg [
 ⟨(some 23), .mov (.t 8), none⟩,
 ⟨(some 24), .mov (.t 9), none⟩,
 ⟨(some 25), .mov (.t 6), none⟩,
 ⟨(some 26), .mov (.t 9), none⟩,
 ⟨(some 27), .idx 1 (.t 25) (.t 26), none⟩,
 ⟨(some 28), .load 1 false (.t 27), none⟩,
 ⟨(some 29), .bin .geq (.t 28) (.k (.int .i64 0)), none⟩,
 ⟨(some 30), .idx 1 (.t 23) (.t 24), none⟩,
 ⟨none, .store 1 (.t 30) (.t 29), none⟩]))
 (.reg [
 ⟨(some 21), .mov (.t 9), none⟩,
 ⟨(some 22), .bin .add (.t 21) (.k (.int .i64 1)), none⟩,
 ⟨(some 9), .mov (.t 22), none⟩]))))))
 (.seq
 (.reg [
 ⟨(some 31), .mov (.t 8), none⟩,
 ⟨(some 32), .call 35 [(.t 31)], none⟩,
 ⟨(some 4), .mov (.t 32), none⟩,
 ⟨(some 5), .mov (.k (.bool true)), none⟩])
 .ret))))))
theorem a19 : Go.Proofs.Try.f19.body.bind (comp Go.Proofs.Try.prog) = some A19 := by kernel_rfl
theorem r19 : compRVs Go.Proofs.Try.prog Go.Proofs.Try.f19.results.toList = some [.tmp 4, .tmp 5] := by kernel_rfl
theorem n19 : (Go.Proofs.Try.f19.name == "runtime.NumGoroutine") = false := by decide +kernel
def E19 : Nat × ACode × Nat × List RV := (19, A19, 33, [.tmp 4, .tmp 5])
theorem e19 : EntryOk Go.Proofs.Try.prog E19 := ⟨Go.Proofs.Try.f19, Go.Proofs.Try.func19, n19, a19, Go.Proofs.Try.ntmps19, r19⟩
/-! reedpen/cover.Classes -/
def A20 : ACode :=
 (.seq
 (.reg [
 ⟨(some 4), .mov (.k (.vec true [])), none⟩,
 ⟨(some 5), .mov (.k (.bool false)), none⟩])
 (.scope
 (.seq
 (.reg [
 ⟨(some 6), .mov (.k (.vec true [])), none⟩])
 (.seq
 (.reg [
 ⟨(some 7), .mov (.k (.bool false)), none⟩])
 (.seq
 (.label 0)
 (.seq
 (.seq
 (.reg [
 ⟨(some 20), .mov (.t 0), none⟩,
 ⟨(some 21), .mov (.t 1), none⟩,
 ⟨(some 22), .call 53 [(.t 20), (.t 21)], none⟩])
 (.block 0
 (.seq
 (.reg [
 ⟨(some 24), .bin .eql (.t 22) (.k (.int .i64 1)), none⟩,
 ⟨(some 23), .mov (.t 24), none⟩])
 (.cond (.t 23)
 (.seq
 (.reg [
 ⟨(some 26), .mov (.t 0), none⟩,
 ⟨(some 27), .mov (.t 1), none⟩,
 ⟨(some 28), .bin .add (.t 27) (.k (.int .i64 2)), none⟩,
 ⟨(some 29), .call 57 [(.t 26), (.t 28)], none⟩,
 ⟨(some 25), .mov (.t 29), none⟩,
 ⟨(some 30), .ext 0 (.t 25), none⟩,
 ⟨(some 31), .ext 1 (.t 25), none⟩,
 ⟨(some 8), .mov (.t 30), none⟩,
 ⟨(some 9), .mov (.t 31), none⟩])
 (.seq
 (.reg [
 ⟨(some 33), .mov (.t 0), none⟩,
 ⟨(some 34), .mov (.t 1), none⟩,
 ⟨(some 35), .bin .add (.t 34) (.k (.int .i64 4)), none⟩,
 ⟨(some 36), .call 57 [(.t 33), (.t 35)], none⟩,
 ⟨(some 32), .mov (.t 36), none⟩,
 ⟨(some 37), .ext 0 (.t 32), none⟩,
 ⟨(some 38), .ext 1 (.t 32), none⟩,
 ⟨(some 10), .mov (.t 37), none⟩,
 ⟨(some 11), .mov (.t 38), none⟩])
 (.seq
 (.reg [
 ⟨(some 40), .mov (.t 0), none⟩,
 ⟨(some 41), .mov (.t 1), none⟩,
 ⟨(some 42), .bin .add (.t 41) (.k (.int .i64 4)), none⟩,
 ⟨(some 43), .bin .add (.t 42) (.k (.int .i64 2)), none⟩,
 ⟨(some 44), .mov (.t 10), none⟩,
 ⟨(some 45), .call 58 [(.t 40), (.t 43), (.t 44), (.k (.int .i64 2))], none⟩,
 ⟨(some 39), .mov (.t 45), none⟩,
 ⟨(some 46), .ext 0 (.t 39), none⟩,
 ⟨(some 47), .ext 1 (.t 39), none⟩,
 ⟨(some 12), .mov (.t 46), none⟩,
 ⟨(some 13), .mov (.t 47), none⟩])
 (.seq
 (.seq
 (.reg [
 ⟨(some 48), .mov (.t 11), none⟩,
 ⟨(some 49), .un .not (.t 48), none⟩,
 ⟨(some 50), .mov (.t 49), none⟩,
 ⟨(some 51), .mov (.t 13), (some (50, false))⟩,
 ⟨(some 52), .un .not (.t 51), (some (50, false))⟩,
 ⟨(some 53), .pick (.t 50) (.k (.bool true)) (.t 52), none⟩,
 ⟨(some 54), .mov (.t 53), none⟩,
 ⟨(some 55), .mov (.t 8), (some (54, false))⟩,
 ⟨(some 56), .mov (.t 10), (some (54, false))⟩,
 ⟨(some 57), .bin .add (.t 55) (.t 56), (some (54, false))⟩,
 ⟨(some 58), .bin .gtr (.t 57) (.k (.int .i64 65536)), (some (54, false))⟩,
 ⟨(some 59), .pick (.t 54) (.k (.bool true)) (.t 58), none⟩])
 (.cond (.t 59)
 (.exit 0)
 .skip))
 (.seq
 (.seq
 (.reg [
 ⟨(some 60), .mov (.t 12), none⟩,
 ⟨(some 61), .len false (.t 60), none⟩,
 ⟨(some 62), .mov (.k (.int .i64 0)), none⟩])
 (.block 1
 (.loop
 (.seq
 (.reg [
 ⟨(some 63), .bin .lss (.t 62) (.t 61), none⟩])
 (.seq
 (.cond (.t 63)
 .skip
 (.exit 1))
 (.seq
 (.block 2
 (.seq
 (.reg [
 ⟨(some 64), .mov (.t 62), none⟩,
 ⟨(some 65), .idx 1 (.t 60) (.t 62), none⟩,
 ⟨(some 66), .load 1 false (.t 65), none⟩,
 ⟨(some 14), .mov (.t 64), none⟩,
 ⟨(some 15), .mov (.t 66), none⟩])
 (.reg [
 ⟨(some 67), .mov (.t 6), none⟩,
 ⟨(some 68), .mov (.t 8), none⟩,
 ⟨(some 69), .mov (.t 14), none⟩,
 ⟨(some 70), .bin .add (.t 68) (.t 69), none⟩,
 ⟨(some 71), .mov (.t 8), none⟩,
 ⟨(some 72), .mov (.t 14), none⟩,
 ⟨(some 73), .bin .add (.t 71) (.t 72), none⟩,
 ⟨(some 74), .mov (.t 15), none⟩,
 ⟨(some 75), .build [(.int .i64 0), (.int .i64 0), (.int .i64 0)] [(0, 1, (.t 70)), (1, 1, (.t 73)), (2, 1, (.t 74))], none⟩,
 ⟨(some 76), .call 59 [(.t 67), (.t 75)], none⟩,
 ⟨(some 6), .mov (.t 76), none⟩])))
 (.reg [
 ⟨(some 77), .bin .add (.t 62) (.k (.int .i64 1)), none⟩,
 ⟨(some 62), .mov (.t 77), none⟩])))))))
 (.reg [
 ⟨(some 7), .mov (.k (.bool true)), none⟩]))))))
 (.seq
 (.reg [
 ⟨(some 79), .bin .eql (.t 22) (.k (.int .i64 2)), none⟩,
 ⟨(some 78), .mov (.t 79), none⟩])
 (.cond (.t 78)
 (.seq
 (.reg [
 ⟨(some 81), .mov (.t 0), none⟩,
 ⟨(some 82), .mov (.t 1), none⟩,
 ⟨(some 83), .call 60 [(.t 81), (.t 82)], none⟩,
 ⟨(some 80), .mov (.t 83), none⟩,
 ⟨(some 84), .ext 0 (.t 80), none⟩,
 ⟨(some 85), .ext 1 (.t 80), none⟩,
 ⟨(some 16), .mov (.t 84), none⟩,
 ⟨(some 17), .mov (.t 85), none⟩])
 (.seq
 (.seq
 (.reg [
 ⟨(some 86), .mov (.t 16), none⟩,
 ⟨(some 87), .len false (.t 86), none⟩,
 ⟨(some 88), .mov (.k (.int .i64 0)), none⟩])
 (.block 3
 (.loop
 (.seq
 (.reg [
 ⟨(some 89), .bin .lss (.t 88) (.t 87), none⟩])
 (.seq
 (.cond (.t 89)
 .skip
 (.exit 3))
 (.seq
 (.block 4
 (.seq
 (.reg [
 ⟨(some 90), .idx 3 (.t 86) (.t 88), none⟩,
 ⟨(some 91), .load 3 true (.t 90), none⟩,
 ⟨(some 19), .new [(.int .i64 0), (.int .i64 0), (.int .i64 0)] 97, none⟩,
 ⟨none, .store 3 (.t 19) (.t 91), none⟩])
 (.reg [
 ⟨(some 92), .mov (.t 6), none⟩,
 ⟨(some 93), .idxa 1 3 (.t 19) (.k (.int .i64 0)), none⟩,
 ⟨(some 94), .load 1 false (.t 93), none⟩,
 ⟨(some 95), .idxa 1 3 (.t 19) (.k (.int .i64 1)), none⟩,
 ⟨(some 96), .load 1 false (.t 95), none⟩,
 ⟨(some 97), .idxa 1 3 (.t 19) (.k (.int .i64 2)), none⟩,
 ⟨(some 98), .load 1 false (.t 97), none⟩,
 ⟨(some 99), .build [(.int .i64 0), (.int .i64 0), (.int .i64 0)] [(0, 1, (.t 94)), (1, 1, (.t 96)), (2, 1, (.t 98))], none⟩,
 ⟨(some 100), .call 59 [(.t 92), (.t 99)], none⟩,
 ⟨(some 6), .mov (.t 100), none⟩])))
 (.reg [
 ⟨(some 101), .bin .add (.t 88) (.k (.int .i64 1)), none⟩,
 ⟨(some 88), .mov (.t 101), none⟩])))))))
 (.reg [
 ⟨(some 102), .mov (.t 17), none⟩,
 ⟨(some 7), .mov (.t 102), none⟩])))
 .skip))))))
 (.seq
 (.reg [
 ⟨(some 103), .mov (.t 6), none⟩,
 ⟨(some 104), .mov (.t 7), none⟩,
 ⟨(some 4), .mov (.t 103), none⟩,
 ⟨(some 5), .mov (.t 104), none⟩])
 .ret)))))))
theorem a20 : Go.Proofs.Try.f20.body.bind (comp Go.Proofs.Try.prog) = some A20 := by kernel_rfl
theorem r20 : compRVs Go.Proofs.Try.prog Go.Proofs.Try.f20.results.toList = some [.tmp 4, .tmp 5] := by kernel_rfl
theorem n20 : (Go.Proofs.Try.f20.name == "runtime.NumGoroutine") = false := by decide +kernel
def E20 : Nat × ACode × Nat × List RV := (20, A20, 105, [.tmp 4, .tmp 5])
theorem e20 : EntryOk Go.Proofs.Try.prog E20 := ⟨Go.Proofs.Try.f20, Go.Proofs.Try.func20, n20, a20, Go.Proofs.Try.ntmps20, r20⟩
/-! reedpen/reedpenref10.Classes -/
def A21 : ACode :=
 (.seq
 (.reg [
 ⟨(some 4), .mov (.k (.vec true [])), none⟩,
 ⟨(some 5), .mov (.k (.bool false)), none⟩])
 (.seq
 (.reg [
 ⟨(some 12), .mov (.t 0), none⟩,
 ⟨(some 13), .mov (.t 1), none⟩,
 ⟨(some 14), .call 56 [(.t 12), (.t 13), (.k (.bool true))], none⟩,
 ⟨(some 11), .mov (.t 14), none⟩,
 ⟨(some 15), .ext 0 (.t 11), none⟩,
 ⟨(some 16), .ext 1 (.t 11), none⟩,
 ⟨(some 6), .mov (.t 15), none⟩,
 ⟨(some 7), .mov (.t 16), none⟩])
 (.seq
 (.seq
 (.reg [
 ⟨(some 17), .mov (.t 7), none⟩,
 ⟨(some 18), .un .not (.t 17), none⟩])
 (.cond (.t 18)
 (.seq
 (.reg [
 ⟨(some 4), .mov (.k (.vec true [])), none⟩,
 ⟨(some 5), .mov (.k (.bool false)), none⟩])
 .ret)
 .skip))
 (.seq
 (.reg [
 ⟨(some 8), .mov (.k (.vec true [])), none⟩])
 (.seq
 (.seq
 (.reg [
 ⟨(some 9), .mov (.k (.int .i64 0)), none⟩])
 (.block 0
 (.loop
 (.seq
 (.seq
 (.reg [
 ⟨(some 19), .mov (.t 9), none⟩,
 ⟨(some 20), .bin .lss (.t 19) (.k (.int .i64 65536)), none⟩])
 (.cond (.t 20)
 .skip
 (.exit 0)))
 (.seq
 (.block 1
 (.seq
 (.seq
 (.reg [
 ⟨(some 23), .mov (.t 6), none⟩,
 ⟨(some 24), .mov (.t 9), none⟩,
 ⟨(some 25), .idx 1 (.t 23) (.t 24), none⟩,
 ⟨(some 26), .load 1 false (.t 25), none⟩,
 ⟨(some 27), .bin .leq (.t 26) (.k (.int .i64 0)), none⟩])
 (.cond (.t 27)
 (.exit 1)
 .skip))
 (.seq
 (.reg [
 ⟨(some 28), .mov (.t 9), none⟩,
 ⟨(some 10), .mov (.t 28), none⟩])
 (.seq
 (.block 2
 (.loop
 (.seq
 (.seq
 (.regd [
 ⟨⟨(some 29), .mov (.t 10), none⟩, 0, [], false⟩,
 ⟨⟨(some 30), .bin .add (.t 29) (.k (.int .i64 1)), none⟩, 1, [], false⟩,
 ⟨⟨(some 31), .bin .lss (.t 30) (.k (.int .i64 65536)), none⟩, 2, [], false⟩,
 ⟨⟨(some 32), .mov (.t 31), none⟩, 3, [], false⟩,
 ⟨⟨(some 33), .mov (.t 6), (some (32, true))⟩, 4, [], false⟩,
 ⟨⟨(some 34), .mov (.t 10), (some (32, true))⟩, 5, [], false⟩,
 ⟨⟨(some 35), .bin .add (.t 34) (.k (.int .i64 1)), (some (32, true))⟩, 6, [], false⟩,
 ⟨⟨(some 36), .idx 1 (.t 33) (.t 35), (some (32, true))⟩, 7, [], false⟩,
 ⟨⟨(some 37), .load 1 false (.t 36), (some (32, true))⟩, 8, [], false⟩,
 ⟨⟨(some 38), .mov (.t 6), (some (32, true))⟩, 9, [], false⟩,
 ⟨⟨(some 39), .mov (.t 9), (some (32, true))⟩, 10, [], false⟩,
 ⟨⟨(some 40), .idx 1 (.t 38) (.t 39), (some (32, true))⟩, 11, [], false⟩,
 ⟨⟨(some 41), .load 1 false (.t 40), (some (32, true))⟩, 12, [], false⟩,
 ⟨⟨(some 42), .bin .eql (.t 37) (.t 41), (some (32, true))⟩, 13, [], false⟩,
 ⟨⟨(some 43), .pick (.t 32) (.t 42) (.k (.bool false)), none⟩, 14, [], false⟩])
 (.cond (.t 43)
 .skip
 (.exit 2)))
 (.block 3
 (.reg [
 ⟨(some 44), .mov (.t 10), none⟩,
 ⟨(some 45), .bin .add (.t 44) (.k (.int .i64 1)), none⟩,
 ⟨(some 10), .mov (.t 45), none⟩])))))
 (.seq
 (.reg [
 ⟨(some 46), .mov (.t 8), none⟩,
 ⟨(some 47), .mov (.t 9), none⟩,
 ⟨(some 48), .mov (.t 10), none⟩,
 ⟨(some 49), .mov (.t 6), none⟩,
 ⟨(some 50), .mov (.t 9), none⟩,
 ⟨(some 51), .idx 1 (.t 49) (.t 50), none⟩,
 ⟨(some 52), .load 1 false (.t 51), none⟩,
 ⟨(some 53), .build [(.int .i64 0), (.int .i64 0), (.int .i64 0)] [(0, 1, (.t 47)), (1, 1, (.t 48)), (2, 1, (.t 52))], none⟩,
 ⟨(some 54), .lits 3 48 [(.t 53)], none⟩,
 ⟨(some 55), .app 3 24 48 (.t 46) (.t 54), none⟩,
 ⟨(some 8), .mov (.t 55), none⟩])
 (.reg [
 ⟨(some 56), .mov (.t 10), none⟩,
 ⟨(some 9), .mov (.t 56), none⟩]))))))
 (.reg [
 ⟨(some 21), .mov (.t 9), none⟩,
 ⟨(some 22), .bin .add (.t 21) (.k (.int .i64 1)), none⟩,
 ⟨(some 9), .mov (.t 22), none⟩]))))))
 (.seq
 (.reg [
 ⟨(some 57), .mov (.t 8), none⟩,
 ⟨(some 4), .mov (.t 57), none⟩,
 ⟨(some 5), .mov (.k (.bool true)), none⟩])
 .ret))))))
theorem a21 : Go.Proofs.Try.f21.body.bind (comp Go.Proofs.Try.prog) = some A21 := by kernel_rfl
theorem r21 : compRVs Go.Proofs.Try.prog Go.Proofs.Try.f21.results.toList = some [.tmp 4, .tmp 5] := by kernel_rfl
theorem n21 : (Go.Proofs.Try.f21.name == "runtime.NumGoroutine") = false := by decide +kernel
def E21 : Nat × ACode × Nat × List RV := (21, A21, 58, [.tmp 4, .tmp 5])
theorem e21 : EntryOk Go.Proofs.Try.prog E21 := ⟨Go.Proofs.Try.f21, Go.Proofs.Try.func21, n21, a21, Go.Proofs.Try.ntmps21, r21⟩
/-! reedpen/reedpenref10.Same -/
def A22 : ACode :=
 (.seq
 (.reg [
 ⟨(some 4), .mov (.k (.bool false)), none⟩])
 (.seq
 (.seq
 (.reg [
 ⟨(some 6), .mov (.t 0), none⟩,
 ⟨(some 7), .len false (.t 6), none⟩,
 ⟨(some 8), .mov (.t 1), none⟩,
 ⟨(some 9), .len false (.t 8), none⟩,
 ⟨(some 10), .bin .neq (.t 7) (.t 9), none⟩])
 (.cond (.t 10)
 (.seq
 (.reg [
 ⟨(some 4), .mov (.k (.bool false)), none⟩])
 .ret)
 .skip))
 (.seq
 (.seq
 (.reg [
 ⟨(some 5), .mov (.k (.int .i64 0)), none⟩])
 (.block 0
 (.loop
 (.seq
 (.seq
 (.reg [
 ⟨(some 11), .mov (.t 5), none⟩,
 ⟨(some 12), .mov (.t 0), none⟩,
 ⟨(some 13), .len false (.t 12), none⟩,
 ⟨(some 14), .bin .lss (.t 11) (.t 13), none⟩])
 (.cond (.t 14)
 .skip
 (.exit 0)))
 (.seq
 (.block 1
 (.seq
 (.regd [
 ⟨⟨(some 17), .mov (.t 0), none⟩, 0, [], false⟩,
 ⟨⟨(some 18), .mov (.t 5), none⟩, 1, [], false⟩,
 ⟨⟨(some 19), .idx 2 (.t 17) (.t 18), none⟩, 2, [], false⟩,
 ⟨⟨(some 20), .load 2 true (.t 19), none⟩, 3, [], false⟩,
 ⟨⟨(some 21), .mov (.t 1), none⟩, 4, [], false⟩,
 ⟨⟨(some 22), .mov (.t 5), none⟩, 5, [], false⟩,
 ⟨⟨(some 23), .idx 2 (.t 21) (.t 22), none⟩, 6, [], false⟩,
 ⟨⟨(some 24), .load 2 true (.t 23), none⟩, 7, [], false⟩,
 ⟨⟨(some 25), .eqs true [0, 0] (.t 20) (.t 24), none⟩, 8, [], false⟩])
 (.cond (.t 25)
 (.seq
 (.reg [
 ⟨(some 4), .mov (.k (.bool false)), none⟩])
 .ret)
 .skip)))
 (.reg [
 ⟨(some 15), .mov (.t 5), none⟩,
 ⟨(some 16), .bin .add (.t 15) (.k (.int .i64 1)), none⟩,
 ⟨(some 5), .mov (.t 16), none⟩]))))))
 (.seq
 (.reg [
 ⟨(some 4), .mov (.k (.bool true)), none⟩])
 .ret))))
theorem a22 : Go.Proofs.Try.f22.body.bind (comp Go.Proofs.Try.prog) = some A22 := by kernel_rfl
theorem r22 : compRVs Go.Proofs.Try.prog Go.Proofs.Try.f22.results.toList = some [.tmp 4] := by kernel_rfl
theorem n22 : (Go.Proofs.Try.f22.name == "runtime.NumGoroutine") = false := by decide +kernel
def E22 : Nat × ACode × Nat × List RV := (22, A22, 26, [.tmp 4])
theorem e22 : EntryOk Go.Proofs.Try.prog E22 := ⟨Go.Proofs.Try.f22, Go.Proofs.Try.func22, n22, a22, Go.Proofs.Try.ntmps22, r22⟩
/-! reedpen/reedpenref10.SameClasses -/
def A23 : ACode :=
 (.seq
 (.reg [
 ⟨(some 4), .mov (.k (.bool false)), none⟩])
 (.seq
 (.seq
 (.reg [
 ⟨(some 6), .mov (.t 0), none⟩,
 ⟨(some 7), .len false (.t 6), none⟩,
 ⟨(some 8), .mov (.t 1), none⟩,
 ⟨(some 9), .len false (.t 8), none⟩,
 ⟨(some 10), .bin .neq (.t 7) (.t 9), none⟩])
 (.cond (.t 10)
 (.seq
 (.reg [
 ⟨(some 4), .mov (.k (.bool false)), none⟩])
 .ret)
 .skip))
 (.seq
 (.seq
 (.reg [
 ⟨(some 5), .mov (.k (.int .i64 0)), none⟩])
 (.block 0
 (.loop
 (.seq
 (.seq
 (.reg [
 ⟨(some 11), .mov (.t 5), none⟩,
 ⟨(some 12), .mov (.t 0), none⟩,
 ⟨(some 13), .len false (.t 12), none⟩,
 ⟨(some 14), .bin .lss (.t 11) (.t 13), none⟩])
 (.cond (.t 14)
 .skip
 (.exit 0)))
 (.seq
 (.block 1
 (.seq
 (.regd [
 ⟨⟨(some 17), .mov (.t 0), none⟩, 0, [], false⟩,
 ⟨⟨(some 18), .mov (.t 5), none⟩, 1, [], false⟩,
 ⟨⟨(some 19), .idx 3 (.t 17) (.t 18), none⟩, 2, [], false⟩,
 ⟨⟨(some 20), .load 3 true (.t 19), none⟩, 3, [], false⟩,
 ⟨⟨(some 21), .mov (.t 1), none⟩, 4, [], false⟩,
 ⟨⟨(some 22), .mov (.t 5), none⟩, 5, [], false⟩,
 ⟨⟨(some 23), .idx 3 (.t 21) (.t 22), none⟩, 6, [], false⟩,
 ⟨⟨(some 24), .load 3 true (.t 23), none⟩, 7, [], false⟩,
 ⟨⟨(some 25), .eqs true [0, 0, 0] (.t 20) (.t 24), none⟩, 8, [], false⟩])
 (.cond (.t 25)
 (.seq
 (.reg [
 ⟨(some 4), .mov (.k (.bool false)), none⟩])
 .ret)
 .skip)))
 (.reg [
 ⟨(some 15), .mov (.t 5), none⟩,
 ⟨(some 16), .bin .add (.t 15) (.k (.int .i64 1)), none⟩,
 ⟨(some 5), .mov (.t 16), none⟩]))))))
 (.seq
 (.reg [
 ⟨(some 4), .mov (.k (.bool true)), none⟩])
 .ret))))
theorem a23 : Go.Proofs.Try.f23.body.bind (comp Go.Proofs.Try.prog) = some A23 := by kernel_rfl
theorem r23 : compRVs Go.Proofs.Try.prog Go.Proofs.Try.f23.results.toList = some [.tmp 4] := by kernel_rfl
theorem n23 : (Go.Proofs.Try.f23.name == "runtime.NumGoroutine") = false := by decide +kernel
def E23 : Nat × ACode × Nat × List RV := (23, A23, 26, [.tmp 4])
theorem e23 : EntryOk Go.Proofs.Try.prog E23 := ⟨Go.Proofs.Try.f23, Go.Proofs.Try.func23, n23, a23, Go.Proofs.Try.ntmps23, r23⟩
/-! reedpen/cover.Index -/
def A26 : ACode :=
 (.seq
 (.reg [
 ⟨(some 4), .mov (.k (.int .i64 0)), none⟩])
 (.seq
 (.reg [
 ⟨(some 5), .mov (.k (.int .i64 0)), none⟩])
 (.seq
 (.seq
 (.reg [
 ⟨(some 8), .mov (.t 0), none⟩,
 ⟨(some 9), .len false (.t 8), none⟩,
 ⟨(some 10), .mov (.k (.int .i64 0)), none⟩])
 (.block 0
 (.loop
 (.seq
 (.reg [
 ⟨(some 11), .bin .lss (.t 10) (.t 9), none⟩])
 (.seq
 (.cond (.t 11)
 .skip
 (.exit 0))
 (.seq
 (.block 1
 (.seq
 (.reg [
 ⟨(some 12), .idx 2 (.t 8) (.t 10), none⟩,
 ⟨(some 13), .load 2 true (.t 12), none⟩,
 ⟨(some 7), .new [(.int .i64 0), (.int .i64 0)] 38, none⟩,
 ⟨none, .store 2 (.t 7) (.t 13), none⟩])
 (.seq
 (.seq
 (.reg [
 ⟨(some 14), .mov (.t 1), none⟩,
 ⟨(some 15), .fld 0 (.t 7), none⟩,
 ⟨(some 16), .load 1 false (.t 15), none⟩,
 ⟨(some 17), .bin .lss (.t 14) (.t 16), none⟩])
 (.cond (.t 17)
 (.exit 0)
 .skip))
 (.seq
 (.seq
 (.reg [
 ⟨(some 18), .mov (.t 1), none⟩,
 ⟨(some 19), .fld 1 (.t 7), none⟩,
 ⟨(some 20), .load 1 false (.t 19), none⟩,
 ⟨(some 21), .bin .leq (.t 18) (.t 20), none⟩])
 (.cond (.t 21)
 (.seq
 (.reg [
 ⟨(some 22), .mov (.t 5), none⟩,
 ⟨(some 23), .mov (.t 1), none⟩,
 ⟨(some 24), .bin .add (.t 22) (.t 23), none⟩,
 ⟨(some 25), .fld 0 (.t 7), none⟩,
 ⟨(some 26), .load 1 false (.t 25), none⟩,
 ⟨(some 27), .bin .sub (.t 24) (.t 26), none⟩,
 ⟨(some 4), .mov (.t 27), none⟩])
 .ret)
 .skip))
 (.reg [
 ⟨(some 28), .mov (.t 5), none⟩,
 ⟨(some 29), .fld 1 (.t 7), none⟩,
 ⟨(some 30), .load 1 false (.t 29), none⟩,
 ⟨(some 31), .fld 0 (.t 7), none⟩,
 ⟨(some 32), .load 1 false (.t 31), none⟩,
 ⟨(some 33), .bin .sub (.t 30) (.t 32), none⟩,
 ⟨(some 34), .bin .add (.t 33) (.k (.int .i64 1)), none⟩,
 ⟨(some 35), .bin .add (.t 28) (.t 34), none⟩,
 ⟨(some 5), .mov (.t 35), none⟩])))))
 (.reg [
 ⟨(some 36), .bin .add (.t 10) (.k (.int .i64 1)), none⟩,
 ⟨(some 10), .mov (.t 36), none⟩])))))))
 (.seq
 (.reg [
 ⟨(some 4), .mov (.k (.int .i64 (-1))), none⟩])
 .ret))))
theorem a26 : Go.Proofs.Try.f26.body.bind (comp Go.Proofs.Try.prog) = some A26 := by kernel_rfl
theorem r26 : compRVs Go.Proofs.Try.prog Go.Proofs.Try.f26.results.toList = some [.tmp 4] := by kernel_rfl
theorem n26 : (Go.Proofs.Try.f26.name == "runtime.NumGoroutine") = false := by decide +kernel
def E26 : Nat × ACode × Nat × List RV := (26, A26, 37, [.tmp 4])
theorem e26 : EntryOk Go.Proofs.Try.prog E26 := ⟨Go.Proofs.Try.f26, Go.Proofs.Try.func26, n26, a26, Go.Proofs.Try.ntmps26, r26⟩
/-! reedpen/cover.Count -/
def A28 : ACode :=
 (.seq
 (.reg [
 ⟨(some 2), .mov (.k (.int .i64 0)), none⟩])
 (.seq
 (.reg [
 ⟨(some 3), .mov (.k (.int .i64 0)), none⟩])
 (.seq
 (.seq
 (.reg [
 ⟨(some 6), .mov (.t 0), none⟩,
 ⟨(some 7), .len false (.t 6), none⟩,
 ⟨(some 8), .mov (.k (.int .i64 0)), none⟩])
 (.block 0
 (.loop
 (.seq
 (.reg [
 ⟨(some 9), .bin .lss (.t 8) (.t 7), none⟩])
 (.seq
 (.cond (.t 9)
 .skip
 (.exit 0))
 (.seq
 (.block 1
 (.seq
 (.reg [
 ⟨(some 10), .idx 2 (.t 6) (.t 8), none⟩,
 ⟨(some 11), .load 2 true (.t 10), none⟩,
 ⟨(some 5), .new [(.int .i64 0), (.int .i64 0)] 38, none⟩,
 ⟨none, .store 2 (.t 5) (.t 11), none⟩])
 (.reg [
 ⟨(some 12), .mov (.t 3), none⟩,
 ⟨(some 13), .fld 1 (.t 5), none⟩,
 ⟨(some 14), .load 1 false (.t 13), none⟩,
 ⟨(some 15), .fld 0 (.t 5), none⟩,
 ⟨(some 16), .load 1 false (.t 15), none⟩,
 ⟨(some 17), .bin .sub (.t 14) (.t 16), none⟩,
 ⟨(some 18), .bin .add (.t 17) (.k (.int .i64 1)), none⟩,
 ⟨(some 19), .bin .add (.t 12) (.t 18), none⟩,
 ⟨(some 3), .mov (.t 19), none⟩])))
 (.reg [
 ⟨(some 20), .bin .add (.t 8) (.k (.int .i64 1)), none⟩,
 ⟨(some 8), .mov (.t 20), none⟩])))))))
 (.seq
 (.reg [
 ⟨(some 21), .mov (.t 3), none⟩,
 ⟨(some 2), .mov (.t 21), none⟩])
 .ret))))
theorem a28 : Go.Proofs.Try.f28.body.bind (comp Go.Proofs.Try.prog) = some A28 := by kernel_rfl
theorem r28 : compRVs Go.Proofs.Try.prog Go.Proofs.Try.f28.results.toList = some [.tmp 2] := by kernel_rfl
theorem n28 : (Go.Proofs.Try.f28.name == "runtime.NumGoroutine") = false := by decide +kernel
def E28 : Nat × ACode × Nat × List RV := (28, A28, 22, [.tmp 2])
theorem e28 : EntryOk Go.Proofs.Try.prog E28 := ⟨Go.Proofs.Try.f28, Go.Proofs.Try.func28, n28, a28, Go.Proofs.Try.ntmps28, r28⟩
/-! reedpen/cover.Of -/
def A29 : ACode :=
 (.seq
 (.reg [
 ⟨(some 4), .mov (.k (.int .i64 0)), none⟩])
 (.seq
 (.seq
 (.reg [
 ⟨(some 7), .mov (.t 0), none⟩,
 ⟨(some 8), .len false (.t 7), none⟩,
 ⟨(some 9), .mov (.k (.int .i64 0)), none⟩])
 (.block 0
 (.loop
 (.seq
 (.reg [
 ⟨(some 10), .bin .lss (.t 9) (.t 8), none⟩])
 (.seq
 (.cond (.t 10)
 .skip
 (.exit 0))
 (.seq
 (.block 1
 (.seq
 (.reg [
 ⟨(some 11), .idx 3 (.t 7) (.t 9), none⟩,
 ⟨(some 12), .load 3 true (.t 11), none⟩,
 ⟨(some 6), .new [(.int .i64 0), (.int .i64 0), (.int .i64 0)] 48, none⟩,
 ⟨none, .store 3 (.t 6) (.t 12), none⟩])
 (.seq
 (.reg [
 ⟨(some 13), .mov (.t 1), none⟩,
 ⟨(some 14), .fld 0 (.t 6), none⟩,
 ⟨(some 15), .load 1 false (.t 14), none⟩,
 ⟨(some 16), .bin .geq (.t 13) (.t 15), none⟩,
 ⟨(some 17), .mov (.t 16), none⟩,
 ⟨(some 18), .mov (.t 1), (some (17, true))⟩,
 ⟨(some 19), .fld 1 (.t 6), (some (17, true))⟩,
 ⟨(some 20), .load 1 false (.t 19), (some (17, true))⟩,
 ⟨(some 21), .bin .leq (.t 18) (.t 20), (some (17, true))⟩,
 ⟨(some 22), .pick (.t 17) (.t 21) (.k (.bool false)), none⟩])
 (.cond (.t 22)
 (.seq
 (.reg [
 ⟨(some 23), .fld 2 (.t 6), none⟩,
 ⟨(some 24), .load 1 false (.t 23), none⟩,
 ⟨(some 4), .mov (.t 24), none⟩])
 .ret)
 .skip))))
 (.reg [
 ⟨(some 25), .bin .add (.t 9) (.k (.int .i64 1)), none⟩,
 ⟨(some 9), .mov (.t 25), none⟩])))))))
 (.seq
 (.reg [
 ⟨(some 4), .mov (.k (.int .i64 0)), none⟩])
 .ret)))
theorem a29 : Go.Proofs.Try.f29.body.bind (comp Go.Proofs.Try.prog) = some A29 := by kernel_rfl
theorem r29 : compRVs Go.Proofs.Try.prog Go.Proofs.Try.f29.results.toList = some [.tmp 4] := by kernel_rfl
theorem n29 : (Go.Proofs.Try.f29.name == "runtime.NumGoroutine") = false := by decide +kernel
def E29 : Nat × ACode × Nat × List RV := (29, A29, 26, [.tmp 4])
theorem e29 : EntryOk Go.Proofs.Try.prog E29 := ⟨Go.Proofs.Try.f29, Go.Proofs.Try.func29, n29, a29, Go.Proofs.Try.ntmps29, r29⟩
/-! reedpen/cover.Has -/
def A31 : ACode :=
 (.seq
 (.reg [
 ⟨(some 2), .box (.t 0) 36, none⟩,
 ⟨(some 4), .mov (.k (.bool false)), none⟩])
 (.seq
 (.regd [
 ⟨⟨(some 5), .fld 0 (.t 2), none⟩, 0, [], false⟩,
 ⟨⟨(some 6), .load 1 false (.t 5), none⟩, 1, [], false⟩,
 ⟨⟨(some 7), .mov (.t 1), none⟩, 2, [], false⟩,
 ⟨⟨(some 10), .fld 1 (.t 2), none⟩, 5, [], false⟩,
 ⟨⟨(some 11), .load 1 false (.t 10), none⟩, 6, [], true⟩,
 ⟨⟨(some 8), .call 26 [(.t 6), (.t 7)], none⟩, 3, [1, 0, 2], false⟩,
 ⟨⟨(some 9), .bin .geq (.t 8) (.k (.int .i64 0)), none⟩, 4, [], false⟩,
 ⟨⟨(some 12), .eqb true (.t 9) (.t 11), none⟩, 7, [], false⟩,
 ⟨⟨(some 4), .mov (.t 12), none⟩, 8, [], false⟩])
 .ret))
theorem a31 : Go.Proofs.Try.f31.body.bind (comp Go.Proofs.Try.prog) = some A31 := by kernel_rfl
theorem r31 : compRVs Go.Proofs.Try.prog Go.Proofs.Try.f31.results.toList = some [.tmp 4] := by kernel_rfl
theorem n31 : (Go.Proofs.Try.f31.name == "runtime.NumGoroutine") = false := by decide +kernel
def E31 : Nat × ACode × Nat × List RV := (31, A31, 13, [.tmp 4])
theorem e31 : EntryOk Go.Proofs.Try.prog E31 := ⟨Go.Proofs.Try.f31, Go.Proofs.Try.func31, n31, a31, Go.Proofs.Try.ntmps31, r31⟩
/-! reedpen/cover.With -/
def A33 : ACode :=
 (.seq
 (.reg [
 ⟨(some 4), .new [(.vec true []), (.bool false)] 36, none⟩])
 (.seq
 (.reg [
 ⟨(some 8), .mov (.t 1), none⟩,
 ⟨(some 9), .bin .eql (.t 8) (.k (.int .i64 0)), none⟩,
 ⟨(some 10), .build [(.vec true []), (.bool false)] [(1, 1, (.t 9))], none⟩,
 ⟨(some 5), .new [(.vec true []), (.bool false)] 36, none⟩,
 ⟨none, .store 2 (.t 5) (.t 10), none⟩])
 (.seq
 (.seq
 (.reg [
 ⟨(some 11), .mov (.t 0), none⟩,
 ⟨(some 12), .len false (.t 11), none⟩,
 ⟨(some 13), .mov (.k (.int .i64 0)), none⟩])
 (.block 0
 (.loop
 (.seq
 (.reg [
 ⟨(some 14), .bin .lss (.t 13) (.t 12), none⟩])
 (.seq
 (.cond (.t 14)
 .skip
 (.exit 0))
 (.seq
 (.block 1
 (.seq
 (.reg [
 ⟨(some 15), .idx 3 (.t 11) (.t 13), none⟩,
 ⟨(some 16), .load 3 true (.t 15), none⟩,
 ⟨(some 7), .new [(.int .i64 0), (.int .i64 0), (.int .i64 0)] 48, none⟩,
 ⟨none, .store 3 (.t 7) (.t 16), none⟩])
 (.seq
 (.reg [
 ⟨(some 17), .mov (.t 1), none⟩,
 ⟨(some 18), .bin .eql (.t 17) (.k (.int .i64 0)), none⟩,
 ⟨(some 19), .mov (.t 18), none⟩,
 ⟨(some 20), .fld 2 (.t 7), (some (19, false))⟩,
 ⟨(some 21), .load 1 false (.t 20), (some (19, false))⟩,
 ⟨(some 22), .mov (.t 1), (some (19, false))⟩,
 ⟨(some 23), .bin .eql (.t 21) (.t 22), (some (19, false))⟩,
 ⟨(some 24), .pick (.t 19) (.k (.bool true)) (.t 23), none⟩])
 (.cond (.t 24)
 (.reg [
 ⟨(some 25), .fld 0 (.t 5), none⟩,
 ⟨(some 26), .load 1 false (.t 25), none⟩,
 ⟨(some 27), .fld 0 (.t 7), none⟩,
 ⟨(some 28), .load 1 false (.t 27), none⟩,
 ⟨(some 29), .fld 1 (.t 7), none⟩,
 ⟨(some 30), .load 1 false (.t 29), none⟩,
 ⟨(some 31), .build [(.int .i64 0), (.int .i64 0)] [(0, 1, (.t 28)), (1, 1, (.t 30))], none⟩,
 ⟨(some 32), .call 61 [(.t 26), (.t 31)], none⟩,
 ⟨(some 33), .fld 0 (.t 5), none⟩,
 ⟨none, .store 1 (.t 33) (.t 32), none⟩])
 .skip))))
 (.reg [
 ⟨(some 34), .bin .add (.t 13) (.k (.int .i64 1)), none⟩,
 ⟨(some 13), .mov (.t 34), none⟩])))))))
 (.seq
 (.reg [
 ⟨(some 35), .load 2 true (.t 5), none⟩,
 ⟨none, .store 2 (.t 4) (.t 35), none⟩])
 .ret))))
theorem a33 : Go.Proofs.Try.f33.body.bind (comp Go.Proofs.Try.prog) = some A33 := by kernel_rfl
theorem r33 : compRVs Go.Proofs.Try.prog Go.Proofs.Try.f33.results.toList = some [.cell 4 2 true] := by kernel_rfl
theorem n33 : (Go.Proofs.Try.f33.name == "runtime.NumGoroutine") = false := by decide +kernel
def E33 : Nat × ACode × Nat × List RV := (33, A33, 36, [.cell 4 2 true])
theorem e33 : EntryOk Go.Proofs.Try.prog E33 := ⟨Go.Proofs.Try.f33, Go.Proofs.Try.func33, n33, a33, Go.Proofs.Try.ntmps33, r33⟩
/-! reedpen/cover.Both -/
def A34 : ACode :=
 (.seq
 (.reg [
 ⟨(some 3), .box (.t 1) 36, none⟩,
 ⟨(some 4), .mov (.k (.vec true [])), none⟩])
 (.seq
 (.reg [
 ⟨(some 5), .new [(.vec true [])] 24, none⟩])
 (.seq
 (.reg [
 ⟨(some 12), .mkfn (.func 62) [] [(.t 5)], none⟩,
 ⟨(some 6), .mov (.t 12), none⟩])
 (.seq
 (.seq
 (.reg [
 ⟨(some 13), .mov (.t 0), none⟩,
 ⟨(some 14), .len false (.t 13), none⟩,
 ⟨(some 15), .mov (.k (.int .i64 0)), none⟩])
 (.block 0
 (.loop
 (.seq
 (.reg [
 ⟨(some 16), .bin .lss (.t 15) (.t 14), none⟩])
 (.seq
 (.cond (.t 16)
 .skip
 (.exit 0))
 (.seq
 (.block 1
 (.seq
 (.reg [
 ⟨(some 17), .idx 2 (.t 13) (.t 15), none⟩,
 ⟨(some 18), .load 2 true (.t 17), none⟩,
 ⟨(some 8), .new [(.int .i64 0), (.int .i64 0)] 38, none⟩,
 ⟨none, .store 2 (.t 8) (.t 18), none⟩])
 (.seq
 (.reg [
 ⟨(some 19), .fld 0 (.t 8), none⟩,
 ⟨(some 20), .load 1 false (.t 19), none⟩,
 ⟨(some 9), .mov (.t 20), none⟩])
 (.seq
 (.seq
 (.reg [
 ⟨(some 21), .fld 0 (.t 3), none⟩,
 ⟨(some 22), .load 1 false (.t 21), none⟩,
 ⟨(some 23), .len false (.t 22), none⟩,
 ⟨(some 24), .mov (.k (.int .i64 0)), none⟩])
 (.block 2
 (.loop
 (.seq
 (.reg [
 ⟨(some 25), .bin .lss (.t 24) (.t 23), none⟩])
 (.seq
 (.cond (.t 25)
 .skip
 (.exit 2))
 (.seq
 (.block 3
 (.seq
 (.reg [
 ⟨(some 26), .idx 2 (.t 22) (.t 24), none⟩,
 ⟨(some 27), .load 2 true (.t 26), none⟩,
 ⟨(some 11), .new [(.int .i64 0), (.int .i64 0)] 38, none⟩,
 ⟨none, .store 2 (.t 11) (.t 27), none⟩])
 (.seq
 (.seq
 (.reg [
 ⟨(some 28), .fld 1 (.t 11), none⟩,
 ⟨(some 29), .load 1 false (.t 28), none⟩,
 ⟨(some 30), .fld 0 (.t 8), none⟩,
 ⟨(some 31), .load 1 false (.t 30), none⟩,
 ⟨(some 32), .bin .lss (.t 29) (.t 31), none⟩,
 ⟨(some 33), .mov (.t 32), none⟩,
 ⟨(some 34), .fld 0 (.t 11), (some (33, false))⟩,
 ⟨(some 35), .load 1 false (.t 34), (some (33, false))⟩,
 ⟨(some 36), .fld 1 (.t 8), (some (33, false))⟩,
 ⟨(some 37), .load 1 false (.t 36), (some (33, false))⟩,
 ⟨(some 38), .bin .gtr (.t 35) (.t 37), (some (33, false))⟩,
 ⟨(some 39), .pick (.t 33) (.k (.bool true)) (.t 38), none⟩])
 (.cond (.t 39)
 (.exit 3)
 .skip))
 (.seq
 (.seq
 (.reg [
 ⟨(some 40), .fld 1 (.t 3), none⟩,
 ⟨(some 41), .load 1 false (.t 40), none⟩])
 (.cond (.t 41)
 (.reg [
 ⟨(some 42), .mov (.t 6), none⟩,
 ⟨(some 43), .mov (.t 9), none⟩,
 ⟨(some 44), .fld 0 (.t 11), none⟩,
 ⟨(some 45), .load 1 false (.t 44), none⟩,
 ⟨(some 46), .bin .sub (.t 45) (.k (.int .i64 1)), none⟩,
 ⟨(some 47), .callv (.t 42) [(.t 43), (.t 46)], none⟩])
 (.reg [
 ⟨(some 48), .mov (.t 6), none⟩,
 ⟨(some 49), .mov (.t 9), none⟩,
 ⟨(some 50), .fld 0 (.t 11), none⟩,
 ⟨(some 51), .load 1 false (.t 50), none⟩,
 ⟨(some 52), .minmax true (.t 49) (.t 51), none⟩,
 ⟨(some 53), .fld 1 (.t 8), none⟩,
 ⟨(some 54), .load 1 false (.t 53), none⟩,
 ⟨(some 55), .fld 1 (.t 11), none⟩,
 ⟨(some 56), .load 1 false (.t 55), none⟩,
 ⟨(some 57), .minmax false (.t 54) (.t 56), none⟩,
 ⟨(some 58), .callv (.t 48) [(.t 52), (.t 57)], none⟩])))
 (.reg [
 ⟨(some 59), .fld 1 (.t 11), none⟩,
 ⟨(some 60), .load 1 false (.t 59), none⟩,
 ⟨(some 61), .bin .add (.t 60) (.k (.int .i64 1)), none⟩,
 ⟨(some 9), .mov (.t 61), none⟩])))))
 (.reg [
 ⟨(some 62), .bin .add (.t 24) (.k (.int .i64 1)), none⟩,
 ⟨(some 24), .mov (.t 62), none⟩])))))))
 (.seq
 (.reg [
 ⟨(some 63), .fld 1 (.t 3), none⟩,
 ⟨(some 64), .load 1 false (.t 63), none⟩])
 (.cond (.t 64)
 (.reg [
 ⟨(some 65), .mov (.t 6), none⟩,
 ⟨(some 66), .mov (.t 9), none⟩,
 ⟨(some 67), .fld 1 (.t 8), none⟩,
 ⟨(some 68), .load 1 false (.t 67), none⟩,
 ⟨(some 69), .callv (.t 65) [(.t 66), (.t 68)], none⟩])
 .skip))))))
 (.reg [
 ⟨(some 70), .bin .add (.t 15) (.k (.int .i64 1)), none⟩,
 ⟨(some 15), .mov (.t 70), none⟩])))))))
 (.seq
 (.reg [
 ⟨(some 71), .load 1 false (.t 5), none⟩,
 ⟨(some 4), .mov (.t 71), none⟩])
 .ret)))))
theorem a34 : Go.Proofs.Try.f34.body.bind (comp Go.Proofs.Try.prog) = some A34 := by kernel_rfl
theorem r34 : compRVs Go.Proofs.Try.prog Go.Proofs.Try.f34.results.toList = some [.tmp 4] := by kernel_rfl
theorem n34 : (Go.Proofs.Try.f34.name == "runtime.NumGoroutine") = false := by decide +kernel
def E34 : Nat × ACode × Nat × List RV := (34, A34, 72, [.tmp 4])
theorem e34 : EntryOk Go.Proofs.Try.prog E34 := ⟨Go.Proofs.Try.f34, Go.Proofs.Try.func34, n34, a34, Go.Proofs.Try.ntmps34, r34⟩
/-! reedpen/reedpenref10.Spans -/
def A35 : ACode :=
 (.seq
 (.reg [
 ⟨(some 2), .mov (.k (.vec true [])), none⟩])
 (.seq
 (.reg [
 ⟨(some 3), .mov (.k (.vec true [])), none⟩])
 (.seq
 (.seq
 (.reg [
 ⟨(some 4), .mov (.k (.int .i64 0)), none⟩])
 (.block 0
 (.loop
 (.seq
 (.seq
 (.reg [
 ⟨(some 6), .mov (.t 4), none⟩,
 ⟨(some 7), .mov (.t 0), none⟩,
 ⟨(some 8), .len false (.t 7), none⟩,
 ⟨(some 9), .bin .lss (.t 6) (.t 8), none⟩])
 (.cond (.t 9)
 .skip
 (.exit 0)))
 (.seq
 (.block 1
 (.seq
 (.seq
 (.reg [
 ⟨(some 12), .mov (.t 0), none⟩,
 ⟨(some 13), .mov (.t 4), none⟩,
 ⟨(some 14), .idx 1 (.t 12) (.t 13), none⟩,
 ⟨(some 15), .load 1 false (.t 14), none⟩,
 ⟨(some 16), .un .not (.t 15), none⟩])
 (.cond (.t 16)
 (.exit 1)
 .skip))
 (.seq
 (.reg [
 ⟨(some 17), .mov (.t 4), none⟩,
 ⟨(some 5), .mov (.t 17), none⟩])
 (.seq
 (.block 2
 (.loop
 (.seq
 (.seq
 (.reg [
 ⟨(some 18), .mov (.t 5), none⟩,
 ⟨(some 19), .bin .add (.t 18) (.k (.int .i64 1)), none⟩,
 ⟨(some 20), .mov (.t 0), none⟩,
 ⟨(some 21), .len false (.t 20), none⟩,
 ⟨(some 22), .bin .lss (.t 19) (.t 21), none⟩,
 ⟨(some 23), .mov (.t 22), none⟩,
 ⟨(some 24), .mov (.t 0), (some (23, true))⟩,
 ⟨(some 25), .mov (.t 5), (some (23, true))⟩,
 ⟨(some 26), .bin .add (.t 25) (.k (.int .i64 1)), (some (23, true))⟩,
 ⟨(some 27), .idx 1 (.t 24) (.t 26), (some (23, true))⟩,
 ⟨(some 28), .load 1 false (.t 27), (some (23, true))⟩,
 ⟨(some 29), .pick (.t 23) (.t 28) (.k (.bool false)), none⟩])
 (.cond (.t 29)
 .skip
 (.exit 2)))
 (.block 3
 (.reg [
 ⟨(some 30), .mov (.t 5), none⟩,
 ⟨(some 31), .bin .add (.t 30) (.k (.int .i64 1)), none⟩,
 ⟨(some 5), .mov (.t 31), none⟩])))))
 (.seq
 (.reg [
 ⟨(some 32), .mov (.t 3), none⟩,
 ⟨(some 33), .mov (.t 4), none⟩,
 ⟨(some 34), .mov (.t 5), none⟩,
 ⟨(some 35), .build [(.int .i64 0), (.int .i64 0)] [(0, 1, (.t 33)), (1, 1, (.t 34))], none⟩,
 ⟨(some 36), .lits 2 38 [(.t 35)], none⟩,
 ⟨(some 37), .app 2 16 38 (.t 32) (.t 36), none⟩,
 ⟨(some 3), .mov (.t 37), none⟩])
 (.reg [
 ⟨(some 38), .mov (.t 5), none⟩,
 ⟨(some 4), .mov (.t 38), none⟩]))))))
 (.reg [
 ⟨(some 10), .mov (.t 4), none⟩,
 ⟨(some 11), .bin .add (.t 10) (.k (.int .i64 1)), none⟩,
 ⟨(some 4), .mov (.t 11), none⟩]))))))
 (.seq
 (.reg [
 ⟨(some 39), .mov (.t 3), none⟩,
 ⟨(some 2), .mov (.t 39), none⟩])
 .ret))))
theorem a35 : Go.Proofs.Try.f35.body.bind (comp Go.Proofs.Try.prog) = some A35 := by kernel_rfl
theorem r35 : compRVs Go.Proofs.Try.prog Go.Proofs.Try.f35.results.toList = some [.tmp 2] := by kernel_rfl
theorem n35 : (Go.Proofs.Try.f35.name == "runtime.NumGoroutine") = false := by decide +kernel
def E35 : Nat × ACode × Nat × List RV := (35, A35, 40, [.tmp 2])
theorem e35 : EntryOk Go.Proofs.Try.prog E35 := ⟨Go.Proofs.Try.f35, Go.Proofs.Try.func35, n35, a35, Go.Proofs.Try.ntmps35, r35⟩
/-! reedpen/cover.format -/
def A53 : ACode :=
 (.seq
 (.reg [
 ⟨(some 4), .mov (.k (.int .i64 0)), none⟩])
 (.seq
 (.reg [
 ⟨(some 8), .mov (.t 0), none⟩,
 ⟨(some 9), .mov (.t 1), none⟩,
 ⟨(some 10), .call 57 [(.t 8), (.t 9)], none⟩,
 ⟨(some 7), .mov (.t 10), none⟩,
 ⟨(some 11), .ext 0 (.t 7), none⟩,
 ⟨(some 12), .ext 1 (.t 7), none⟩,
 ⟨(some 5), .mov (.t 11), none⟩,
 ⟨(some 6), .mov (.t 12), none⟩])
 (.seq
 (.seq
 (.reg [
 ⟨(some 13), .mov (.t 6), none⟩,
 ⟨(some 14), .un .not (.t 13), none⟩])
 (.cond (.t 14)
 (.seq
 (.reg [
 ⟨(some 4), .mov (.k (.int .i64 0)), none⟩])
 .ret)
 .skip))
 (.seq
 (.reg [
 ⟨(some 15), .mov (.t 5), none⟩,
 ⟨(some 4), .mov (.t 15), none⟩])
 .ret))))
theorem a53 : Go.Proofs.Try.f53.body.bind (comp Go.Proofs.Try.prog) = some A53 := by kernel_rfl
theorem r53 : compRVs Go.Proofs.Try.prog Go.Proofs.Try.f53.results.toList = some [.tmp 4] := by kernel_rfl
theorem n53 : (Go.Proofs.Try.f53.name == "runtime.NumGoroutine") = false := by decide +kernel
def E53 : Nat × ACode × Nat × List RV := (53, A53, 16, [.tmp 4])
theorem e53 : EntryOk Go.Proofs.Try.prog E53 := ⟨Go.Proofs.Try.f53, Go.Proofs.Try.func53, n53, a53, Go.Proofs.Try.ntmps53, r53⟩
/-! reedpen/cover.glyphs -/
def A54 : ACode :=
 (.seq
 (.reg [
 ⟨(some 4), .mov (.k (.vec true [])), none⟩,
 ⟨(some 5), .mov (.k (.bool false)), none⟩])
 (.seq
 (.reg [
 ⟨(some 15), .mov (.t 0), none⟩,
 ⟨(some 16), .mov (.t 1), none⟩,
 ⟨(some 17), .bin .add (.t 16) (.k (.int .i64 2)), none⟩,
 ⟨(some 18), .call 57 [(.t 15), (.t 17)], none⟩,
 ⟨(some 14), .mov (.t 18), none⟩,
 ⟨(some 19), .ext 0 (.t 14), none⟩,
 ⟨(some 20), .ext 1 (.t 14), none⟩,
 ⟨(some 6), .mov (.t 19), none⟩,
 ⟨(some 7), .mov (.t 20), none⟩])
 (.seq
 (.reg [
 ⟨(some 22), .mov (.t 0), none⟩,
 ⟨(some 23), .mov (.t 1), none⟩,
 ⟨(some 24), .bin .add (.t 23) (.k (.int .i64 4)), none⟩,
 ⟨(some 25), .mov (.t 6), none⟩,
 ⟨(some 26), .call 58 [(.t 22), (.t 24), (.t 25), (.k (.int .i64 2))], none⟩,
 ⟨(some 21), .mov (.t 26), none⟩,
 ⟨(some 27), .ext 0 (.t 21), none⟩,
 ⟨(some 28), .ext 1 (.t 21), none⟩,
 ⟨(some 8), .mov (.t 27), none⟩,
 ⟨(some 9), .mov (.t 28), none⟩])
 (.seq
 (.seq
 (.reg [
 ⟨(some 29), .mov (.t 7), none⟩,
 ⟨(some 30), .un .not (.t 29), none⟩,
 ⟨(some 31), .mov (.t 30), none⟩,
 ⟨(some 32), .mov (.t 9), (some (31, false))⟩,
 ⟨(some 33), .un .not (.t 32), (some (31, false))⟩,
 ⟨(some 34), .pick (.t 31) (.k (.bool true)) (.t 33), none⟩])
 (.cond (.t 34)
 (.seq
 (.reg [
 ⟨(some 4), .mov (.k (.vec true [])), none⟩,
 ⟨(some 5), .mov (.k (.bool false)), none⟩])
 .ret)
 .skip))
 (.seq
 (.reg [
 ⟨(some 10), .mov (.k (.vec true [])), none⟩])
 (.seq
 (.reg [
 ⟨(some 11), .mov (.k (.int .i64 (-1))), none⟩])
 (.seq
 (.seq
 (.reg [
 ⟨(some 35), .mov (.t 8), none⟩,
 ⟨(some 36), .len false (.t 35), none⟩,
 ⟨(some 37), .mov (.k (.int .i64 0)), none⟩])
 (.block 0
 (.loop
 (.seq
 (.reg [
 ⟨(some 38), .bin .lss (.t 37) (.t 36), none⟩])
 (.seq
 (.cond (.t 38)
 .skip
 (.exit 0))
 (.seq
 (.block 1
 (.seq
 (.reg [
 ⟨(some 39), .idx 1 (.t 35) (.t 37), none⟩,
 ⟨(some 40), .load 1 false (.t 39), none⟩,
 ⟨(some 13), .mov (.t 40), none⟩])
 (.seq
 (.seq
 (.reg [
 ⟨(some 41), .mov (.t 13), none⟩,
 ⟨(some 42), .mov (.t 11), none⟩,
 ⟨(some 43), .bin .leq (.t 41) (.t 42), none⟩])
 (.cond (.t 43)
 (.seq
 (.reg [
 ⟨(some 4), .mov (.k (.vec true [])), none⟩,
 ⟨(some 5), .mov (.k (.bool false)), none⟩])
 .ret)
 .skip))
 (.seq
 (.reg [
 ⟨(some 44), .mov (.t 13), none⟩,
 ⟨(some 11), .mov (.t 44), none⟩])
 (.reg [
 ⟨(some 45), .mov (.t 10), none⟩,
 ⟨(some 46), .mov (.t 13), none⟩,
 ⟨(some 47), .mov (.t 13), none⟩,
 ⟨(some 48), .build [(.int .i64 0), (.int .i64 0)] [(0, 1, (.t 46)), (1, 1, (.t 47))], none⟩,
 ⟨(some 49), .call 61 [(.t 45), (.t 48)], none⟩,
 ⟨(some 10), .mov (.t 49), none⟩])))))
 (.reg [
 ⟨(some 50), .bin .add (.t 37) (.k (.int .i64 1)), none⟩,
 ⟨(some 37), .mov (.t 50), none⟩])))))))
 (.seq
 (.reg [
 ⟨(some 51), .mov (.t 10), none⟩,
 ⟨(some 4), .mov (.t 51), none⟩,
 ⟨(some 5), .mov (.k (.bool true)), none⟩])
 .ret))))))))
theorem a54 : Go.Proofs.Try.f54.body.bind (comp Go.Proofs.Try.prog) = some A54 := by kernel_rfl
theorem r54 : compRVs Go.Proofs.Try.prog Go.Proofs.Try.f54.results.toList = some [.tmp 4, .tmp 5] := by kernel_rfl
theorem n54 : (Go.Proofs.Try.f54.name == "runtime.NumGoroutine") = false := by decide +kernel
def E54 : Nat × ACode × Nat × List RV := (54, A54, 52, [.tmp 4, .tmp 5])
theorem e54 : EntryOk Go.Proofs.Try.prog E54 := ⟨Go.Proofs.Try.f54, Go.Proofs.Try.func54, n54, a54, Go.Proofs.Try.ntmps54, r54⟩
/-! reedpen/cover.ranges -/
def A55 : ACode :=
 (.seq
 (.reg [
 ⟨(some 4), .mov (.k (.vec true [])), none⟩,
 ⟨(some 5), .mov (.k (.bool false)), none⟩])
 (.seq
 (.reg [
 ⟨(some 13), .mov (.t 0), none⟩,
 ⟨(some 14), .mov (.t 1), none⟩,
 ⟨(some 15), .call 60 [(.t 13), (.t 14)], none⟩,
 ⟨(some 12), .mov (.t 15), none⟩,
 ⟨(some 16), .ext 0 (.t 12), none⟩,
 ⟨(some 17), .ext 1 (.t 12), none⟩,
 ⟨(some 6), .mov (.t 16), none⟩,
 ⟨(some 7), .mov (.t 17), none⟩])
 (.seq
 (.seq
 (.reg [
 ⟨(some 18), .mov (.t 7), none⟩,
 ⟨(some 19), .un .not (.t 18), none⟩])
 (.cond (.t 19)
 (.seq
 (.reg [
 ⟨(some 4), .mov (.k (.vec true [])), none⟩,
 ⟨(some 5), .mov (.k (.bool false)), none⟩])
 .ret)
 .skip))
 (.seq
 (.reg [
 ⟨(some 8), .mov (.k (.vec true [])), none⟩])
 (.seq
 (.reg [
 ⟨(some 9), .mov (.k (.int .i64 0)), none⟩])
 (.seq
 (.seq
 (.reg [
 ⟨(some 20), .mov (.t 6), none⟩,
 ⟨(some 21), .len false (.t 20), none⟩,
 ⟨(some 22), .mov (.k (.int .i64 0)), none⟩])
 (.block 0
 (.loop
 (.seq
 (.reg [
 ⟨(some 23), .bin .lss (.t 22) (.t 21), none⟩])
 (.seq
 (.cond (.t 23)
 .skip
 (.exit 0))
 (.seq
 (.block 1
 (.seq
 (.reg [
 ⟨(some 24), .idx 3 (.t 20) (.t 22), none⟩,
 ⟨(some 25), .load 3 true (.t 24), none⟩,
 ⟨(some 11), .new [(.int .i64 0), (.int .i64 0), (.int .i64 0)] 97, none⟩,
 ⟨none, .store 3 (.t 11) (.t 25), none⟩])
 (.seq
 (.seq
 (.reg [
 ⟨(some 26), .idxa 1 3 (.t 11) (.k (.int .i64 2)), none⟩,
 ⟨(some 27), .load 1 false (.t 26), none⟩,
 ⟨(some 28), .mov (.t 9), none⟩,
 ⟨(some 29), .bin .neq (.t 27) (.t 28), none⟩])
 (.cond (.t 29)
 (.seq
 (.reg [
 ⟨(some 4), .mov (.k (.vec true [])), none⟩,
 ⟨(some 5), .mov (.k (.bool false)), none⟩])
 .ret)
 .skip))
 (.seq
 (.reg [
 ⟨(some 30), .mov (.t 9), none⟩,
 ⟨(some 31), .idxa 1 3 (.t 11) (.k (.int .i64 1)), none⟩,
 ⟨(some 32), .load 1 false (.t 31), none⟩,
 ⟨(some 33), .idxa 1 3 (.t 11) (.k (.int .i64 0)), none⟩,
 ⟨(some 34), .load 1 false (.t 33), none⟩,
 ⟨(some 35), .bin .sub (.t 32) (.t 34), none⟩,
 ⟨(some 36), .bin .add (.t 35) (.k (.int .i64 1)), none⟩,
 ⟨(some 37), .bin .add (.t 30) (.t 36), none⟩,
 ⟨(some 9), .mov (.t 37), none⟩])
 (.reg [
 ⟨(some 38), .mov (.t 8), none⟩,
 ⟨(some 39), .idxa 1 3 (.t 11) (.k (.int .i64 0)), none⟩,
 ⟨(some 40), .load 1 false (.t 39), none⟩,
 ⟨(some 41), .idxa 1 3 (.t 11) (.k (.int .i64 1)), none⟩,
 ⟨(some 42), .load 1 false (.t 41), none⟩,
 ⟨(some 43), .build [(.int .i64 0), (.int .i64 0)] [(0, 1, (.t 40)), (1, 1, (.t 42))], none⟩,
 ⟨(some 44), .call 61 [(.t 38), (.t 43)], none⟩,
 ⟨(some 8), .mov (.t 44), none⟩])))))
 (.reg [
 ⟨(some 45), .bin .add (.t 22) (.k (.int .i64 1)), none⟩,
 ⟨(some 22), .mov (.t 45), none⟩])))))))
 (.seq
 (.reg [
 ⟨(some 46), .mov (.t 8), none⟩,
 ⟨(some 4), .mov (.t 46), none⟩,
 ⟨(some 5), .mov (.k (.bool true)), none⟩])
 .ret)))))))
theorem a55 : Go.Proofs.Try.f55.body.bind (comp Go.Proofs.Try.prog) = some A55 := by kernel_rfl
theorem r55 : compRVs Go.Proofs.Try.prog Go.Proofs.Try.f55.results.toList = some [.tmp 4, .tmp 5] := by kernel_rfl
theorem n55 : (Go.Proofs.Try.f55.name == "runtime.NumGoroutine") = false := by decide +kernel
def E55 : Nat × ACode × Nat × List RV := (55, A55, 47, [.tmp 4, .tmp 5])
theorem e55 : EntryOk Go.Proofs.Try.prog E55 := ⟨Go.Proofs.Try.f55, Go.Proofs.Try.func55, n55, a55, Go.Proofs.Try.ntmps55, r55⟩
/-! reedpen/reedpenref10.Table -/
def A56 : ACode :=
 (.seq
 (.reg [
 ⟨(some 6), .mov (.k (.vec true [])), none⟩,
 ⟨(some 7), .mov (.k (.bool false)), none⟩])
 (.seq
 (.reg [
 ⟨(some 23), .mksl 1 8 [(.int .i64 0)] 3 (.k (.int .i64 65536)), none⟩,
 ⟨(some 8), .mov (.t 23), none⟩])
 (.seq
 (.seq
 (.reg [
 ⟨(some 9), .mov (.k (.int .i64 0)), none⟩])
 (.block 0
 (.loop
 (.seq
 (.seq
 (.reg [
 ⟨(some 24), .mov (.t 9), none⟩,
 ⟨(some 25), .bin .lss (.t 24) (.k (.int .i64 65536)), none⟩])
 (.cond (.t 25)
 .skip
 (.exit 0)))
 (.seq
 (.block 1
 (.reg [
 ⟨(some 28), .mov (.t 8), none⟩,
 ⟨(some 29), .mov (.t 9), none⟩,
 ⟨(some 30), .idx 1 (.t 28) (.t 29), none⟩,
 ⟨none, .store 1 (.t 30) (.k (.int .i64 (-1))), none⟩]))
 (.reg [
 ⟨(some 26), .mov (.t 9), none⟩,
 ⟨(some 27), .bin .add (.t 26) (.k (.int .i64 1)), none⟩,
 ⟨(some 9), .mov (.t 27), none⟩]))))))
 (.seq
 (.reg [
 ⟨(some 31), .mov (.t 0), none⟩,
 ⟨(some 32), .mov (.t 1), none⟩,
 ⟨(some 33), .call 64 [(.t 31), (.t 32)], none⟩,
 ⟨(some 10), .mov (.t 33), none⟩])
 (.seq
 (.seq
 (.reg [
 ⟨(some 34), .mov (.t 10), none⟩,
 ⟨(some 35), .bin .neq (.t 34) (.k (.int .i64 1)), none⟩,
 ⟨(some 36), .mov (.t 35), none⟩,
 ⟨(some 37), .mov (.t 10), (some (36, true))⟩,
 ⟨(some 38), .bin .neq (.t 37) (.k (.int .i64 2)), (some (36, true))⟩,
 ⟨(some 39), .pick (.t 36) (.t 38) (.k (.bool false)), none⟩])
 (.cond (.t 39)
 (.seq
 (.reg [
 ⟨(some 40), .mov (.t 8), none⟩,
 ⟨(some 6), .mov (.t 40), none⟩,
 ⟨(some 7), .mov (.k (.bool false)), none⟩])
 .ret)
 .skip))
 (.seq
 (.reg [
 ⟨(some 41), .mov (.t 0), none⟩,
 ⟨(some 42), .mov (.t 1), none⟩,
 ⟨(some 43), .bin .add (.t 42) (.k (.int .i64 2)), none⟩,
 ⟨(some 44), .call 64 [(.t 41), (.t 43)], none⟩,
 ⟨(some 11), .mov (.t 44), none⟩])
 (.seq
 (.reg [
 ⟨(some 12), .mov (.k (.int .i64 0)), none⟩])
 (.seq
 (.reg [
 ⟨(some 13), .mov (.k (.int .i64 (-1))), none⟩])
 (.seq
 (.seq
 (.reg [
 ⟨(some 45), .mov (.t 10), none⟩,
 ⟨(some 46), .bin .eql (.t 45) (.k (.int .i64 1)), none⟩,
 ⟨(some 47), .mov (.t 46), none⟩,
 ⟨(some 48), .mov (.t 2), (some (47, true))⟩,
 ⟨(some 49), .pick (.t 47) (.t 48) (.k (.bool false)), none⟩])
 (.cond (.t 49)
 (.seq
 (.reg [
 ⟨(some 50), .mov (.t 11), none⟩,
 ⟨(some 14), .mov (.t 50), none⟩])
 (.seq
 (.reg [
 ⟨(some 51), .mov (.t 0), none⟩,
 ⟨(some 52), .mov (.t 1), none⟩,
 ⟨(some 53), .bin .add (.t 52) (.k (.int .i64 4)), none⟩,
 ⟨(some 54), .call 64 [(.t 51), (.t 53)], none⟩,
 ⟨(some 11), .mov (.t 54), none⟩])
 (.seq
 (.seq
 (.reg [
 ⟨(some 55), .mov (.t 11), none⟩,
 ⟨(some 56), .bin .lss (.t 55) (.k (.int .i64 0)), none⟩,
 ⟨(some 57), .mov (.t 56), none⟩,
 ⟨(some 58), .mov (.t 14), (some (57, false))⟩,
 ⟨(some 59), .mov (.t 11), (some (57, false))⟩,
 ⟨(some 60), .bin .add (.t 58) (.t 59), (some (57, false))⟩,
 ⟨(some 61), .bin .gtr (.t 60) (.k (.int .i64 65536)), (some (57, false))⟩,
 ⟨(some 62), .pick (.t 57) (.k (.bool true)) (.t 61), none⟩])
 (.cond (.t 62)
 (.seq
 (.reg [
 ⟨(some 63), .mov (.t 8), none⟩,
 ⟨(some 6), .mov (.t 63), none⟩,
 ⟨(some 7), .mov (.k (.bool false)), none⟩])
 .ret)
 .skip))
 (.seq
 (.seq
 (.reg [
 ⟨(some 15), .mov (.k (.int .i64 0)), none⟩])
 (.block 2
 (.loop
 (.seq
 (.seq
 (.reg [
 ⟨(some 64), .mov (.t 15), none⟩,
 ⟨(some 65), .mov (.t 11), none⟩,
 ⟨(some 66), .bin .lss (.t 64) (.t 65), none⟩])
 (.cond (.t 66)
 .skip
 (.exit 2)))
 (.seq
 (.block 3
 (.seq
 (.reg [
 ⟨(some 69), .mov (.t 0), none⟩,
 ⟨(some 70), .mov (.t 1), none⟩,
 ⟨(some 71), .bin .add (.t 70) (.k (.int .i64 6)), none⟩,
 ⟨(some 72), .mov (.t 15), none⟩,
 ⟨(some 73), .bin .mul (.k (.int .i64 2)) (.t 72), none⟩,
 ⟨(some 74), .bin .add (.t 71) (.t 73), none⟩,
 ⟨(some 75), .call 64 [(.t 69), (.t 74)], none⟩,
 ⟨(some 16), .mov (.t 75), none⟩])
 (.seq
 (.seq
 (.reg [
 ⟨(some 76), .mov (.t 16), none⟩,
 ⟨(some 77), .bin .lss (.t 76) (.k (.int .i64 0)), none⟩])
 (.cond (.t 77)
 (.seq
 (.reg [
 ⟨(some 78), .mov (.t 8), none⟩,
 ⟨(some 6), .mov (.t 78), none⟩,
 ⟨(some 7), .mov (.k (.bool false)), none⟩])
 .ret)
 .skip))
 (.reg [
 ⟨(some 79), .mov (.t 8), none⟩,
 ⟨(some 80), .mov (.t 14), none⟩,
 ⟨(some 81), .mov (.t 15), none⟩,
 ⟨(some 82), .bin .add (.t 80) (.t 81), none⟩,
 ⟨(some 83), .mov (.t 16), none⟩,
 ⟨(some 84), .idx 1 (.t 79) (.t 82), none⟩,
 ⟨none, .store 1 (.t 84) (.t 83), none⟩]))))
 (.reg [
 ⟨(some 67), .mov (.t 15), none⟩,
 ⟨(some 68), .bin .add (.t 67) (.k (.int .i64 1)), none⟩,
 ⟨(some 15), .mov (.t 68), none⟩]))))))
 (.seq
 (.reg [
 ⟨(some 85), .mov (.t 8), none⟩,
 ⟨(some 6), .mov (.t 85), none⟩,
 ⟨(some 7), .mov (.k (.bool true)), none⟩])
 .ret)))))
 .skip))
 (.seq
 (.seq
 (.reg [
 ⟨(some 86), .mov (.t 11), none⟩,
 ⟨(some 87), .bin .lss (.t 86) (.k (.int .i64 0)), none⟩])
 (.cond (.t 87)
 (.seq
 (.reg [
 ⟨(some 88), .mov (.t 8), none⟩,
 ⟨(some 6), .mov (.t 88), none⟩,
 ⟨(some 7), .mov (.k (.bool false)), none⟩])
 .ret)
 .skip))
 (.seq
 (.seq
 (.reg [
 ⟨(some 17), .mov (.k (.int .i64 0)), none⟩])
 (.block 4
 (.loop
 (.seq
 (.seq
 (.reg [
 ⟨(some 89), .mov (.t 17), none⟩,
 ⟨(some 90), .mov (.t 11), none⟩,
 ⟨(some 91), .bin .lss (.t 89) (.t 90), none⟩])
 (.cond (.t 91)
 .skip
 (.exit 4)))
 (.seq
 (.block 5
 (.seq
 (.seq
 (.reg [
 ⟨(some 94), .mov (.t 10), none⟩,
 ⟨(some 95), .bin .eql (.t 94) (.k (.int .i64 1)), none⟩])
 (.cond (.t 95)
 (.seq
 (.reg [
 ⟨(some 96), .mov (.t 0), none⟩,
 ⟨(some 97), .mov (.t 1), none⟩,
 ⟨(some 98), .bin .add (.t 97) (.k (.int .i64 4)), none⟩,
 ⟨(some 99), .mov (.t 17), none⟩,
 ⟨(some 100), .bin .mul (.k (.int .i64 2)) (.t 99), none⟩,
 ⟨(some 101), .bin .add (.t 98) (.t 100), none⟩,
 ⟨(some 102), .call 64 [(.t 96), (.t 101)], none⟩,
 ⟨(some 18), .mov (.t 102), none⟩])
 (.seq
 (.seq
 (.reg [
 ⟨(some 103), .mov (.t 18), none⟩,
 ⟨(some 104), .mov (.t 13), none⟩,
 ⟨(some 105), .bin .leq (.t 103) (.t 104), none⟩])
 (.cond (.t 105)
 (.seq
 (.reg [
 ⟨(some 106), .mov (.t 8), none⟩,
 ⟨(some 6), .mov (.t 106), none⟩,
 ⟨(some 7), .mov (.k (.bool false)), none⟩])
 .ret)
 .skip))
 (.seq
 (.reg [
 ⟨(some 107), .mov (.t 8), none⟩,
 ⟨(some 108), .mov (.t 18), none⟩,
 ⟨(some 109), .mov (.t 17), none⟩,
 ⟨(some 110), .idx 1 (.t 107) (.t 108), none⟩,
 ⟨none, .store 1 (.t 110) (.t 109), none⟩])
 (.seq
 (.reg [
 ⟨(some 111), .mov (.t 18), none⟩,
 ⟨(some 13), .mov (.t 111), none⟩])
 (.exit 5)))))
 .skip))
 (.seq
 (.reg [
 ⟨(some 112), .mov (.t 0), none⟩,
 ⟨(some 113), .mov (.t 1), none⟩,
 ⟨(some 114), .bin .add (.t 113) (.k (.int .i64 4)), none⟩,
 ⟨(some 115), .mov (.t 17), none⟩,
 ⟨(some 116), .bin .mul (.k (.int .i64 6)) (.t 115), none⟩,
 ⟨(some 117), .bin .add (.t 114) (.t 116), none⟩,
 ⟨(some 118), .call 64 [(.t 112), (.t 117)], none⟩,
 ⟨(some 119), .mov (.t 0), none⟩,
 ⟨(some 120), .mov (.t 1), none⟩,
 ⟨(some 121), .bin .add (.t 120) (.k (.int .i64 6)), none⟩,
 ⟨(some 122), .mov (.t 17), none⟩,
 ⟨(some 123), .bin .mul (.k (.int .i64 6)) (.t 122), none⟩,
 ⟨(some 124), .bin .add (.t 121) (.t 123), none⟩,
 ⟨(some 125), .call 64 [(.t 119), (.t 124)], none⟩,
 ⟨(some 126), .mov (.t 0), none⟩,
 ⟨(some 127), .mov (.t 1), none⟩,
 ⟨(some 128), .bin .add (.t 127) (.k (.int .i64 8)), none⟩,
 ⟨(some 129), .mov (.t 17), none⟩,
 ⟨(some 130), .bin .mul (.k (.int .i64 6)) (.t 129), none⟩,
 ⟨(some 131), .bin .add (.t 128) (.t 130), none⟩,
 ⟨(some 132), .call 64 [(.t 126), (.t 131)], none⟩,
 ⟨(some 19), .mov (.t 118), none⟩,
 ⟨(some 20), .mov (.t 125), none⟩,
 ⟨(some 21), .mov (.t 132), none⟩])
 (.seq
 (.seq
 (.reg [
 ⟨(some 133), .mov (.t 21), none⟩,
 ⟨(some 134), .bin .lss (.t 133) (.k (.int .i64 0)), none⟩,
 ⟨(some 135), .mov (.t 134), none⟩,
 ⟨(some 136), .mov (.t 19), (some (135, false))⟩,
 ⟨(some 137), .mov (.t 13), (some (135, false))⟩,
 ⟨(some 138), .bin .leq (.t 136) (.t 137), (some (135, false))⟩,
 ⟨(some 139), .pick (.t 135) (.k (.bool true)) (.t 138), none⟩,
 ⟨(some 140), .mov (.t 139), none⟩,
 ⟨(some 141), .mov (.t 20), (some (140, false))⟩,
 ⟨(some 142), .mov (.t 19), (some (140, false))⟩,
 ⟨(some 143), .bin .lss (.t 141) (.t 142), (some (140, false))⟩,
 ⟨(some 144), .pick (.t 140) (.k (.bool true)) (.t 143), none⟩,
 ⟨(some 145), .mov (.t 144), none⟩,
 ⟨(some 146), .mov (.t 2), (some (145, false))⟩,
 ⟨(some 147), .un .not (.t 146), (some (145, false))⟩,
 ⟨(some 148), .mov (.t 147), (some (145, false))⟩,
 ⟨(some 149), .mov (.t 21), (some (148, true))⟩,
 ⟨(some 150), .mov (.t 12), (some (148, true))⟩,
 ⟨(some 151), .bin .neq (.t 149) (.t 150), (some (148, true))⟩,
 ⟨(some 152), .pick (.t 148) (.t 151) (.k (.bool false)), (some (145, false))⟩,
 ⟨(some 153), .pick (.t 145) (.k (.bool true)) (.t 152), none⟩])
 (.cond (.t 153)
 (.seq
 (.reg [
 ⟨(some 154), .mov (.t 8), none⟩,
 ⟨(some 6), .mov (.t 154), none⟩,
 ⟨(some 7), .mov (.k (.bool false)), none⟩])
 .ret)
 .skip))
 (.seq
 (.reg [
 ⟨(some 155), .mov (.t 20), none⟩,
 ⟨(some 13), .mov (.t 155), none⟩])
 (.seq
 (.reg [
 ⟨(some 156), .mov (.t 19), none⟩,
 ⟨(some 22), .mov (.t 156), none⟩])
 (.block 6
 (.loop
 (.seq
 (.seq
 (.reg [
 ⟨(some 157), .mov (.t 22), none⟩,
 ⟨(some 158), .mov (.t 20), none⟩,
 ⟨(some 159), .bin .leq (.t 157) (.t 158), none⟩])
 (.cond (.t 159)
 .skip
 (.exit 6)))
 (.seq
 (.block 7
 (.seq
 (.reg [
 ⟨(some 162), .mov (.t 8), none⟩,
 ⟨(some 163), .mov (.t 22), none⟩,
 ⟨(some 164), .mov (.t 21), none⟩,
 ⟨(some 165), .idx 1 (.t 162) (.t 163), none⟩,
 ⟨none, .store 1 (.t 165) (.t 164), none⟩])
 (.seq
 (.seq
 (.reg [
 ⟨(some 166), .mov (.t 2), none⟩,
 ⟨(some 167), .un .not (.t 166), none⟩])
 (.cond (.t 167)
 (.reg [
 ⟨(some 168), .mov (.t 8), none⟩,
 ⟨(some 169), .mov (.t 22), none⟩,
 ⟨(some 170), .mov (.t 12), none⟩,
 ⟨(some 171), .idx 1 (.t 168) (.t 169), none⟩,
 ⟨none, .store 1 (.t 171) (.t 170), none⟩])
 .skip))
 (.reg [
 ⟨(some 172), .mov (.t 12), none⟩,
 ⟨(some 173), .bin .add (.t 172) (.k (.int .i64 1)), none⟩,
 ⟨(some 12), .mov (.t 173), none⟩]))))
 (.reg [
 ⟨(some 160), .mov (.t 22), none⟩,
 ⟨(some 161), .bin .add (.t 160) (.k (.int .i64 1)), none⟩,
 ⟨(some 22), .mov (.t 161), none⟩])))))))))))
 (.reg [
 ⟨(some 92), .mov (.t 17), none⟩,
 ⟨(some 93), .bin .add (.t 92) (.k (.int .i64 1)), none⟩,
 ⟨(some 17), .mov (.t 93), none⟩]))))))
 (.seq
 (.reg [
 ⟨(some 174), .mov (.t 8), none⟩,
 ⟨(some 6), .mov (.t 174), none⟩,
 ⟨(some 7), .mov (.k (.bool true)), none⟩])
 .ret))))))))))))
theorem a56 : Go.Proofs.Try.f56.body.bind (comp Go.Proofs.Try.prog) = some A56 := by kernel_rfl
theorem r56 : compRVs Go.Proofs.Try.prog Go.Proofs.Try.f56.results.toList = some [.tmp 6, .tmp 7] := by kernel_rfl
theorem n56 : (Go.Proofs.Try.f56.name == "runtime.NumGoroutine") = false := by decide +kernel
def E56 : Nat × ACode × Nat × List RV := (56, A56, 175, [.tmp 6, .tmp 7])
theorem e56 : EntryOk Go.Proofs.Try.prog E56 := ⟨Go.Proofs.Try.f56, Go.Proofs.Try.func56, n56, a56, Go.Proofs.Try.ntmps56, r56⟩
/-! reedpen/octet.U16 -/
def A57 : ACode :=
 (.seq
 (.reg [
 ⟨(some 4), .mov (.k (.int .i64 0)), none⟩,
 ⟨(some 5), .mov (.k (.bool false)), none⟩])
 (.seq
 (.reg [
 ⟨(some 6), .mov (.t 0), none⟩,
 ⟨(some 7), .mov (.t 1), none⟩,
 ⟨(some 8), .call 77 [(.t 6), (.t 7), (.k (.int .i64 2))], none⟩,
 ⟨(some 9), .ext 0 (.t 8), none⟩,
 ⟨(some 10), .ext 1 (.t 8), none⟩,
 ⟨(some 4), .mov (.t 9), none⟩,
 ⟨(some 5), .mov (.t 10), none⟩])
 .ret))
theorem a57 : Go.Proofs.Try.f57.body.bind (comp Go.Proofs.Try.prog) = some A57 := by kernel_rfl
theorem r57 : compRVs Go.Proofs.Try.prog Go.Proofs.Try.f57.results.toList = some [.tmp 4, .tmp 5] := by kernel_rfl
theorem n57 : (Go.Proofs.Try.f57.name == "runtime.NumGoroutine") = false := by decide +kernel
def E57 : Nat × ACode × Nat × List RV := (57, A57, 11, [.tmp 4, .tmp 5])
theorem e57 : EntryOk Go.Proofs.Try.prog E57 := ⟨Go.Proofs.Try.f57, Go.Proofs.Try.func57, n57, a57, Go.Proofs.Try.ntmps57, r57⟩
/-! reedpen/octet.Row -/
def A58 : ACode :=
 (.seq
 (.reg [
 ⟨(some 4), .box (.t 0) 22, none⟩,
 ⟨(some 5), .box (.t 1) 3, none⟩,
 ⟨(some 7), .box (.t 3) 3, none⟩,
 ⟨(some 8), .mov (.k (.vec true [])), none⟩,
 ⟨(some 9), .mov (.k (.bool false)), none⟩])
 (.seq
 (.seq
 (.reg [
 ⟨(some 10), .load 1 false (.t 7), none⟩])
 (.block 0
 (.seq
 (.seq
 (.reg [
 ⟨(some 12), .bin .eql (.t 10) (.k (.int .i64 1)), none⟩,
 ⟨(some 11), .mov (.t 12), none⟩])
 (.cond (.t 11)
 .skip
 (.seq
 (.reg [
 ⟨(some 13), .bin .eql (.t 10) (.k (.int .i64 2)), none⟩,
 ⟨(some 11), .mov (.t 13), none⟩])
 (.cond (.t 11)
 .skip
 (.reg [
 ⟨(some 14), .bin .eql (.t 10) (.k (.int .i64 4)), none⟩,
 ⟨(some 11), .mov (.t 14), none⟩])))))
 (.cond (.t 11)
 .skip
 (.seq
 (.reg [
 ⟨(some 8), .mov (.k (.vec true [])), none⟩,
 ⟨(some 9), .mov (.k (.bool false)), none⟩])
 .ret)))))
 (.seq
 (.seq
 (.reg [
 ⟨(some 15), .mov (.t 2), none⟩,
 ⟨(some 16), .bin .lss (.t 15) (.k (.int .i64 0)), none⟩,
 ⟨(some 17), .mov (.t 16), none⟩,
 ⟨(some 18), .mov (.t 2), (some (17, false))⟩,
 ⟨(some 19), .load 1 false (.t 4), (some (17, false))⟩,
 ⟨(some 20), .len false (.t 19), (some (17, false))⟩,
 ⟨(some 21), .bin .gtr (.t 18) (.t 20), (some (17, false))⟩,
 ⟨(some 22), .pick (.t 17) (.k (.bool true)) (.t 21), none⟩,
 ⟨(some 23), .mov (.t 22), none⟩,
 ⟨(some 24), .load 1 false (.t 4), (some (23, false))⟩,
 ⟨(some 25), .load 1 false (.t 5), (some (23, false))⟩,
 ⟨(some 26), .mov (.t 2), (some (23, false))⟩,
 ⟨(some 27), .load 1 false (.t 7), (some (23, false))⟩,
 ⟨(some 28), .bin .mul (.t 26) (.t 27), (some (23, false))⟩,
 ⟨(some 29), .call 71 [(.t 24), (.t 25), (.t 28)], (some (23, false))⟩,
 ⟨(some 30), .un .not (.t 29), (some (23, false))⟩,
 ⟨(some 31), .pick (.t 23) (.k (.bool true)) (.t 30), none⟩])
 (.cond (.t 31)
 (.seq
 (.reg [
 ⟨(some 8), .mov (.k (.vec true [])), none⟩,
 ⟨(some 9), .mov (.k (.bool false)), none⟩])
 .ret)
 .skip))
 (.seq
 (.reg [
 ⟨(some 32), .mov (.t 2), none⟩,
 ⟨(some 33), .mkfn (.func 79) [] [(.t 4), (.t 5), (.t 7)], none⟩,
 ⟨(some 34), .call 78 [(.t 32), (.t 33)], none⟩,
 ⟨(some 8), .mov (.t 34), none⟩,
 ⟨(some 9), .mov (.k (.bool true)), none⟩])
 .ret))))
theorem a58 : Go.Proofs.Try.f58.body.bind (comp Go.Proofs.Try.prog) = some A58 := by kernel_rfl
theorem r58 : compRVs Go.Proofs.Try.prog Go.Proofs.Try.f58.results.toList = some [.tmp 8, .tmp 9] := by kernel_rfl
theorem n58 : (Go.Proofs.Try.f58.name == "runtime.NumGoroutine") = false := by decide +kernel
def E58 : Nat × ACode × Nat × List RV := (58, A58, 35, [.tmp 8, .tmp 9])
theorem e58 : EntryOk Go.Proofs.Try.prog E58 := ⟨Go.Proofs.Try.f58, Go.Proofs.Try.func58, n58, a58, Go.Proofs.Try.ntmps58, r58⟩
/-! reedpen/cover.classed -/
def A59 : ACode :=
 (.seq
 (.reg [
 ⟨(some 3), .box (.t 1) 48, none⟩,
 ⟨(some 4), .mov (.k (.vec true [])), none⟩])
 (.seq
 (.seq
 (.reg [
 ⟨(some 6), .fld 2 (.t 3), none⟩,
 ⟨(some 7), .load 1 false (.t 6), none⟩,
 ⟨(some 8), .bin .eql (.t 7) (.k (.int .i64 0)), none⟩])
 (.cond (.t 8)
 (.seq
 (.reg [
 ⟨(some 9), .mov (.t 0), none⟩,
 ⟨(some 4), .mov (.t 9), none⟩])
 .ret)
 .skip))
 (.seq
 (.seq
 (.reg [
 ⟨(some 10), .mov (.t 0), none⟩,
 ⟨(some 11), .len false (.t 10), none⟩,
 ⟨(some 5), .mov (.t 11), none⟩])
 (.seq
 (.regd [
 ⟨⟨(some 12), .mov (.t 5), none⟩, 0, [], false⟩,
 ⟨⟨(some 13), .bin .gtr (.t 12) (.k (.int .i64 0)), none⟩, 1, [], false⟩,
 ⟨⟨(some 14), .mov (.t 13), none⟩, 2, [], false⟩,
 ⟨⟨(some 15), .mov (.t 0), (some (14, true))⟩, 3, [], false⟩,
 ⟨⟨(some 16), .mov (.t 5), (some (14, true))⟩, 4, [], false⟩,
 ⟨⟨(some 17), .bin .sub (.t 16) (.k (.int .i64 1)), (some (14, true))⟩, 5, [], false⟩,
 ⟨⟨(some 18), .idx 3 (.t 15) (.t 17), (some (14, true))⟩, 6, [], false⟩,
 ⟨⟨(some 19), .fld 1 (.t 18), (some (14, true))⟩, 7, [], false⟩,
 ⟨⟨(some 20), .load 1 false (.t 19), (some (14, true))⟩, 8, [], false⟩,
 ⟨⟨(some 21), .bin .add (.t 20) (.k (.int .i64 1)), (some (14, true))⟩, 9, [], false⟩,
 ⟨⟨(some 22), .fld 0 (.t 3), (some (14, true))⟩, 10, [], false⟩,
 ⟨⟨(some 23), .load 1 false (.t 22), (some (14, true))⟩, 11, [], false⟩,
 ⟨⟨(some 24), .bin .eql (.t 21) (.t 23), (some (14, true))⟩, 12, [], false⟩,
 ⟨⟨(some 25), .pick (.t 14) (.t 24) (.k (.bool false)), none⟩, 13, [], false⟩,
 ⟨⟨(some 26), .mov (.t 25), none⟩, 14, [], false⟩,
 ⟨⟨(some 27), .mov (.t 0), (some (26, true))⟩, 15, [], false⟩,
 ⟨⟨(some 28), .mov (.t 5), (some (26, true))⟩, 16, [], false⟩,
 ⟨⟨(some 29), .bin .sub (.t 28) (.k (.int .i64 1)), (some (26, true))⟩, 17, [], false⟩,
 ⟨⟨(some 30), .idx 3 (.t 27) (.t 29), (some (26, true))⟩, 18, [], false⟩,
 ⟨⟨(some 31), .fld 2 (.t 30), (some (26, true))⟩, 19, [], false⟩,
 ⟨⟨(some 32), .load 1 false (.t 31), (some (26, true))⟩, 20, [], false⟩,
 ⟨⟨(some 33), .fld 2 (.t 3), (some (26, true))⟩, 21, [], false⟩,
 ⟨⟨(some 34), .load 1 false (.t 33), (some (26, true))⟩, 22, [], false⟩,
 ⟨⟨(some 35), .bin .eql (.t 32) (.t 34), (some (26, true))⟩, 23, [], false⟩,
 ⟨⟨(some 36), .pick (.t 26) (.t 35) (.k (.bool false)), none⟩, 24, [], false⟩])
 (.cond (.t 36)
 (.seq
 (.reg [
 ⟨(some 37), .mov (.t 0), none⟩,
 ⟨(some 38), .mov (.t 5), none⟩,
 ⟨(some 39), .bin .sub (.t 38) (.k (.int .i64 1)), none⟩,
 ⟨(some 40), .fld 1 (.t 3), none⟩,
 ⟨(some 41), .load 1 false (.t 40), none⟩,
 ⟨(some 42), .idx 3 (.t 37) (.t 39), none⟩,
 ⟨(some 43), .fld 1 (.t 42), none⟩,
 ⟨none, .store 1 (.t 43) (.t 41), none⟩])
 (.seq
 (.reg [
 ⟨(some 44), .mov (.t 0), none⟩,
 ⟨(some 4), .mov (.t 44), none⟩])
 .ret))
 .skip)))
 (.seq
 (.reg [
 ⟨(some 45), .mov (.t 0), none⟩,
 ⟨(some 46), .load 3 true (.t 3), none⟩,
 ⟨(some 47), .lits 3 48 [(.t 46)], none⟩,
 ⟨(some 48), .app 3 24 48 (.t 45) (.t 47), none⟩,
 ⟨(some 4), .mov (.t 48), none⟩])
 .ret))))
theorem a59 : Go.Proofs.Try.f59.body.bind (comp Go.Proofs.Try.prog) = some A59 := by kernel_rfl
theorem r59 : compRVs Go.Proofs.Try.prog Go.Proofs.Try.f59.results.toList = some [.tmp 4] := by kernel_rfl
theorem n59 : (Go.Proofs.Try.f59.name == "runtime.NumGoroutine") = false := by decide +kernel
def E59 : Nat × ACode × Nat × List RV := (59, A59, 49, [.tmp 4])
theorem e59 : EntryOk Go.Proofs.Try.prog E59 := ⟨Go.Proofs.Try.f59, Go.Proofs.Try.func59, n59, a59, Go.Proofs.Try.ntmps59, r59⟩
/-! reedpen/cover.triples -/
def A60 : ACode :=
 (.seq
 (.reg [
 ⟨(some 4), .mov (.k (.vec true [])), none⟩,
 ⟨(some 5), .mov (.k (.bool false)), none⟩])
 (.seq
 (.reg [
 ⟨(some 15), .mov (.t 0), none⟩,
 ⟨(some 16), .mov (.t 1), none⟩,
 ⟨(some 17), .bin .add (.t 16) (.k (.int .i64 2)), none⟩,
 ⟨(some 18), .call 57 [(.t 15), (.t 17)], none⟩,
 ⟨(some 14), .mov (.t 18), none⟩,
 ⟨(some 19), .ext 0 (.t 14), none⟩,
 ⟨(some 20), .ext 1 (.t 14), none⟩,
 ⟨(some 6), .mov (.t 19), none⟩,
 ⟨(some 7), .mov (.t 20), none⟩])
 (.seq
 (.reg [
 ⟨(some 22), .mov (.t 0), none⟩,
 ⟨(some 23), .mov (.t 1), none⟩,
 ⟨(some 24), .bin .add (.t 23) (.k (.int .i64 4)), none⟩,
 ⟨(some 25), .mov (.t 6), none⟩,
 ⟨(some 26), .bin .mul (.k (.int .i64 3)) (.t 25), none⟩,
 ⟨(some 27), .call 58 [(.t 22), (.t 24), (.t 26), (.k (.int .i64 2))], none⟩,
 ⟨(some 21), .mov (.t 27), none⟩,
 ⟨(some 28), .ext 0 (.t 21), none⟩,
 ⟨(some 29), .ext 1 (.t 21), none⟩,
 ⟨(some 8), .mov (.t 28), none⟩,
 ⟨(some 9), .mov (.t 29), none⟩])
 (.seq
 (.seq
 (.reg [
 ⟨(some 30), .mov (.t 7), none⟩,
 ⟨(some 31), .un .not (.t 30), none⟩,
 ⟨(some 32), .mov (.t 31), none⟩,
 ⟨(some 33), .mov (.t 9), (some (32, false))⟩,
 ⟨(some 34), .un .not (.t 33), (some (32, false))⟩,
 ⟨(some 35), .pick (.t 32) (.k (.bool true)) (.t 34), none⟩])
 (.cond (.t 35)
 (.seq
 (.reg [
 ⟨(some 4), .mov (.k (.vec true [])), none⟩,
 ⟨(some 5), .mov (.k (.bool false)), none⟩])
 .ret)
 .skip))
 (.seq
 (.reg [
 ⟨(some 10), .mov (.k (.vec true [])), none⟩])
 (.seq
 (.reg [
 ⟨(some 11), .mov (.k (.int .i64 (-1))), none⟩])
 (.seq
 (.seq
 (.reg [
 ⟨(some 12), .mov (.k (.int .i64 0)), none⟩])
 (.block 0
 (.loop
 (.seq
 (.seq
 (.reg [
 ⟨(some 36), .mov (.t 12), none⟩,
 ⟨(some 37), .mov (.t 8), none⟩,
 ⟨(some 38), .len false (.t 37), none⟩,
 ⟨(some 39), .bin .lss (.t 36) (.t 38), none⟩])
 (.cond (.t 39)
 .skip
 (.exit 0)))
 (.seq
 (.block 1
 (.seq
 (.regd [
 ⟨⟨(some 42), .mov (.t 8), none⟩, 0, [], false⟩,
 ⟨⟨(some 43), .mov (.t 12), none⟩, 1, [], false⟩,
 ⟨⟨(some 44), .idx 1 (.t 42) (.t 43), none⟩, 2, [], true⟩,
 ⟨⟨(some 45), .load 1 false (.t 44), none⟩, 3, [], true⟩,
 ⟨⟨(some 46), .mov (.t 8), none⟩, 4, [], false⟩,
 ⟨⟨(some 47), .mov (.t 12), none⟩, 5, [], false⟩,
 ⟨⟨(some 48), .bin .add (.t 47) (.k (.int .i64 1)), none⟩, 6, [], false⟩,
 ⟨⟨(some 49), .idx 1 (.t 46) (.t 48), none⟩, 7, [], true⟩,
 ⟨⟨(some 50), .load 1 false (.t 49), none⟩, 8, [], true⟩,
 ⟨⟨(some 51), .mov (.t 8), none⟩, 9, [], false⟩,
 ⟨⟨(some 52), .mov (.t 12), none⟩, 10, [], false⟩,
 ⟨⟨(some 53), .bin .add (.t 52) (.k (.int .i64 2)), none⟩, 11, [], false⟩,
 ⟨⟨(some 54), .idx 1 (.t 51) (.t 53), none⟩, 12, [], true⟩,
 ⟨⟨(some 55), .load 1 false (.t 54), none⟩, 13, [], true⟩,
 ⟨⟨(some 56), .build [(.int .i64 0), (.int .i64 0), (.int .i64 0)] [(0, 1, (.t 45)), (1, 1, (.t 50)), (2, 1, (.t 55))], none⟩, 14, [], false⟩,
 ⟨⟨(some 13), .new [(.int .i64 0), (.int .i64 0), (.int .i64 0)] 97, none⟩, 15, [], false⟩,
 ⟨⟨none, .store 3 (.t 13) (.t 56), none⟩, 16, [15, 14, 3, 2, 0, 1, 8, 7, 4, 6, 5, 13, 12, 9, 11, 10], false⟩])
 (.seq
 (.seq
 (.reg [
 ⟨(some 57), .idxa 1 3 (.t 13) (.k (.int .i64 0)), none⟩,
 ⟨(some 58), .load 1 false (.t 57), none⟩,
 ⟨(some 59), .mov (.t 11), none⟩,
 ⟨(some 60), .bin .leq (.t 58) (.t 59), none⟩,
 ⟨(some 61), .mov (.t 60), none⟩,
 ⟨(some 62), .idxa 1 3 (.t 13) (.k (.int .i64 1)), (some (61, false))⟩,
 ⟨(some 63), .load 1 false (.t 62), (some (61, false))⟩,
 ⟨(some 64), .idxa 1 3 (.t 13) (.k (.int .i64 0)), (some (61, false))⟩,
 ⟨(some 65), .load 1 false (.t 64), (some (61, false))⟩,
 ⟨(some 66), .bin .lss (.t 63) (.t 65), (some (61, false))⟩,
 ⟨(some 67), .pick (.t 61) (.k (.bool true)) (.t 66), none⟩])
 (.cond (.t 67)
 (.seq
 (.reg [
 ⟨(some 4), .mov (.k (.vec true [])), none⟩,
 ⟨(some 5), .mov (.k (.bool false)), none⟩])
 .ret)
 .skip))
 (.seq
 (.reg [
 ⟨(some 68), .idxa 1 3 (.t 13) (.k (.int .i64 1)), none⟩,
 ⟨(some 69), .load 1 false (.t 68), none⟩,
 ⟨(some 11), .mov (.t 69), none⟩])
 (.reg [
 ⟨(some 70), .mov (.t 10), none⟩,
 ⟨(some 71), .load 3 true (.t 13), none⟩,
 ⟨(some 72), .lits 3 97 [(.t 71)], none⟩,
 ⟨(some 73), .app 3 24 97 (.t 70) (.t 72), none⟩,
 ⟨(some 10), .mov (.t 73), none⟩])))))
 (.reg [
 ⟨(some 40), .mov (.t 12), none⟩,
 ⟨(some 41), .bin .add (.t 40) (.k (.int .i64 3)), none⟩,
 ⟨(some 12), .mov (.t 41), none⟩]))))))
 (.seq
 (.reg [
 ⟨(some 74), .mov (.t 10), none⟩,
 ⟨(some 4), .mov (.t 74), none⟩,
 ⟨(some 5), .mov (.k (.bool true)), none⟩])
 .ret))))))))
theorem a60 : Go.Proofs.Try.f60.body.bind (comp Go.Proofs.Try.prog) = some A60 := by kernel_rfl
theorem r60 : compRVs Go.Proofs.Try.prog Go.Proofs.Try.f60.results.toList = some [.tmp 4, .tmp 5] := by kernel_rfl
theorem n60 : (Go.Proofs.Try.f60.name == "runtime.NumGoroutine") = false := by decide +kernel
def E60 : Nat × ACode × Nat × List RV := (60, A60, 75, [.tmp 4, .tmp 5])
theorem e60 : EntryOk Go.Proofs.Try.prog E60 := ⟨Go.Proofs.Try.f60, Go.Proofs.Try.func60, n60, a60, Go.Proofs.Try.ntmps60, r60⟩
/-! reedpen/cover.joined -/
def A61 : ACode :=
 (.seq
 (.reg [
 ⟨(some 3), .box (.t 1) 38, none⟩,
 ⟨(some 4), .mov (.k (.vec true [])), none⟩])
 (.seq
 (.seq
 (.reg [
 ⟨(some 6), .mov (.t 0), none⟩,
 ⟨(some 7), .len false (.t 6), none⟩,
 ⟨(some 5), .mov (.t 7), none⟩])
 (.seq
 (.regd [
 ⟨⟨(some 8), .mov (.t 5), none⟩, 0, [], false⟩,
 ⟨⟨(some 9), .bin .gtr (.t 8) (.k (.int .i64 0)), none⟩, 1, [], false⟩,
 ⟨⟨(some 10), .mov (.t 9), none⟩, 2, [], false⟩,
 ⟨⟨(some 11), .mov (.t 0), (some (10, true))⟩, 3, [], false⟩,
 ⟨⟨(some 12), .mov (.t 5), (some (10, true))⟩, 4, [], false⟩,
 ⟨⟨(some 13), .bin .sub (.t 12) (.k (.int .i64 1)), (some (10, true))⟩, 5, [], false⟩,
 ⟨⟨(some 14), .idx 2 (.t 11) (.t 13), (some (10, true))⟩, 6, [], false⟩,
 ⟨⟨(some 15), .fld 1 (.t 14), (some (10, true))⟩, 7, [], false⟩,
 ⟨⟨(some 16), .load 1 false (.t 15), (some (10, true))⟩, 8, [], false⟩,
 ⟨⟨(some 17), .bin .add (.t 16) (.k (.int .i64 1)), (some (10, true))⟩, 9, [], false⟩,
 ⟨⟨(some 18), .fld 0 (.t 3), (some (10, true))⟩, 10, [], false⟩,
 ⟨⟨(some 19), .load 1 false (.t 18), (some (10, true))⟩, 11, [], false⟩,
 ⟨⟨(some 20), .bin .eql (.t 17) (.t 19), (some (10, true))⟩, 12, [], false⟩,
 ⟨⟨(some 21), .pick (.t 10) (.t 20) (.k (.bool false)), none⟩, 13, [], false⟩])
 (.cond (.t 21)
 (.seq
 (.reg [
 ⟨(some 22), .mov (.t 0), none⟩,
 ⟨(some 23), .mov (.t 5), none⟩,
 ⟨(some 24), .bin .sub (.t 23) (.k (.int .i64 1)), none⟩,
 ⟨(some 25), .fld 1 (.t 3), none⟩,
 ⟨(some 26), .load 1 false (.t 25), none⟩,
 ⟨(some 27), .idx 2 (.t 22) (.t 24), none⟩,
 ⟨(some 28), .fld 1 (.t 27), none⟩,
 ⟨none, .store 1 (.t 28) (.t 26), none⟩])
 (.seq
 (.reg [
 ⟨(some 29), .mov (.t 0), none⟩,
 ⟨(some 4), .mov (.t 29), none⟩])
 .ret))
 .skip)))
 (.seq
 (.reg [
 ⟨(some 30), .mov (.t 0), none⟩,
 ⟨(some 31), .load 2 true (.t 3), none⟩,
 ⟨(some 32), .lits 2 38 [(.t 31)], none⟩,
 ⟨(some 33), .app 2 16 38 (.t 30) (.t 32), none⟩,
 ⟨(some 4), .mov (.t 33), none⟩])
 .ret)))
theorem a61 : Go.Proofs.Try.f61.body.bind (comp Go.Proofs.Try.prog) = some A61 := by kernel_rfl
theorem r61 : compRVs Go.Proofs.Try.prog Go.Proofs.Try.f61.results.toList = some [.tmp 4] := by kernel_rfl
theorem n61 : (Go.Proofs.Try.f61.name == "runtime.NumGoroutine") = false := by decide +kernel
def E61 : Nat × ACode × Nat × List RV := (61, A61, 34, [.tmp 4])
theorem e61 : EntryOk Go.Proofs.Try.prog E61 := ⟨Go.Proofs.Try.f61, Go.Proofs.Try.func61, n61, a61, Go.Proofs.Try.ntmps61, r61⟩
/-! reedpen/cover.Both$1 -/
def A62 : ACode :=
 (.seq
 (.reg [
 ⟨(some 5), .mov (.t 0), none⟩,
 ⟨(some 6), .mov (.t 1), none⟩,
 ⟨(some 7), .bin .leq (.t 5) (.t 6), none⟩])
 (.cond (.t 7)
 (.reg [
 ⟨(some 8), .load 1 false (.t 2), none⟩,
 ⟨(some 9), .mov (.t 0), none⟩,
 ⟨(some 10), .mov (.t 1), none⟩,
 ⟨(some 11), .build [(.int .i64 0), (.int .i64 0)] [(0, 1, (.t 9)), (1, 1, (.t 10))], none⟩,
 ⟨(some 12), .call 61 [(.t 8), (.t 11)], none⟩,
 ⟨none, .store 1 (.t 2) (.t 12), none⟩])
 .skip))
theorem a62 : Go.Proofs.Try.f62.body.bind (comp Go.Proofs.Try.prog) = some A62 := by kernel_rfl
theorem r62 : compRVs Go.Proofs.Try.prog Go.Proofs.Try.f62.results.toList = some [] := by kernel_rfl
theorem n62 : (Go.Proofs.Try.f62.name == "runtime.NumGoroutine") = false := by decide +kernel
def E62 : Nat × ACode × Nat × List RV := (62, A62, 13, [])
theorem e62 : EntryOk Go.Proofs.Try.prog E62 := ⟨Go.Proofs.Try.f62, Go.Proofs.Try.func62, n62, a62, Go.Proofs.Try.ntmps62, r62⟩
/-! reedpen/reedpenref10.U16 -/
def A64 : ACode :=
 (.seq
 (.reg [
 ⟨(some 4), .mov (.k (.int .i64 0)), none⟩])
 (.seq
 (.reg [
 ⟨(some 8), .mov (.t 0), none⟩,
 ⟨(some 9), .mov (.t 1), none⟩,
 ⟨(some 10), .call 86 [(.t 8), (.t 9), (.k (.int .i64 2))], none⟩,
 ⟨(some 7), .mov (.t 10), none⟩,
 ⟨(some 11), .ext 0 (.t 7), none⟩,
 ⟨(some 12), .ext 1 (.t 7), none⟩,
 ⟨(some 5), .mov (.t 11), none⟩,
 ⟨(some 6), .mov (.t 12), none⟩])
 (.seq
 (.seq
 (.reg [
 ⟨(some 13), .mov (.t 6), none⟩,
 ⟨(some 14), .un .not (.t 13), none⟩])
 (.cond (.t 14)
 (.seq
 (.reg [
 ⟨(some 4), .mov (.k (.int .i64 (-1))), none⟩])
 .ret)
 .skip))
 (.seq
 (.reg [
 ⟨(some 15), .mov (.t 5), none⟩,
 ⟨(some 4), .mov (.t 15), none⟩])
 .ret))))
theorem a64 : Go.Proofs.Try.f64.body.bind (comp Go.Proofs.Try.prog) = some A64 := by kernel_rfl
theorem r64 : compRVs Go.Proofs.Try.prog Go.Proofs.Try.f64.results.toList = some [.tmp 4] := by kernel_rfl
theorem n64 : (Go.Proofs.Try.f64.name == "runtime.NumGoroutine") = false := by decide +kernel
def E64 : Nat × ACode × Nat × List RV := (64, A64, 16, [.tmp 4])
theorem e64 : EntryOk Go.Proofs.Try.prog E64 := ⟨Go.Proofs.Try.f64, Go.Proofs.Try.func64, n64, a64, Go.Proofs.Try.ntmps64, r64⟩
/-! reedpen/octet.Within -/
def A71 : ACode :=
 (.seq
 (.reg [
 ⟨(some 6), .mov (.k (.bool false)), none⟩])
 (.seq
 (.reg [
 ⟨(some 7), .mov (.t 1), none⟩,
 ⟨(some 8), .bin .geq (.t 7) (.k (.int .i64 0)), none⟩,
 ⟨(some 9), .mov (.t 8), none⟩,
 ⟨(some 10), .mov (.t 2), (some (9, true))⟩,
 ⟨(some 11), .bin .geq (.t 10) (.k (.int .i64 0)), (some (9, true))⟩,
 ⟨(some 12), .pick (.t 9) (.t 11) (.k (.bool false)), none⟩,
 ⟨(some 13), .mov (.t 12), none⟩,
 ⟨(some 14), .mov (.t 2), (some (13, true))⟩,
 ⟨(some 15), .mov (.t 0), (some (13, true))⟩,
 ⟨(some 16), .len false (.t 15), (some (13, true))⟩,
 ⟨(some 17), .bin .leq (.t 14) (.t 16), (some (13, true))⟩,
 ⟨(some 18), .pick (.t 13) (.t 17) (.k (.bool false)), none⟩,
 ⟨(some 19), .mov (.t 18), none⟩,
 ⟨(some 20), .mov (.t 1), (some (19, true))⟩,
 ⟨(some 21), .mov (.t 0), (some (19, true))⟩,
 ⟨(some 22), .len false (.t 21), (some (19, true))⟩,
 ⟨(some 23), .mov (.t 2), (some (19, true))⟩,
 ⟨(some 24), .bin .sub (.t 22) (.t 23), (some (19, true))⟩,
 ⟨(some 25), .bin .leq (.t 20) (.t 24), (some (19, true))⟩,
 ⟨(some 26), .pick (.t 19) (.t 25) (.k (.bool false)), none⟩,
 ⟨(some 6), .mov (.t 26), none⟩])
 .ret))
theorem a71 : Go.Proofs.Try.f71.body.bind (comp Go.Proofs.Try.prog) = some A71 := by kernel_rfl
theorem r71 : compRVs Go.Proofs.Try.prog Go.Proofs.Try.f71.results.toList = some [.tmp 6] := by kernel_rfl
theorem n71 : (Go.Proofs.Try.f71.name == "runtime.NumGoroutine") = false := by decide +kernel
def E71 : Nat × ACode × Nat × List RV := (71, A71, 27, [.tmp 6])
theorem e71 : EntryOk Go.Proofs.Try.prog E71 := ⟨Go.Proofs.Try.f71, Go.Proofs.Try.func71, n71, a71, Go.Proofs.Try.ntmps71, r71⟩
/-! reedpen/octet.read -/
def A77 : ACode :=
 (.seq
 (.reg [
 ⟨(some 6), .mov (.k (.int .i64 0)), none⟩,
 ⟨(some 7), .mov (.k (.bool false)), none⟩])
 (.seq
 (.seq
 (.reg [
 ⟨(some 8), .mov (.t 0), none⟩,
 ⟨(some 9), .mov (.t 1), none⟩,
 ⟨(some 10), .mov (.t 2), none⟩,
 ⟨(some 11), .call 71 [(.t 8), (.t 9), (.t 10)], none⟩,
 ⟨(some 12), .un .not (.t 11), none⟩])
 (.cond (.t 12)
 (.seq
 (.reg [
 ⟨(some 6), .mov (.k (.int .i64 0)), none⟩,
 ⟨(some 7), .mov (.k (.bool false)), none⟩])
 .ret)
 .skip))
 (.seq
 (.reg [
 ⟨(some 13), .mov (.t 0), none⟩,
 ⟨(some 14), .mov (.t 1), none⟩,
 ⟨(some 15), .mov (.t 1), none⟩,
 ⟨(some 16), .mov (.t 2), none⟩,
 ⟨(some 17), .bin .add (.t 15) (.t 16), none⟩,
 ⟨(some 18), .sl 1 (.t 13) (some (.t 14)) (some (.t 17)) none, none⟩,
 ⟨(some 19), .call 80 [(.t 18)], none⟩,
 ⟨(some 6), .mov (.t 19), none⟩,
 ⟨(some 7), .mov (.k (.bool true)), none⟩])
 .ret)))
theorem a77 : Go.Proofs.Try.f77.body.bind (comp Go.Proofs.Try.prog) = some A77 := by kernel_rfl
theorem r77 : compRVs Go.Proofs.Try.prog Go.Proofs.Try.f77.results.toList = some [.tmp 6, .tmp 7] := by kernel_rfl
theorem n77 : (Go.Proofs.Try.f77.name == "runtime.NumGoroutine") = false := by decide +kernel
def E77 : Nat × ACode × Nat × List RV := (77, A77, 20, [.tmp 6, .tmp 7])
theorem e77 : EntryOk Go.Proofs.Try.prog E77 := ⟨Go.Proofs.Try.f77, Go.Proofs.Try.func77, n77, a77, Go.Proofs.Try.ntmps77, r77⟩
/-! reedpen/octet.many[int] -/
def A78 : ACode :=
 (.seq
 (.reg [
 ⟨(some 4), .mov (.k (.vec true [])), none⟩])
 (.seq
 (.reg [
 ⟨(some 5), .mov (.k (.vec true [])), none⟩])
 (.seq
 (.seq
 (.reg [
 ⟨(some 7), .mov (.t 0), none⟩,
 ⟨(some 8), .mov (.k (.int .i64 0)), none⟩])
 (.block 0
 (.loop
 (.seq
 (.reg [
 ⟨(some 9), .bin .lss (.t 8) (.t 7), none⟩])
 (.seq
 (.cond (.t 9)
 .skip
 (.exit 0))
 (.seq
 (.block 1
 (.seq
 (.reg [
 ⟨(some 10), .mov (.t 8), none⟩,
 ⟨(some 6), .mov (.t 10), none⟩])
 (.reg [
 ⟨(some 11), .mov (.t 5), none⟩,
 ⟨(some 12), .mov (.t 1), none⟩,
 ⟨(some 13), .mov (.t 6), none⟩,
 ⟨(some 14), .callv (.t 12) [(.t 13)], none⟩,
 ⟨(some 15), .lits 1 3 [(.t 14)], none⟩,
 ⟨(some 16), .app 1 8 3 (.t 11) (.t 15), none⟩,
 ⟨(some 5), .mov (.t 16), none⟩])))
 (.reg [
 ⟨(some 17), .bin .add (.t 8) (.k (.int .i64 1)), none⟩,
 ⟨(some 8), .mov (.t 17), none⟩])))))))
 (.seq
 (.reg [
 ⟨(some 18), .mov (.t 5), none⟩,
 ⟨(some 4), .mov (.t 18), none⟩])
 .ret))))
theorem a78 : Go.Proofs.Try.f78.body.bind (comp Go.Proofs.Try.prog) = some A78 := by kernel_rfl
theorem r78 : compRVs Go.Proofs.Try.prog Go.Proofs.Try.f78.results.toList = some [.tmp 4] := by kernel_rfl
theorem n78 : (Go.Proofs.Try.f78.name == "runtime.NumGoroutine") = false := by decide +kernel
def E78 : Nat × ACode × Nat × List RV := (78, A78, 19, [.tmp 4])
theorem e78 : EntryOk Go.Proofs.Try.prog E78 := ⟨Go.Proofs.Try.f78, Go.Proofs.Try.func78, n78, a78, Go.Proofs.Try.ntmps78, r78⟩
/-! reedpen/octet.Row$1 -/
def A79 : ACode :=
 (.seq
 (.reg [
 ⟨(some 5), .mov (.k (.int .i64 0)), none⟩])
 (.seq
 (.reg [
 ⟨(some 6), .load 1 false (.t 1), none⟩,
 ⟨(some 7), .load 1 false (.t 2), none⟩,
 ⟨(some 8), .mov (.t 0), none⟩,
 ⟨(some 9), .load 1 false (.t 3), none⟩,
 ⟨(some 10), .bin .mul (.t 8) (.t 9), none⟩,
 ⟨(some 11), .bin .add (.t 7) (.t 10), none⟩,
 ⟨(some 12), .load 1 false (.t 2), none⟩,
 ⟨(some 13), .mov (.t 0), none⟩,
 ⟨(some 14), .bin .add (.t 13) (.k (.int .i64 1)), none⟩,
 ⟨(some 15), .load 1 false (.t 3), none⟩,
 ⟨(some 16), .bin .mul (.t 14) (.t 15), none⟩,
 ⟨(some 17), .bin .add (.t 12) (.t 16), none⟩,
 ⟨(some 18), .sl 1 (.t 6) (some (.t 11)) (some (.t 17)) none, none⟩,
 ⟨(some 19), .call 80 [(.t 18)], none⟩,
 ⟨(some 5), .mov (.t 19), none⟩])
 .ret))
theorem a79 : Go.Proofs.Try.f79.body.bind (comp Go.Proofs.Try.prog) = some A79 := by kernel_rfl
theorem r79 : compRVs Go.Proofs.Try.prog Go.Proofs.Try.f79.results.toList = some [.tmp 5] := by kernel_rfl
theorem n79 : (Go.Proofs.Try.f79.name == "runtime.NumGoroutine") = false := by decide +kernel
def E79 : Nat × ACode × Nat × List RV := (79, A79, 20, [.tmp 5])
theorem e79 : EntryOk Go.Proofs.Try.prog E79 := ⟨Go.Proofs.Try.f79, Go.Proofs.Try.func79, n79, a79, Go.Proofs.Try.ntmps79, r79⟩
/-! reedpen/octet.number -/
def A80 : ACode :=
 (.seq
 (.reg [
 ⟨(some 2), .mov (.k (.int .i64 0)), none⟩])
 (.seq
 (.reg [
 ⟨(some 3), .mov (.k (.int .i64 0)), none⟩])
 (.seq
 (.seq
 (.reg [
 ⟨(some 6), .mov (.t 0), none⟩,
 ⟨(some 7), .len false (.t 6), none⟩,
 ⟨(some 8), .mov (.k (.int .i64 0)), none⟩])
 (.block 0
 (.loop
 (.seq
 (.reg [
 ⟨(some 9), .bin .lss (.t 8) (.t 7), none⟩])
 (.seq
 (.cond (.t 9)
 .skip
 (.exit 0))
 (.seq
 (.block 1
 (.seq
 (.reg [
 ⟨(some 10), .idx 1 (.t 6) (.t 8), none⟩,
 ⟨(some 11), .load 1 false (.t 10), none⟩,
 ⟨(some 5), .mov (.t 11), none⟩])
 (.reg [
 ⟨(some 12), .mov (.t 3), none⟩,
 ⟨(some 13), .bin .shl (.t 12) (.k (.int .u64 8)), none⟩,
 ⟨(some 14), .mov (.t 5), none⟩,
 ⟨(some 15), .conv .i64 (.t 14), none⟩,
 ⟨(some 16), .bin .or (.t 13) (.t 15), none⟩,
 ⟨(some 3), .mov (.t 16), none⟩])))
 (.reg [
 ⟨(some 17), .bin .add (.t 8) (.k (.int .i64 1)), none⟩,
 ⟨(some 8), .mov (.t 17), none⟩])))))))
 (.seq
 (.reg [
 ⟨(some 18), .mov (.t 3), none⟩,
 ⟨(some 2), .mov (.t 18), none⟩])
 .ret))))
theorem a80 : Go.Proofs.Try.f80.body.bind (comp Go.Proofs.Try.prog) = some A80 := by kernel_rfl
theorem r80 : compRVs Go.Proofs.Try.prog Go.Proofs.Try.f80.results.toList = some [.tmp 2] := by kernel_rfl
theorem n80 : (Go.Proofs.Try.f80.name == "runtime.NumGoroutine") = false := by decide +kernel
def E80 : Nat × ACode × Nat × List RV := (80, A80, 19, [.tmp 2])
theorem e80 : EntryOk Go.Proofs.Try.prog E80 := ⟨Go.Proofs.Try.f80, Go.Proofs.Try.func80, n80, a80, Go.Proofs.Try.ntmps80, r80⟩
/-! reedpen/reedpenref01.Number -/
def A86 : ACode :=
 (.seq
 (.reg [
 ⟨(some 6), .mov (.k (.int .i64 0)), none⟩,
 ⟨(some 7), .mov (.k (.bool false)), none⟩])
 (.seq
 (.seq
 (.reg [
 ⟨(some 10), .mov (.t 0), none⟩,
 ⟨(some 11), .len false (.t 10), none⟩,
 ⟨(some 12), .mov (.t 1), none⟩,
 ⟨(some 13), .mov (.t 2), none⟩,
 ⟨(some 14), .call 105 [(.t 11), (.t 12), (.t 13)], none⟩,
 ⟨(some 15), .un .not (.t 14), none⟩])
 (.cond (.t 15)
 (.seq
 (.reg [
 ⟨(some 6), .mov (.k (.int .i64 0)), none⟩,
 ⟨(some 7), .mov (.k (.bool false)), none⟩])
 .ret)
 .skip))
 (.seq
 (.reg [
 ⟨(some 8), .mov (.k (.int .i64 0)), none⟩])
 (.seq
 (.seq
 (.reg [
 ⟨(some 9), .mov (.k (.int .i64 0)), none⟩])
 (.block 0
 (.loop
 (.seq
 (.seq
 (.reg [
 ⟨(some 16), .mov (.t 9), none⟩,
 ⟨(some 17), .mov (.t 2), none⟩,
 ⟨(some 18), .bin .lss (.t 16) (.t 17), none⟩])
 (.cond (.t 18)
 .skip
 (.exit 0)))
 (.seq
 (.block 1
 (.reg [
 ⟨(some 21), .mov (.t 8), none⟩,
 ⟨(some 22), .bin .mul (.t 21) (.k (.int .i64 256)), none⟩,
 ⟨(some 23), .mov (.t 0), none⟩,
 ⟨(some 24), .mov (.t 1), none⟩,
 ⟨(some 25), .mov (.t 9), none⟩,
 ⟨(some 26), .bin .add (.t 24) (.t 25), none⟩,
 ⟨(some 27), .idx 1 (.t 23) (.t 26), none⟩,
 ⟨(some 28), .load 1 false (.t 27), none⟩,
 ⟨(some 29), .conv .i64 (.t 28), none⟩,
 ⟨(some 30), .bin .add (.t 22) (.t 29), none⟩,
 ⟨(some 8), .mov (.t 30), none⟩]))
 (.reg [
 ⟨(some 19), .mov (.t 9), none⟩,
 ⟨(some 20), .bin .add (.t 19) (.k (.int .i64 1)), none⟩,
 ⟨(some 9), .mov (.t 20), none⟩]))))))
 (.seq
 (.reg [
 ⟨(some 31), .mov (.t 8), none⟩,
 ⟨(some 6), .mov (.t 31), none⟩,
 ⟨(some 7), .mov (.k (.bool true)), none⟩])
 .ret)))))
theorem a86 : Go.Proofs.Try.f86.body.bind (comp Go.Proofs.Try.prog) = some A86 := by kernel_rfl
theorem r86 : compRVs Go.Proofs.Try.prog Go.Proofs.Try.f86.results.toList = some [.tmp 6, .tmp 7] := by kernel_rfl
theorem n86 : (Go.Proofs.Try.f86.name == "runtime.NumGoroutine") = false := by decide +kernel
def E86 : Nat × ACode × Nat × List RV := (86, A86, 32, [.tmp 6, .tmp 7])
theorem e86 : EntryOk Go.Proofs.Try.prog E86 := ⟨Go.Proofs.Try.f86, Go.Proofs.Try.func86, n86, a86, Go.Proofs.Try.ntmps86, r86⟩
/-! reedpen/reedpenref01.Within -/
def A105 : ACode :=
 (.seq
 (.reg [
 ⟨(some 6), .mov (.k (.bool false)), none⟩])
 (.seq
 (.reg [
 ⟨(some 7), .mov (.t 1), none⟩,
 ⟨(some 8), .bin .geq (.t 7) (.k (.int .i64 0)), none⟩,
 ⟨(some 9), .mov (.t 8), none⟩,
 ⟨(some 10), .mov (.t 2), (some (9, true))⟩,
 ⟨(some 11), .bin .geq (.t 10) (.k (.int .i64 0)), (some (9, true))⟩,
 ⟨(some 12), .pick (.t 9) (.t 11) (.k (.bool false)), none⟩,
 ⟨(some 13), .mov (.t 12), none⟩,
 ⟨(some 14), .mov (.t 1), (some (13, true))⟩,
 ⟨(some 15), .mov (.t 0), (some (13, true))⟩,
 ⟨(some 16), .bin .leq (.t 14) (.t 15), (some (13, true))⟩,
 ⟨(some 17), .pick (.t 13) (.t 16) (.k (.bool false)), none⟩,
 ⟨(some 18), .mov (.t 17), none⟩,
 ⟨(some 19), .mov (.t 2), (some (18, true))⟩,
 ⟨(some 20), .mov (.t 0), (some (18, true))⟩,
 ⟨(some 21), .mov (.t 1), (some (18, true))⟩,
 ⟨(some 22), .bin .sub (.t 20) (.t 21), (some (18, true))⟩,
 ⟨(some 23), .bin .leq (.t 19) (.t 22), (some (18, true))⟩,
 ⟨(some 24), .pick (.t 18) (.t 23) (.k (.bool false)), none⟩,
 ⟨(some 6), .mov (.t 24), none⟩])
 .ret))
theorem a105 : Go.Proofs.Try.f105.body.bind (comp Go.Proofs.Try.prog) = some A105 := by kernel_rfl
theorem r105 : compRVs Go.Proofs.Try.prog Go.Proofs.Try.f105.results.toList = some [.tmp 6] := by kernel_rfl
theorem n105 : (Go.Proofs.Try.f105.name == "runtime.NumGoroutine") = false := by decide +kernel
def E105 : Nat × ACode × Nat × List RV := (105, A105, 25, [.tmp 6])
theorem e105 : EntryOk Go.Proofs.Try.prog E105 := ⟨Go.Proofs.Try.f105, Go.Proofs.Try.func105, n105, a105, Go.Proofs.Try.ntmps105, r105⟩
end Go.Proofs.Ytakplhfiohjcmaa.AI
