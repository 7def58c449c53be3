/- Functions' code by sight: written by a program (gen.py) out of the translation; Lean checks it against the translation. -/
import Derived.Test.YtjdnbdhdpcnikaaA20
import Derived.Test.YtjdnbdhdpcnikaaProg
namespace Go.Proofs.Ytjdnbdhdpcnikaa.AI
/-! reedpen/reedpenlaw17.BufferStays -/
def A5 : ACode :=
 (.seq
 (.reg [
 ⟨(some 4), .mov (.k (.bool false)), none⟩])
 (.seq
 (.seq
 (.reg [
 ⟨(some 9), .call 12 [], none⟩,
 ⟨(some 10), .un .not (.t 9), none⟩])
 (.cond (.t 10)
 (.seq
 (.reg [
 ⟨(some 4), .mov (.k (.bool false)), none⟩])
 .ret)
 .skip))
 (.seq
 (.seq
 (.reg [
 ⟨(some 11), .mov (.t 0), none⟩,
 ⟨(some 12), .len false (.t 11), none⟩,
 ⟨(some 13), .bin .gtr (.t 12) (.k (.int .i64 100)), none⟩])
 (.cond (.t 13)
 (.seq
 (.reg [
 ⟨(some 4), .mov (.k (.bool true)), none⟩])
 .ret)
 .skip))
 (.seq
 (.reg [
 ⟨(some 5), .mov (.k (.vec true [])), none⟩,
 ⟨(some 6), .mov (.k (.vec true [])), none⟩])
 (.seq
 (.seq
 (.reg [
 ⟨(some 7), .mov (.k (.int .i64 0)), none⟩])
 (.block 0
 (.loop
 (.seq
 (.seq
 (.reg [
 ⟨(some 14), .mov (.t 7), none⟩,
 ⟨(some 15), .mov (.t 0), none⟩,
 ⟨(some 16), .len false (.t 15), none⟩,
 ⟨(some 17), .bin .lss (.t 14) (.t 16), none⟩])
 (.cond (.t 17)
 .skip
 (.exit 0)))
 (.seq
 (.block 1
 (.seq
 (.reg [
 ⟨(some 20), .mov (.t 5), none⟩,
 ⟨(some 21), .mov (.t 7), none⟩,
 ⟨(some 22), .lits 1 3 [(.t 21)], none⟩,
 ⟨(some 23), .app 1 8 3 (.t 20) (.t 22), none⟩,
 ⟨(some 5), .mov (.t 23), none⟩])
 (.reg [
 ⟨(some 24), .mov (.t 6), none⟩,
 ⟨(some 25), .lits 1 3 [(.k (.int .i64 7))], none⟩,
 ⟨(some 26), .app 1 8 3 (.t 24) (.t 25), none⟩,
 ⟨(some 6), .mov (.t 26), none⟩])))
 (.reg [
 ⟨(some 18), .mov (.t 7), none⟩,
 ⟨(some 19), .bin .add (.t 18) (.k (.int .i64 1)), none⟩,
 ⟨(some 7), .mov (.t 19), none⟩]))))))
 (.seq
 (.reg [
 ⟨(some 27), .mov (.t 0), none⟩,
 ⟨(some 8), .mov (.t 27), none⟩])
 (.seq
 (.seq
 (.reg [
 ⟨(some 28), .mov (.t 1), none⟩,
 ⟨(some 29), .bin .geq (.t 28) (.k (.int .i64 0)), none⟩,
 ⟨(some 30), .mov (.t 29), none⟩,
 ⟨(some 31), .mov (.t 1), (some (30, true))⟩,
 ⟨(some 32), .mov (.t 0), (some (30, true))⟩,
 ⟨(some 33), .len false (.t 32), (some (30, true))⟩,
 ⟨(some 34), .bin .lss (.t 31) (.t 33), (some (30, true))⟩,
 ⟨(some 35), .pick (.t 30) (.t 34) (.k (.bool false)), none⟩])
 (.cond (.t 35)
 (.reg [
 ⟨(some 36), .mov (.t 0), none⟩,
 ⟨(some 37), .mov (.t 1), none⟩,
 ⟨(some 38), .mov (.t 0), none⟩,
 ⟨(some 39), .mov (.t 1), none⟩,
 ⟨(some 40), .idx 14 (.t 38) (.t 39), none⟩,
 ⟨(some 41), .fld 0 (.t 40), none⟩,
 ⟨(some 42), .load 1 false (.t 41), none⟩,
 ⟨(some 43), .lits 1 3 [(.t 42)], none⟩,
 ⟨(some 44), .call 18 [(.t 36), (.t 37), (.k (.int .i64 1)), (.t 43)], none⟩,
 ⟨(some 8), .mov (.t 44), none⟩])
 .skip))
 (.seq
 (.reg [
 ⟨(some 45), .mov (.t 0), none⟩,
 ⟨(some 46), .mov (.t 5), none⟩,
 ⟨(some 47), .call 19 [(.t 45), (.k (.int .i64 0)), (.t 46)], none⟩,
 ⟨(some 48), .mov (.t 0), none⟩,
 ⟨(some 49), .call 15 [(.t 47), (.t 48)], none⟩,
 ⟨(some 50), .mov (.t 49), none⟩,
 ⟨(some 51), .mov (.t 0), (some (50, true))⟩,
 ⟨(some 52), .mov (.t 0), (some (50, true))⟩,
 ⟨(some 53), .len false (.t 52), (some (50, true))⟩,
 ⟨(some 54), .mov (.t 6), (some (50, true))⟩,
 ⟨(some 55), .call 21 [(.t 51), (.k (.int .i64 0)), (.t 53), (.t 54)], (some (50, true))⟩,
 ⟨(some 56), .mov (.t 0), (some (50, true))⟩,
 ⟨(some 57), .call 15 [(.t 55), (.t 56)], (some (50, true))⟩,
 ⟨(some 58), .pick (.t 50) (.t 57) (.k (.bool false)), none⟩,
 ⟨(some 59), .mov (.t 58), none⟩,
 ⟨(some 60), .mov (.t 8), (some (59, true))⟩,
 ⟨(some 61), .mov (.t 0), (some (59, true))⟩,
 ⟨(some 62), .call 15 [(.t 60), (.t 61)], (some (59, true))⟩,
 ⟨(some 63), .pick (.t 59) (.t 62) (.k (.bool false)), none⟩,
 ⟨(some 64), .mov (.t 63), none⟩,
 ⟨(some 65), .mov (.t 5), (some (64, true))⟩,
 ⟨(some 66), .call 22 [(.t 65)], (some (64, true))⟩,
 ⟨(some 67), .len false (.t 66), (some (64, true))⟩,
 ⟨(some 68), .mov (.t 0), (some (64, true))⟩,
 ⟨(some 69), .len false (.t 68), (some (64, true))⟩,
 ⟨(some 70), .bin .eql (.t 67) (.t 69), (some (64, true))⟩,
 ⟨(some 71), .pick (.t 64) (.t 70) (.k (.bool false)), none⟩,
 ⟨(some 4), .mov (.t 71), none⟩])
 .ret))))))))
theorem a5 : Go.Proofs.Try.f5.body.bind (comp Go.Proofs.Try.prog) = some A5 := by kernel_rfl
theorem r5 : compRVs Go.Proofs.Try.prog Go.Proofs.Try.f5.results.toList = some [.tmp 4] := by kernel_rfl
theorem n5 : (Go.Proofs.Try.f5.name == "runtime.NumGoroutine") = false := by decide +kernel
def E5 : Nat × ACode × Nat × List RV := (5, A5, 72, [.tmp 4])
theorem e5 : EntryOk Go.Proofs.Try.prog E5 := ⟨Go.Proofs.Try.f5, Go.Proofs.Try.func5, n5, a5, Go.Proofs.Try.ntmps5, r5⟩
/-! reedpen/reedpenlaw17.alive -/
def A12 : ACode :=
 (.seq
 (.reg [
 ⟨(some 0), .mov (.k (.bool false)), none⟩])
 (.seq
 (.reg [
 ⟨(some 4), .build [(.int .i64 0), (.int .i64 0), (.int .i64 0), (.int .i64 0), (.int .i32 0), (.int .i64 0), (.int .i64 0), (.int .i64 0), (.int .i64 0), (.int .i64 0), (.int .i64 0), (.int .i64 0), (.int .i64 0), (.int .i64 0)] [(0, 1, (.k (.int .i64 1)))], none⟩,
 ⟨(some 5), .build [(.int .i64 0), (.int .i64 0), (.int .i64 0), (.int .i64 0), (.int .i32 0), (.int .i64 0), (.int .i64 0), (.int .i64 0), (.int .i64 0), (.int .i64 0), (.int .i64 0), (.int .i64 0), (.int .i64 0), (.int .i64 0)] [(0, 1, (.k (.int .i64 2))), (1, 1, (.k (.int .i64 1)))], none⟩,
 ⟨(some 6), .build [(.int .i64 0), (.int .i64 0), (.int .i64 0), (.int .i64 0), (.int .i32 0), (.int .i64 0), (.int .i64 0), (.int .i64 0), (.int .i64 0), (.int .i64 0), (.int .i64 0), (.int .i64 0), (.int .i64 0), (.int .i64 0)] [(0, 1, (.k (.int .i64 3))), (1, 1, (.k (.int .i64 2)))], none⟩,
 ⟨(some 7), .build [(.int .i64 0), (.int .i64 0), (.int .i64 0), (.int .i64 0), (.int .i32 0), (.int .i64 0), (.int .i64 0), (.int .i64 0), (.int .i64 0), (.int .i64 0), (.int .i64 0), (.int .i64 0), (.int .i64 0), (.int .i64 0)] [(0, 1, (.k (.int .i64 4))), (1, 1, (.k (.int .i64 3)))], none⟩,
 ⟨(some 8), .lits 14 32 [(.t 4), (.t 5), (.t 6), (.t 7)], none⟩,
 ⟨(some 1), .mov (.t 8), none⟩])
 (.seq
 (.reg [
 ⟨(some 9), .mov (.t 1), none⟩,
 ⟨(some 10), .lits 1 3 [(.k (.int .i64 0)), (.k (.int .i64 2)), (.k (.int .i64 1)), (.k (.int .i64 3))], none⟩,
 ⟨(some 11), .call 19 [(.t 9), (.k (.int .i64 0)), (.t 10)], none⟩,
 ⟨(some 2), .mov (.t 11), none⟩])
 (.seq
 (.reg [
 ⟨(some 12), .mov (.t 1), none⟩,
 ⟨(some 13), .lits 1 3 [(.k (.int .i64 9))], none⟩,
 ⟨(some 14), .call 18 [(.t 12), (.k (.int .i64 1)), (.k (.int .i64 2)), (.t 13)], none⟩,
 ⟨(some 3), .mov (.t 14), none⟩])
 (.seq
 (.reg [
 ⟨(some 15), .mov (.t 2), none⟩,
 ⟨(some 16), .len false (.t 15), none⟩,
 ⟨(some 17), .bin .eql (.t 16) (.k (.int .i64 4)), none⟩,
 ⟨(some 18), .mov (.t 17), none⟩,
 ⟨(some 19), .mov (.t 2), (some (18, true))⟩,
 ⟨(some 20), .idx 14 (.t 19) (.k (.int .i64 1)), (some (18, true))⟩,
 ⟨(some 21), .fld 0 (.t 20), (some (18, true))⟩,
 ⟨(some 22), .load 1 false (.t 21), (some (18, true))⟩,
 ⟨(some 23), .bin .eql (.t 22) (.k (.int .i64 3)), (some (18, true))⟩,
 ⟨(some 24), .pick (.t 18) (.t 23) (.k (.bool false)), none⟩,
 ⟨(some 25), .mov (.t 24), none⟩,
 ⟨(some 26), .mov (.t 2), (some (25, true))⟩,
 ⟨(some 27), .idx 14 (.t 26) (.k (.int .i64 1)), (some (25, true))⟩,
 ⟨(some 28), .fld 1 (.t 27), (some (25, true))⟩,
 ⟨(some 29), .load 1 false (.t 28), (some (25, true))⟩,
 ⟨(some 30), .bin .eql (.t 29) (.k (.int .i64 1)), (some (25, true))⟩,
 ⟨(some 31), .pick (.t 25) (.t 30) (.k (.bool false)), none⟩,
 ⟨(some 32), .mov (.t 31), none⟩,
 ⟨(some 33), .mov (.t 2), (some (32, true))⟩,
 ⟨(some 34), .idx 14 (.t 33) (.k (.int .i64 2)), (some (32, true))⟩,
 ⟨(some 35), .fld 1 (.t 34), (some (32, true))⟩,
 ⟨(some 36), .load 1 false (.t 35), (some (32, true))⟩,
 ⟨(some 37), .bin .eql (.t 36) (.k (.int .i64 1)), (some (32, true))⟩,
 ⟨(some 38), .pick (.t 32) (.t 37) (.k (.bool false)), none⟩,
 ⟨(some 39), .mov (.t 38), none⟩,
 ⟨(some 40), .mov (.t 2), (some (39, true))⟩,
 ⟨(some 41), .idx 14 (.t 40) (.k (.int .i64 3)), (some (39, true))⟩,
 ⟨(some 42), .fld 1 (.t 41), (some (39, true))⟩,
 ⟨(some 43), .load 1 false (.t 42), (some (39, true))⟩,
 ⟨(some 44), .bin .eql (.t 43) (.k (.int .i64 3)), (some (39, true))⟩,
 ⟨(some 45), .pick (.t 39) (.t 44) (.k (.bool false)), none⟩,
 ⟨(some 46), .mov (.t 45), none⟩,
 ⟨(some 47), .mov (.t 2), (some (46, true))⟩,
 ⟨(some 48), .call 13 [(.t 47)], (some (46, true))⟩,
 ⟨(some 49), .pick (.t 46) (.t 48) (.k (.bool false)), none⟩,
 ⟨(some 50), .mov (.t 49), none⟩,
 ⟨(some 51), .lits 1 3 [(.k (.int .i64 0)), (.k (.int .i64 2)), (.k (.int .i64 1)), (.k (.int .i64 3))], (some (50, true))⟩,
 ⟨(some 52), .call 22 [(.t 51)], (some (50, true))⟩,
 ⟨(some 53), .len false (.t 52), (some (50, true))⟩,
 ⟨(some 54), .bin .eql (.t 53) (.k (.int .i64 3)), (some (50, true))⟩,
 ⟨(some 55), .pick (.t 50) (.t 54) (.k (.bool false)), none⟩,
 ⟨(some 56), .mov (.t 55), none⟩,
 ⟨(some 57), .mov (.t 3), (some (56, true))⟩,
 ⟨(some 58), .len false (.t 57), (some (56, true))⟩,
 ⟨(some 59), .bin .eql (.t 58) (.k (.int .i64 3)), (some (56, true))⟩,
 ⟨(some 60), .pick (.t 56) (.t 59) (.k (.bool false)), none⟩,
 ⟨(some 61), .mov (.t 60), none⟩,
 ⟨(some 62), .mov (.t 3), (some (61, true))⟩,
 ⟨(some 63), .idx 14 (.t 62) (.k (.int .i64 1)), (some (61, true))⟩,
 ⟨(some 64), .fld 0 (.t 63), (some (61, true))⟩,
 ⟨(some 65), .load 1 false (.t 64), (some (61, true))⟩,
 ⟨(some 66), .bin .eql (.t 65) (.k (.int .i64 9)), (some (61, true))⟩,
 ⟨(some 67), .pick (.t 61) (.t 66) (.k (.bool false)), none⟩,
 ⟨(some 68), .mov (.t 67), none⟩,
 ⟨(some 69), .mov (.t 1), (some (68, true))⟩,
 ⟨(some 70), .mov (.t 1), (some (68, true))⟩,
 ⟨(some 71), .idx 14 (.t 70) (.k (.int .i64 0)), (some (68, true))⟩,
 ⟨(some 72), .load 14 true (.t 71), (some (68, true))⟩,
 ⟨(some 73), .call 50 [(.t 69), (.k (.int .i64 4)), (.t 72)], (some (68, true))⟩,
 ⟨(some 74), .len false (.t 73), (some (68, true))⟩,
 ⟨(some 75), .bin .eql (.t 74) (.k (.int .i64 5)), (some (68, true))⟩,
 ⟨(some 76), .pick (.t 68) (.t 75) (.k (.bool false)), none⟩,
 ⟨(some 77), .mov (.t 76), none⟩,
 ⟨(some 78), .mov (.t 1), (some (77, true))⟩,
 ⟨(some 79), .call 16 [(.t 78), (.k (.int .i64 0)), (.k (.int .i64 2))], (some (77, true))⟩,
 ⟨(some 80), .len false (.t 79), (some (77, true))⟩,
 ⟨(some 81), .bin .eql (.t 80) (.k (.int .i64 4)), (some (77, true))⟩,
 ⟨(some 82), .pick (.t 77) (.t 81) (.k (.bool false)), none⟩,
 ⟨(some 83), .mov (.t 82), none⟩,
 ⟨(some 84), .mov (.t 1), (some (83, true))⟩,
 ⟨(some 85), .lits 1 3 [(.k (.int .i64 2)), (.k (.int .i64 1))], (some (83, true))⟩,
 ⟨(some 86), .call 21 [(.t 84), (.k (.int .i64 0)), (.k (.int .i64 2)), (.t 85)], (some (83, true))⟩,
 ⟨(some 87), .len false (.t 86), (some (83, true))⟩,
 ⟨(some 88), .bin .eql (.t 87) (.k (.int .i64 4)), (some (83, true))⟩,
 ⟨(some 89), .pick (.t 83) (.t 88) (.k (.bool false)), none⟩,
 ⟨(some 0), .mov (.t 89), none⟩])
 .ret)))))
theorem a12 : Go.Proofs.Try.f12.body.bind (comp Go.Proofs.Try.prog) = some A12 := by kernel_rfl
theorem r12 : compRVs Go.Proofs.Try.prog Go.Proofs.Try.f12.results.toList = some [.tmp 0] := by kernel_rfl
theorem n12 : (Go.Proofs.Try.f12.name == "runtime.NumGoroutine") = false := by decide +kernel
def E12 : Nat × ACode × Nat × List RV := (12, A12, 90, [.tmp 0])
theorem e12 : EntryOk Go.Proofs.Try.prog E12 := ⟨Go.Proofs.Try.f12, Go.Proofs.Try.func12, n12, a12, Go.Proofs.Try.ntmps12, r12⟩
/-! reedpen/buffer.Rise -/
def A13 : ACode :=
 (.seq
 (.reg [
 ⟨(some 2), .mov (.k (.bool false)), none⟩])
 (.seq
 (.reg [
 ⟨(some 3), .mov (.t 0), none⟩,
 ⟨(some 4), .call 51 [(.t 3), (.k (.fn (.func 52) [] []))], none⟩,
 ⟨(some 2), .mov (.t 4), none⟩])
 .ret))
theorem a13 : Go.Proofs.Try.f13.body.bind (comp Go.Proofs.Try.prog) = some A13 := by kernel_rfl
theorem r13 : compRVs Go.Proofs.Try.prog Go.Proofs.Try.f13.results.toList = some [.tmp 2] := by kernel_rfl
theorem n13 : (Go.Proofs.Try.f13.name == "runtime.NumGoroutine") = false := by decide +kernel
def E13 : Nat × ACode × Nat × List RV := (13, A13, 5, [.tmp 2])
theorem e13 : EntryOk Go.Proofs.Try.prog E13 := ⟨Go.Proofs.Try.f13, Go.Proofs.Try.func13, n13, a13, Go.Proofs.Try.ntmps13, r13⟩
/-! reedpen/reedpenref17.Same -/
def A15 : ACode :=
 (.seq
 (.reg [
 ⟨(some 4), .mov (.k (.bool false)), none⟩])
 (.seq
 (.seq
 (.reg [
 ⟨(some 6), .mov (.t 0), none⟩,
 ⟨(some 7), .len false (.t 6), none⟩,
 ⟨(some 8), .mov (.t 1), none⟩,
 ⟨(some 9), .len false (.t 8), none⟩,
 ⟨(some 10), .bin .neq (.t 7) (.t 9), none⟩])
 (.cond (.t 10)
 (.seq
 (.reg [
 ⟨(some 4), .mov (.k (.bool false)), none⟩])
 .ret)
 .skip))
 (.seq
 (.seq
 (.reg [
 ⟨(some 5), .mov (.k (.int .i64 0)), none⟩])
 (.block 0
 (.loop
 (.seq
 (.seq
 (.reg [
 ⟨(some 11), .mov (.t 5), none⟩,
 ⟨(some 12), .mov (.t 0), none⟩,
 ⟨(some 13), .len false (.t 12), none⟩,
 ⟨(some 14), .bin .lss (.t 11) (.t 13), none⟩])
 (.cond (.t 14)
 .skip
 (.exit 0)))
 (.seq
 (.block 1
 (.seq
 (.regd [
 ⟨⟨(some 17), .mov (.t 0), none⟩, 0, [], false⟩,
 ⟨⟨(some 18), .mov (.t 5), none⟩, 1, [], false⟩,
 ⟨⟨(some 19), .idx 14 (.t 17) (.t 18), none⟩, 2, [], false⟩,
 ⟨⟨(some 20), .load 14 true (.t 19), none⟩, 3, [], false⟩,
 ⟨⟨(some 21), .mov (.t 1), none⟩, 4, [], false⟩,
 ⟨⟨(some 22), .mov (.t 5), none⟩, 5, [], false⟩,
 ⟨⟨(some 23), .idx 14 (.t 21) (.t 22), none⟩, 6, [], false⟩,
 ⟨⟨(some 24), .load 14 true (.t 23), none⟩, 7, [], false⟩,
 ⟨⟨(some 25), .eqs true [0, 0, 0, 0, 0, 0, 0, 0, 0, 0, 0, 0, 0, 0] (.t 20) (.t 24), none⟩, 8, [], false⟩])
 (.cond (.t 25)
 (.seq
 (.reg [
 ⟨(some 4), .mov (.k (.bool false)), none⟩])
 .ret)
 .skip)))
 (.reg [
 ⟨(some 15), .mov (.t 5), none⟩,
 ⟨(some 16), .bin .add (.t 15) (.k (.int .i64 1)), none⟩,
 ⟨(some 5), .mov (.t 16), none⟩]))))))
 (.seq
 (.reg [
 ⟨(some 4), .mov (.k (.bool true)), none⟩])
 .ret))))
theorem a15 : Go.Proofs.Try.f15.body.bind (comp Go.Proofs.Try.prog) = some A15 := by kernel_rfl
theorem r15 : compRVs Go.Proofs.Try.prog Go.Proofs.Try.f15.results.toList = some [.tmp 4] := by kernel_rfl
theorem n15 : (Go.Proofs.Try.f15.name == "runtime.NumGoroutine") = false := by decide +kernel
def E15 : Nat × ACode × Nat × List RV := (15, A15, 26, [.tmp 4])
theorem e15 : EntryOk Go.Proofs.Try.prog E15 := ⟨Go.Proofs.Try.f15, Go.Proofs.Try.func15, n15, a15, Go.Proofs.Try.ntmps15, r15⟩
/-! reedpen/buffer.Merge -/
def A16 : ACode :=
 (.seq
 (.reg [
 ⟨(some 6), .mov (.k (.vec true [])), none⟩])
 (.seq
 (.reg [
 ⟨(some 14), .mov (.t 0), none⟩,
 ⟨(some 15), .call 53 [(.t 14)], none⟩,
 ⟨(some 7), .mov (.t 15), none⟩])
 (.seq
 (.seq
 (.reg [
 ⟨(some 16), .mov (.t 1), none⟩,
 ⟨(some 17), .bin .lss (.t 16) (.k (.int .i64 0)), none⟩,
 ⟨(some 18), .mov (.t 17), none⟩,
 ⟨(some 19), .mov (.t 2), (some (18, false))⟩,
 ⟨(some 20), .mov (.t 0), (some (18, false))⟩,
 ⟨(some 21), .len false (.t 20), (some (18, false))⟩,
 ⟨(some 22), .bin .gtr (.t 19) (.t 21), (some (18, false))⟩,
 ⟨(some 23), .pick (.t 18) (.k (.bool true)) (.t 22), none⟩,
 ⟨(some 24), .mov (.t 23), none⟩,
 ⟨(some 25), .mov (.t 1), (some (24, false))⟩,
 ⟨(some 26), .mov (.t 2), (some (24, false))⟩,
 ⟨(some 27), .bin .geq (.t 25) (.t 26), (some (24, false))⟩,
 ⟨(some 28), .pick (.t 24) (.k (.bool true)) (.t 27), none⟩])
 (.cond (.t 28)
 (.seq
 (.reg [
 ⟨(some 29), .mov (.t 7), none⟩,
 ⟨(some 6), .mov (.t 29), none⟩])
 .ret)
 .skip))
 (.seq
 (.reg [
 ⟨(some 30), .mov (.t 0), none⟩,
 ⟨(some 31), .mov (.t 1), none⟩,
 ⟨(some 32), .idx 14 (.t 30) (.t 31), none⟩,
 ⟨(some 33), .fld 1 (.t 32), none⟩,
 ⟨(some 34), .load 1 false (.t 33), none⟩,
 ⟨(some 8), .mov (.t 34), none⟩])
 (.seq
 (.seq
 (.reg [
 ⟨(some 35), .mov (.t 0), none⟩,
 ⟨(some 36), .mov (.t 1), none⟩,
 ⟨(some 37), .mov (.t 2), none⟩,
 ⟨(some 38), .sl 14 (.t 35) (some (.t 36)) (some (.t 37)) none, none⟩,
 ⟨(some 39), .len false (.t 38), none⟩,
 ⟨(some 40), .mov (.k (.int .i64 0)), none⟩])
 (.block 0
 (.loop
 (.seq
 (.reg [
 ⟨(some 41), .bin .lss (.t 40) (.t 39), none⟩])
 (.seq
 (.cond (.t 41)
 .skip
 (.exit 0))
 (.seq
 (.block 1
 (.seq
 (.reg [
 ⟨(some 42), .idx 14 (.t 38) (.t 40), none⟩,
 ⟨(some 43), .load 14 true (.t 42), none⟩,
 ⟨(some 10), .new [(.int .i64 0), (.int .i64 0), (.int .i64 0), (.int .i64 0), (.int .i32 0), (.int .i64 0), (.int .i64 0), (.int .i64 0), (.int .i64 0), (.int .i64 0), (.int .i64 0), (.int .i64 0), (.int .i64 0), (.int .i64 0)] 32, none⟩,
 ⟨none, .store 14 (.t 10) (.t 43), none⟩])
 (.reg [
 ⟨(some 44), .mov (.t 8), none⟩,
 ⟨(some 45), .fld 1 (.t 10), none⟩,
 ⟨(some 46), .load 1 false (.t 45), none⟩,
 ⟨(some 47), .minmax false (.t 44) (.t 46), none⟩,
 ⟨(some 8), .mov (.t 47), none⟩])))
 (.reg [
 ⟨(some 48), .bin .add (.t 40) (.k (.int .i64 1)), none⟩,
 ⟨(some 40), .mov (.t 48), none⟩])))))))
 (.seq
 (.reg [
 ⟨(some 49), .mov (.t 1), none⟩,
 ⟨(some 50), .mov (.t 2), none⟩,
 ⟨(some 11), .mov (.t 49), none⟩,
 ⟨(some 12), .mov (.t 50), none⟩])
 (.seq
 (.block 2
 (.loop
 (.seq
 (.seq
 (.regd [
 ⟨⟨(some 51), .mov (.t 11), none⟩, 0, [], false⟩,
 ⟨⟨(some 52), .bin .gtr (.t 51) (.k (.int .i64 0)), none⟩, 1, [], false⟩,
 ⟨⟨(some 53), .mov (.t 52), none⟩, 2, [], false⟩,
 ⟨⟨(some 54), .mov (.t 0), (some (53, true))⟩, 3, [], false⟩,
 ⟨⟨(some 55), .mov (.t 11), (some (53, true))⟩, 4, [], false⟩,
 ⟨⟨(some 56), .bin .sub (.t 55) (.k (.int .i64 1)), (some (53, true))⟩, 5, [], false⟩,
 ⟨⟨(some 57), .idx 14 (.t 54) (.t 56), (some (53, true))⟩, 6, [], false⟩,
 ⟨⟨(some 58), .fld 1 (.t 57), (some (53, true))⟩, 7, [], false⟩,
 ⟨⟨(some 59), .load 1 false (.t 58), (some (53, true))⟩, 8, [], false⟩,
 ⟨⟨(some 60), .mov (.t 0), (some (53, true))⟩, 9, [], false⟩,
 ⟨⟨(some 61), .mov (.t 1), (some (53, true))⟩, 10, [], false⟩,
 ⟨⟨(some 62), .idx 14 (.t 60) (.t 61), (some (53, true))⟩, 11, [], false⟩,
 ⟨⟨(some 63), .fld 1 (.t 62), (some (53, true))⟩, 12, [], false⟩,
 ⟨⟨(some 64), .load 1 false (.t 63), (some (53, true))⟩, 13, [], false⟩,
 ⟨⟨(some 65), .bin .eql (.t 59) (.t 64), (some (53, true))⟩, 14, [], false⟩,
 ⟨⟨(some 66), .pick (.t 53) (.t 65) (.k (.bool false)), none⟩, 15, [], false⟩])
 (.cond (.t 66)
 .skip
 (.exit 2)))
 (.block 3
 (.reg [
 ⟨(some 67), .mov (.t 11), none⟩,
 ⟨(some 68), .bin .sub (.t 67) (.k (.int .i64 1)), none⟩,
 ⟨(some 11), .mov (.t 68), none⟩])))))
 (.seq
 (.block 4
 (.loop
 (.seq
 (.seq
 (.regd [
 ⟨⟨(some 69), .mov (.t 12), none⟩, 0, [], false⟩,
 ⟨⟨(some 70), .mov (.t 0), none⟩, 1, [], false⟩,
 ⟨⟨(some 71), .len false (.t 70), none⟩, 2, [], false⟩,
 ⟨⟨(some 72), .bin .lss (.t 69) (.t 71), none⟩, 3, [], false⟩,
 ⟨⟨(some 73), .mov (.t 72), none⟩, 4, [], false⟩,
 ⟨⟨(some 74), .mov (.t 0), (some (73, true))⟩, 5, [], false⟩,
 ⟨⟨(some 75), .mov (.t 12), (some (73, true))⟩, 6, [], false⟩,
 ⟨⟨(some 76), .idx 14 (.t 74) (.t 75), (some (73, true))⟩, 7, [], false⟩,
 ⟨⟨(some 77), .fld 1 (.t 76), (some (73, true))⟩, 8, [], false⟩,
 ⟨⟨(some 78), .load 1 false (.t 77), (some (73, true))⟩, 9, [], false⟩,
 ⟨⟨(some 79), .mov (.t 0), (some (73, true))⟩, 10, [], false⟩,
 ⟨⟨(some 80), .mov (.t 2), (some (73, true))⟩, 11, [], false⟩,
 ⟨⟨(some 81), .bin .sub (.t 80) (.k (.int .i64 1)), (some (73, true))⟩, 12, [], false⟩,
 ⟨⟨(some 82), .idx 14 (.t 79) (.t 81), (some (73, true))⟩, 13, [], false⟩,
 ⟨⟨(some 83), .fld 1 (.t 82), (some (73, true))⟩, 14, [], false⟩,
 ⟨⟨(some 84), .load 1 false (.t 83), (some (73, true))⟩, 15, [], false⟩,
 ⟨⟨(some 85), .bin .eql (.t 78) (.t 84), (some (73, true))⟩, 16, [], false⟩,
 ⟨⟨(some 86), .pick (.t 73) (.t 85) (.k (.bool false)), none⟩, 17, [], false⟩])
 (.cond (.t 86)
 .skip
 (.exit 4)))
 (.block 5
 (.reg [
 ⟨(some 87), .mov (.t 12), none⟩,
 ⟨(some 88), .bin .add (.t 87) (.k (.int .i64 1)), none⟩,
 ⟨(some 12), .mov (.t 88), none⟩])))))
 (.seq
 (.seq
 (.reg [
 ⟨(some 89), .mov (.t 11), none⟩,
 ⟨(some 13), .mov (.t 89), none⟩])
 (.block 6
 (.loop
 (.seq
 (.seq
 (.reg [
 ⟨(some 90), .mov (.t 13), none⟩,
 ⟨(some 91), .mov (.t 12), none⟩,
 ⟨(some 92), .bin .lss (.t 90) (.t 91), none⟩])
 (.cond (.t 92)
 .skip
 (.exit 6)))
 (.seq
 (.block 7
 (.reg [
 ⟨(some 95), .mov (.t 7), none⟩,
 ⟨(some 96), .mov (.t 13), none⟩,
 ⟨(some 97), .mov (.t 8), none⟩,
 ⟨(some 98), .idx 14 (.t 95) (.t 96), none⟩,
 ⟨(some 99), .fld 1 (.t 98), none⟩,
 ⟨none, .store 1 (.t 99) (.t 97), none⟩]))
 (.reg [
 ⟨(some 93), .mov (.t 13), none⟩,
 ⟨(some 94), .bin .add (.t 93) (.k (.int .i64 1)), none⟩,
 ⟨(some 13), .mov (.t 94), none⟩]))))))
 (.seq
 (.reg [
 ⟨(some 100), .mov (.t 7), none⟩,
 ⟨(some 6), .mov (.t 100), none⟩])
 .ret))))))))))
theorem a16 : Go.Proofs.Try.f16.body.bind (comp Go.Proofs.Try.prog) = some A16 := by kernel_rfl
theorem r16 : compRVs Go.Proofs.Try.prog Go.Proofs.Try.f16.results.toList = some [.tmp 6] := by kernel_rfl
theorem n16 : (Go.Proofs.Try.f16.name == "runtime.NumGoroutine") = false := by decide +kernel
def E16 : Nat × ACode × Nat × List RV := (16, A16, 101, [.tmp 6])
theorem e16 : EntryOk Go.Proofs.Try.prog E16 := ⟨Go.Proofs.Try.f16, Go.Proofs.Try.func16, n16, a16, Go.Proofs.Try.ntmps16, r16⟩
/-! reedpen/buffer.Replace -/
def A18 : ACode :=
 (.seq
 (.reg [
 ⟨(some 8), .mov (.k (.vec true [])), none⟩])
 (.seq
 (.seq
 (.reg [
 ⟨(some 16), .mov (.t 1), none⟩,
 ⟨(some 17), .bin .lss (.t 16) (.k (.int .i64 0)), none⟩,
 ⟨(some 18), .mov (.t 17), none⟩,
 ⟨(some 19), .mov (.t 2), (some (18, false))⟩,
 ⟨(some 20), .bin .lss (.t 19) (.k (.int .i64 1)), (some (18, false))⟩,
 ⟨(some 21), .pick (.t 18) (.k (.bool true)) (.t 20), none⟩,
 ⟨(some 22), .mov (.t 21), none⟩,
 ⟨(some 23), .mov (.t 2), (some (22, false))⟩,
 ⟨(some 24), .mov (.t 0), (some (22, false))⟩,
 ⟨(some 25), .len false (.t 24), (some (22, false))⟩,
 ⟨(some 26), .bin .gtr (.t 23) (.t 25), (some (22, false))⟩,
 ⟨(some 27), .pick (.t 22) (.k (.bool true)) (.t 26), none⟩,
 ⟨(some 28), .mov (.t 27), none⟩,
 ⟨(some 29), .mov (.t 1), (some (28, false))⟩,
 ⟨(some 30), .mov (.t 0), (some (28, false))⟩,
 ⟨(some 31), .len false (.t 30), (some (28, false))⟩,
 ⟨(some 32), .mov (.t 2), (some (28, false))⟩,
 ⟨(some 33), .bin .sub (.t 31) (.t 32), (some (28, false))⟩,
 ⟨(some 34), .bin .gtr (.t 29) (.t 33), (some (28, false))⟩,
 ⟨(some 35), .pick (.t 28) (.k (.bool true)) (.t 34), none⟩])
 (.cond (.t 35)
 (.seq
 (.reg [
 ⟨(some 36), .mov (.t 0), none⟩,
 ⟨(some 37), .call 53 [(.t 36)], none⟩,
 ⟨(some 8), .mov (.t 37), none⟩])
 .ret)
 .skip))
 (.seq
 (.seq
 (.reg [
 ⟨(some 38), .mov (.t 2), none⟩,
 ⟨(some 39), .bin .gtr (.t 38) (.k (.int .i64 1)), none⟩])
 (.cond (.t 39)
 (.reg [
 ⟨(some 40), .mov (.t 0), none⟩,
 ⟨(some 41), .mov (.t 1), none⟩,
 ⟨(some 42), .mov (.t 1), none⟩,
 ⟨(some 43), .mov (.t 2), none⟩,
 ⟨(some 44), .bin .add (.t 42) (.t 43), none⟩,
 ⟨(some 45), .call 16 [(.t 40), (.t 41), (.t 44)], none⟩,
 ⟨(some 0), .mov (.t 45), none⟩])
 .skip))
 (.seq
 (.reg [
 ⟨(some 46), .mov (.t 0), none⟩,
 ⟨(some 47), .mov (.t 1), none⟩,
 ⟨(some 48), .idx 14 (.t 46) (.t 47), none⟩,
 ⟨(some 49), .load 14 true (.t 48), none⟩,
 ⟨(some 9), .new [(.int .i64 0), (.int .i64 0), (.int .i64 0), (.int .i64 0), (.int .i32 0), (.int .i64 0), (.int .i64 0), (.int .i64 0), (.int .i64 0), (.int .i64 0), (.int .i64 0), (.int .i64 0), (.int .i64 0), (.int .i64 0)] 32, none⟩,
 ⟨none, .store 14 (.t 9) (.t 49), none⟩])
 (.seq
 (.reg [
 ⟨(some 50), .mov (.t 0), none⟩,
 ⟨(some 51), .mov (.t 1), none⟩,
 ⟨(some 52), .mov (.t 1), none⟩,
 ⟨(some 53), .sl 14 (.t 50) none (some (.t 51)) (some (.t 52)), none⟩,
 ⟨(some 54), .call 53 [(.t 53)], none⟩,
 ⟨(some 10), .mov (.t 54), none⟩])
 (.seq
 (.seq
 (.reg [
 ⟨(some 55), .mov (.t 3), none⟩,
 ⟨(some 56), .len false (.t 55), none⟩,
 ⟨(some 57), .mov (.k (.int .i64 0)), none⟩])
 (.block 0
 (.loop
 (.seq
 (.reg [
 ⟨(some 58), .bin .lss (.t 57) (.t 56), none⟩])
 (.seq
 (.cond (.t 58)
 .skip
 (.exit 0))
 (.seq
 (.block 1
 (.seq
 (.reg [
 ⟨(some 59), .idx 1 (.t 55) (.t 57), none⟩,
 ⟨(some 60), .load 1 false (.t 59), none⟩,
 ⟨(some 12), .mov (.t 60), none⟩])
 (.seq
 (.reg [
 ⟨(some 61), .load 14 true (.t 9), none⟩,
 ⟨(some 13), .new [(.int .i64 0), (.int .i64 0), (.int .i64 0), (.int .i64 0), (.int .i32 0), (.int .i64 0), (.int .i64 0), (.int .i64 0), (.int .i64 0), (.int .i64 0), (.int .i64 0), (.int .i64 0), (.int .i64 0), (.int .i64 0)] 32, none⟩,
 ⟨none, .store 14 (.t 13) (.t 61), none⟩])
 (.seq
 (.reg [
 ⟨(some 62), .mov (.t 12), none⟩,
 ⟨(some 63), .fld 0 (.t 13), none⟩,
 ⟨none, .store 1 (.t 63) (.t 62), none⟩])
 (.reg [
 ⟨(some 64), .mov (.t 10), none⟩,
 ⟨(some 65), .load 14 true (.t 13), none⟩,
 ⟨(some 66), .lits 14 32 [(.t 65)], none⟩,
 ⟨(some 67), .app 14 112 32 (.t 64) (.t 66), none⟩,
 ⟨(some 10), .mov (.t 67), none⟩])))))
 (.reg [
 ⟨(some 68), .bin .add (.t 57) (.k (.int .i64 1)), none⟩,
 ⟨(some 57), .mov (.t 68), none⟩])))))))
 (.seq
 (.reg [
 ⟨(some 69), .mov (.t 10), none⟩,
 ⟨(some 70), .mov (.t 0), none⟩,
 ⟨(some 71), .mov (.t 1), none⟩,
 ⟨(some 72), .mov (.t 2), none⟩,
 ⟨(some 73), .bin .add (.t 71) (.t 72), none⟩,
 ⟨(some 74), .sl 14 (.t 70) (some (.t 73)) none none, none⟩,
 ⟨(some 75), .app 14 112 32 (.t 69) (.t 74), none⟩,
 ⟨(some 10), .mov (.t 75), none⟩])
 (.seq
 (.seq
 (.reg [
 ⟨(some 76), .mov (.t 1), none⟩,
 ⟨(some 77), .bin .eql (.t 76) (.k (.int .i64 0)), none⟩,
 ⟨(some 78), .mov (.t 77), none⟩,
 ⟨(some 79), .mov (.t 3), (some (78, true))⟩,
 ⟨(some 80), .len false (.t 79), (some (78, true))⟩,
 ⟨(some 81), .bin .eql (.t 80) (.k (.int .i64 0)), (some (78, true))⟩,
 ⟨(some 82), .pick (.t 78) (.t 81) (.k (.bool false)), none⟩,
 ⟨(some 83), .mov (.t 82), none⟩,
 ⟨(some 84), .mov (.t 10), (some (83, true))⟩,
 ⟨(some 85), .len false (.t 84), (some (83, true))⟩,
 ⟨(some 86), .bin .gtr (.t 85) (.k (.int .i64 0)), (some (83, true))⟩,
 ⟨(some 87), .pick (.t 83) (.t 86) (.k (.bool false)), none⟩])
 (.cond (.t 87)
 (.seq
 (.reg [
 ⟨(some 88), .mov (.t 10), none⟩,
 ⟨(some 89), .idx 14 (.t 88) (.k (.int .i64 0)), none⟩,
 ⟨(some 90), .fld 1 (.t 89), none⟩,
 ⟨(some 91), .load 1 false (.t 90), none⟩,
 ⟨(some 14), .mov (.t 91), none⟩])
 (.seq
 (.reg [
 ⟨(some 15), .mov (.k (.int .i64 0)), none⟩])
 (.block 2
 (.loop
 (.seq
 (.seq
 (.reg [
 ⟨(some 92), .mov (.t 15), none⟩,
 ⟨(some 93), .mov (.t 10), none⟩,
 ⟨(some 94), .len false (.t 93), none⟩,
 ⟨(some 95), .bin .lss (.t 92) (.t 94), none⟩,
 ⟨(some 96), .mov (.t 95), none⟩,
 ⟨(some 97), .mov (.t 10), (some (96, true))⟩,
 ⟨(some 98), .mov (.t 15), (some (96, true))⟩,
 ⟨(some 99), .idx 14 (.t 97) (.t 98), (some (96, true))⟩,
 ⟨(some 100), .fld 1 (.t 99), (some (96, true))⟩,
 ⟨(some 101), .load 1 false (.t 100), (some (96, true))⟩,
 ⟨(some 102), .mov (.t 14), (some (96, true))⟩,
 ⟨(some 103), .bin .eql (.t 101) (.t 102), (some (96, true))⟩,
 ⟨(some 104), .pick (.t 96) (.t 103) (.k (.bool false)), none⟩])
 (.cond (.t 104)
 .skip
 (.exit 2)))
 (.seq
 (.block 3
 (.reg [
 ⟨(some 107), .mov (.t 10), none⟩,
 ⟨(some 108), .mov (.t 15), none⟩,
 ⟨(some 109), .fld 1 (.t 9), none⟩,
 ⟨(some 110), .load 1 false (.t 109), none⟩,
 ⟨(some 111), .idx 14 (.t 107) (.t 108), none⟩,
 ⟨(some 112), .fld 1 (.t 111), none⟩,
 ⟨none, .store 1 (.t 112) (.t 110), none⟩]))
 (.reg [
 ⟨(some 105), .mov (.t 15), none⟩,
 ⟨(some 106), .bin .add (.t 105) (.k (.int .i64 1)), none⟩,
 ⟨(some 15), .mov (.t 106), none⟩])))))))
 .skip))
 (.seq
 (.reg [
 ⟨(some 113), .mov (.t 10), none⟩,
 ⟨(some 8), .mov (.t 113), none⟩])
 .ret)))))))))
theorem a18 : Go.Proofs.Try.f18.body.bind (comp Go.Proofs.Try.prog) = some A18 := by kernel_rfl
theorem r18 : compRVs Go.Proofs.Try.prog Go.Proofs.Try.f18.results.toList = some [.tmp 8] := by kernel_rfl
theorem n18 : (Go.Proofs.Try.f18.name == "runtime.NumGoroutine") = false := by decide +kernel
def E18 : Nat × ACode × Nat × List RV := (18, A18, 114, [.tmp 8])
theorem e18 : EntryOk Go.Proofs.Try.prog E18 := ⟨Go.Proofs.Try.f18, Go.Proofs.Try.func18, n18, a18, Go.Proofs.Try.ntmps18, r18⟩
/-! reedpen/buffer.Order -/
def A19 : ACode :=
 (.seq
 (.reg [
 ⟨(some 6), .mov (.k (.vec true [])), none⟩])
 (.seq
 (.reg [
 ⟨(some 14), .mov (.t 2), none⟩,
 ⟨(some 15), .call 22 [(.t 14)], none⟩,
 ⟨(some 7), .mov (.t 15), none⟩])
 (.seq
 (.reg [
 ⟨(some 16), .mov (.t 0), none⟩,
 ⟨(some 17), .call 53 [(.t 16)], none⟩,
 ⟨(some 8), .mov (.t 17), none⟩])
 (.seq
 (.seq
 (.reg [
 ⟨(some 18), .mov (.t 1), none⟩,
 ⟨(some 19), .bin .lss (.t 18) (.k (.int .i64 0)), none⟩,
 ⟨(some 20), .mov (.t 19), none⟩,
 ⟨(some 21), .mov (.t 2), (some (20, false))⟩,
 ⟨(some 22), .len false (.t 21), (some (20, false))⟩,
 ⟨(some 23), .mov (.t 0), (some (20, false))⟩,
 ⟨(some 24), .len false (.t 23), (some (20, false))⟩,
 ⟨(some 25), .bin .gtr (.t 22) (.t 24), (some (20, false))⟩,
 ⟨(some 26), .pick (.t 20) (.k (.bool true)) (.t 25), none⟩,
 ⟨(some 27), .mov (.t 26), none⟩,
 ⟨(some 28), .mov (.t 1), (some (27, false))⟩,
 ⟨(some 29), .mov (.t 0), (some (27, false))⟩,
 ⟨(some 30), .len false (.t 29), (some (27, false))⟩,
 ⟨(some 31), .mov (.t 2), (some (27, false))⟩,
 ⟨(some 32), .len false (.t 31), (some (27, false))⟩,
 ⟨(some 33), .bin .sub (.t 30) (.t 32), (some (27, false))⟩,
 ⟨(some 34), .bin .gtr (.t 28) (.t 33), (some (27, false))⟩,
 ⟨(some 35), .pick (.t 27) (.k (.bool true)) (.t 34), none⟩,
 ⟨(some 36), .mov (.t 35), none⟩,
 ⟨(some 37), .mov (.t 7), (some (36, false))⟩,
 ⟨(some 38), .len false (.t 37), (some (36, false))⟩,
 ⟨(some 39), .bin .eql (.t 38) (.k (.int .i64 0)), (some (36, false))⟩,
 ⟨(some 40), .pick (.t 36) (.k (.bool true)) (.t 39), none⟩])
 (.cond (.t 40)
 (.seq
 (.reg [
 ⟨(some 41), .mov (.t 8), none⟩,
 ⟨(some 6), .mov (.t 41), none⟩])
 .ret)
 .skip))
 (.seq
 (.seq
 (.reg [
 ⟨(some 42), .mov (.t 7), none⟩,
 ⟨(some 43), .len false (.t 42), none⟩,
 ⟨(some 44), .mov (.k (.int .i64 0)), none⟩])
 (.block 0
 (.loop
 (.seq
 (.reg [
 ⟨(some 45), .bin .lss (.t 44) (.t 43), none⟩])
 (.seq
 (.cond (.t 45)
 .skip
 (.exit 0))
 (.seq
 (.block 1
 (.seq
 (.reg [
 ⟨(some 46), .idx 2 (.t 42) (.t 44), none⟩,
 ⟨(some 47), .load 2 true (.t 46), none⟩,
 ⟨(some 10), .new [(.int .i64 0), (.int .i64 0)] 77, none⟩,
 ⟨none, .store 2 (.t 10) (.t 47), none⟩])
 (.seq
 (.reg [
 ⟨(some 48), .idxa 1 2 (.t 10) (.k (.int .i64 1)), none⟩,
 ⟨(some 49), .load 1 false (.t 48), none⟩,
 ⟨(some 50), .idxa 1 2 (.t 10) (.k (.int .i64 0)), none⟩,
 ⟨(some 51), .load 1 false (.t 50), none⟩,
 ⟨(some 52), .bin .sub (.t 49) (.t 51), none⟩,
 ⟨(some 53), .bin .gtr (.t 52) (.k (.int .i64 1)), none⟩])
 (.cond (.t 53)
 (.reg [
 ⟨(some 54), .mov (.t 8), none⟩,
 ⟨(some 55), .mov (.t 1), none⟩,
 ⟨(some 56), .idxa 1 2 (.t 10) (.k (.int .i64 0)), none⟩,
 ⟨(some 57), .load 1 false (.t 56), none⟩,
 ⟨(some 58), .bin .add (.t 55) (.t 57), none⟩,
 ⟨(some 59), .mov (.t 1), none⟩,
 ⟨(some 60), .idxa 1 2 (.t 10) (.k (.int .i64 1)), none⟩,
 ⟨(some 61), .load 1 false (.t 60), none⟩,
 ⟨(some 62), .bin .add (.t 59) (.t 61), none⟩,
 ⟨(some 63), .call 16 [(.t 54), (.t 58), (.t 62)], none⟩,
 ⟨(some 8), .mov (.t 63), none⟩])
 .skip))))
 (.reg [
 ⟨(some 64), .bin .add (.t 44) (.k (.int .i64 1)), none⟩,
 ⟨(some 44), .mov (.t 64), none⟩])))))))
 (.seq
 (.reg [
 ⟨(some 65), .mov (.t 8), none⟩,
 ⟨(some 66), .call 53 [(.t 65)], none⟩,
 ⟨(some 11), .mov (.t 66), none⟩])
 (.seq
 (.seq
 (.reg [
 ⟨(some 67), .mov (.t 2), none⟩,
 ⟨(some 68), .len false (.t 67), none⟩,
 ⟨(some 69), .mov (.k (.int .i64 0)), none⟩])
 (.block 2
 (.loop
 (.seq
 (.reg [
 ⟨(some 70), .bin .lss (.t 69) (.t 68), none⟩])
 (.seq
 (.cond (.t 70)
 .skip
 (.exit 2))
 (.seq
 (.block 3
 (.seq
 (.reg [
 ⟨(some 71), .mov (.t 69), none⟩,
 ⟨(some 72), .idx 1 (.t 67) (.t 69), none⟩,
 ⟨(some 73), .load 1 false (.t 72), none⟩,
 ⟨(some 12), .mov (.t 71), none⟩,
 ⟨(some 13), .mov (.t 73), none⟩])
 (.reg [
 ⟨(some 74), .mov (.t 8), none⟩,
 ⟨(some 75), .mov (.t 1), none⟩,
 ⟨(some 76), .mov (.t 12), none⟩,
 ⟨(some 77), .bin .add (.t 75) (.t 76), none⟩,
 ⟨(some 78), .mov (.t 11), none⟩,
 ⟨(some 79), .mov (.t 1), none⟩,
 ⟨(some 80), .mov (.t 13), none⟩,
 ⟨(some 81), .bin .add (.t 79) (.t 80), none⟩,
 ⟨(some 82), .idx 14 (.t 78) (.t 81), none⟩,
 ⟨(some 83), .load 14 true (.t 82), none⟩,
 ⟨(some 84), .idx 14 (.t 74) (.t 77), none⟩,
 ⟨none, .store 14 (.t 84) (.t 83), none⟩])))
 (.reg [
 ⟨(some 85), .bin .add (.t 69) (.k (.int .i64 1)), none⟩,
 ⟨(some 69), .mov (.t 85), none⟩])))))))
 (.seq
 (.reg [
 ⟨(some 86), .mov (.t 8), none⟩,
 ⟨(some 6), .mov (.t 86), none⟩])
 .ret))))))))
theorem a19 : Go.Proofs.Try.f19.body.bind (comp Go.Proofs.Try.prog) = some A19 := by kernel_rfl
theorem r19 : compRVs Go.Proofs.Try.prog Go.Proofs.Try.f19.results.toList = some [.tmp 6] := by kernel_rfl
theorem n19 : (Go.Proofs.Try.f19.name == "runtime.NumGoroutine") = false := by decide +kernel
def E19 : Nat × ACode × Nat × List RV := (19, A19, 87, [.tmp 6])
theorem e19 : EntryOk Go.Proofs.Try.prog E19 := ⟨Go.Proofs.Try.f19, Go.Proofs.Try.func19, n19, a19, Go.Proofs.Try.ntmps19, r19⟩
/-! reedpen/buffer.Sort -/
def A21 : ACode :=
 (.seq
 (.reg [
 ⟨(some 7), .box (.t 3) 28, none⟩,
 ⟨(some 8), .mov (.k (.vec true [])), none⟩])
 (.seq
 (.seq
 (.reg [
 ⟨(some 11), .mov (.t 1), none⟩,
 ⟨(some 12), .bin .lss (.t 11) (.k (.int .i64 0)), none⟩,
 ⟨(some 13), .mov (.t 12), none⟩,
 ⟨(some 14), .mov (.t 2), (some (13, false))⟩,
 ⟨(some 15), .mov (.t 0), (some (13, false))⟩,
 ⟨(some 16), .len false (.t 15), (some (13, false))⟩,
 ⟨(some 17), .bin .gtr (.t 14) (.t 16), (some (13, false))⟩,
 ⟨(some 18), .pick (.t 13) (.k (.bool true)) (.t 17), none⟩,
 ⟨(some 19), .mov (.t 18), none⟩,
 ⟨(some 20), .mov (.t 1), (some (19, false))⟩,
 ⟨(some 21), .mov (.t 2), (some (19, false))⟩,
 ⟨(some 22), .bin .gtr (.t 20) (.t 21), (some (19, false))⟩,
 ⟨(some 23), .pick (.t 19) (.k (.bool true)) (.t 22), none⟩,
 ⟨(some 24), .mov (.t 23), none⟩,
 ⟨(some 25), .load 1 false (.t 7), (some (24, false))⟩,
 ⟨(some 26), .len false (.t 25), (some (24, false))⟩,
 ⟨(some 27), .mov (.t 2), (some (24, false))⟩,
 ⟨(some 28), .mov (.t 1), (some (24, false))⟩,
 ⟨(some 29), .bin .sub (.t 27) (.t 28), (some (24, false))⟩,
 ⟨(some 30), .bin .neq (.t 26) (.t 29), (some (24, false))⟩,
 ⟨(some 31), .pick (.t 24) (.k (.bool true)) (.t 30), none⟩])
 (.cond (.t 31)
 (.seq
 (.reg [
 ⟨(some 32), .mov (.t 0), none⟩,
 ⟨(some 33), .call 53 [(.t 32)], none⟩,
 ⟨(some 8), .mov (.t 33), none⟩])
 .ret)
 .skip))
 (.seq
 (.reg [
 ⟨(some 9), .mov (.k (.vec true [])), none⟩])
 (.seq
 (.seq
 (.reg [
 ⟨(some 34), .load 1 false (.t 7), none⟩,
 ⟨(some 35), .len false (.t 34), none⟩,
 ⟨(some 36), .mov (.k (.int .i64 0)), none⟩])
 (.block 0
 (.loop
 (.seq
 (.reg [
 ⟨(some 37), .bin .lss (.t 36) (.t 35), none⟩])
 (.seq
 (.cond (.t 37)
 .skip
 (.exit 0))
 (.seq
 (.block 1
 (.seq
 (.reg [
 ⟨(some 38), .mov (.t 36), none⟩,
 ⟨(some 10), .mov (.t 38), none⟩])
 (.reg [
 ⟨(some 39), .mov (.t 9), none⟩,
 ⟨(some 40), .mov (.t 10), none⟩,
 ⟨(some 41), .lits 1 3 [(.t 40)], none⟩,
 ⟨(some 42), .app 1 8 3 (.t 39) (.t 41), none⟩,
 ⟨(some 9), .mov (.t 42), none⟩])))
 (.reg [
 ⟨(some 43), .bin .add (.t 36) (.k (.int .i64 1)), none⟩,
 ⟨(some 36), .mov (.t 43), none⟩])))))))
 (.seq
 (.reg [
 ⟨(some 44), .mov (.t 9), none⟩,
 ⟨(some 45), .mkfn (.func 56) [] [(.t 7)], none⟩,
 ⟨(some 46), .call 55 [(.t 44), (.t 45)], none⟩])
 (.seq
 (.reg [
 ⟨(some 47), .mov (.t 0), none⟩,
 ⟨(some 48), .mov (.t 1), none⟩,
 ⟨(some 49), .mov (.t 9), none⟩,
 ⟨(some 50), .call 19 [(.t 47), (.t 48), (.t 49)], none⟩,
 ⟨(some 8), .mov (.t 50), none⟩])
 .ret))))))
theorem a21 : Go.Proofs.Try.f21.body.bind (comp Go.Proofs.Try.prog) = some A21 := by kernel_rfl
theorem r21 : compRVs Go.Proofs.Try.prog Go.Proofs.Try.f21.results.toList = some [.tmp 8] := by kernel_rfl
theorem n21 : (Go.Proofs.Try.f21.name == "runtime.NumGoroutine") = false := by decide +kernel
def E21 : Nat × ACode × Nat × List RV := (21, A21, 51, [.tmp 8])
theorem e21 : EntryOk Go.Proofs.Try.prog E21 := ⟨Go.Proofs.Try.f21, Go.Proofs.Try.func21, n21, a21, Go.Proofs.Try.ntmps21, r21⟩
/-! reedpen/buffer.Blocks -/
def A22 : ACode :=
 (.seq
 (.reg [
 ⟨(some 2), .mov (.k (.vec true [])), none⟩])
 (.seq
 (.reg [
 ⟨(some 11), .mov (.t 0), none⟩,
 ⟨(some 12), .len false (.t 11), none⟩,
 ⟨(some 13), .mksl 1 1 [(.bool false)] 4 (.t 12), none⟩,
 ⟨(some 3), .mov (.t 13), none⟩])
 (.seq
 (.seq
 (.reg [
 ⟨(some 14), .mov (.t 0), none⟩,
 ⟨(some 15), .len false (.t 14), none⟩,
 ⟨(some 16), .mov (.k (.int .i64 0)), none⟩])
 (.block 0
 (.loop
 (.seq
 (.reg [
 ⟨(some 17), .bin .lss (.t 16) (.t 15), none⟩])
 (.seq
 (.cond (.t 17)
 .skip
 (.exit 0))
 (.seq
 (.block 1
 (.seq
 (.reg [
 ⟨(some 18), .idx 1 (.t 14) (.t 16), none⟩,
 ⟨(some 19), .load 1 false (.t 18), none⟩,
 ⟨(some 5), .mov (.t 19), none⟩])
 (.seq
 (.seq
 (.reg [
 ⟨(some 20), .mov (.t 5), none⟩,
 ⟨(some 21), .bin .lss (.t 20) (.k (.int .i64 0)), none⟩,
 ⟨(some 22), .mov (.t 21), none⟩,
 ⟨(some 23), .mov (.t 5), (some (22, false))⟩,
 ⟨(some 24), .mov (.t 0), (some (22, false))⟩,
 ⟨(some 25), .len false (.t 24), (some (22, false))⟩,
 ⟨(some 26), .bin .geq (.t 23) (.t 25), (some (22, false))⟩,
 ⟨(some 27), .pick (.t 22) (.k (.bool true)) (.t 26), none⟩,
 ⟨(some 28), .mov (.t 27), none⟩,
 ⟨(some 29), .mov (.t 3), (some (28, false))⟩,
 ⟨(some 30), .mov (.t 5), (some (28, false))⟩,
 ⟨(some 31), .idx 1 (.t 29) (.t 30), (some (28, false))⟩,
 ⟨(some 32), .load 1 false (.t 31), (some (28, false))⟩,
 ⟨(some 33), .pick (.t 28) (.k (.bool true)) (.t 32), none⟩])
 (.cond (.t 33)
 (.seq
 (.reg [
 ⟨(some 2), .mov (.k (.vec true [])), none⟩])
 .ret)
 .skip))
 (.reg [
 ⟨(some 34), .mov (.t 3), none⟩,
 ⟨(some 35), .mov (.t 5), none⟩,
 ⟨(some 36), .idx 1 (.t 34) (.t 35), none⟩,
 ⟨none, .store 1 (.t 36) (.k (.bool true)), none⟩]))))
 (.reg [
 ⟨(some 37), .bin .add (.t 16) (.k (.int .i64 1)), none⟩,
 ⟨(some 16), .mov (.t 37), none⟩])))))))
 (.seq
 (.reg [
 ⟨(some 6), .mov (.k (.vec true [])), none⟩])
 (.seq
 (.reg [
 ⟨(some 7), .mov (.k (.int .i64 0)), none⟩,
 ⟨(some 8), .mov (.k (.int .i64 (-1))), none⟩])
 (.seq
 (.seq
 (.reg [
 ⟨(some 38), .mov (.t 0), none⟩,
 ⟨(some 39), .len false (.t 38), none⟩,
 ⟨(some 40), .mov (.k (.int .i64 0)), none⟩])
 (.block 2
 (.loop
 (.seq
 (.reg [
 ⟨(some 41), .bin .lss (.t 40) (.t 39), none⟩])
 (.seq
 (.cond (.t 41)
 .skip
 (.exit 2))
 (.seq
 (.block 3
 (.seq
 (.reg [
 ⟨(some 42), .mov (.t 40), none⟩,
 ⟨(some 43), .idx 1 (.t 38) (.t 40), none⟩,
 ⟨(some 44), .load 1 false (.t 43), none⟩,
 ⟨(some 9), .mov (.t 42), none⟩,
 ⟨(some 10), .mov (.t 44), none⟩])
 (.seq
 (.reg [
 ⟨(some 45), .mov (.t 8), none⟩,
 ⟨(some 46), .mov (.t 10), none⟩,
 ⟨(some 47), .minmax true (.t 45) (.t 46), none⟩,
 ⟨(some 8), .mov (.t 47), none⟩])
 (.seq
 (.reg [
 ⟨(some 48), .mov (.t 8), none⟩,
 ⟨(some 49), .mov (.t 9), none⟩,
 ⟨(some 50), .bin .eql (.t 48) (.t 49), none⟩])
 (.cond (.t 50)
 (.seq
 (.reg [
 ⟨(some 51), .mov (.t 6), none⟩,
 ⟨(some 52), .mov (.t 7), none⟩,
 ⟨(some 53), .mov (.t 9), none⟩,
 ⟨(some 54), .bin .add (.t 53) (.k (.int .i64 1)), none⟩,
 ⟨(some 55), .build [(.int .i64 0), (.int .i64 0)] [(0, 1, (.t 52)), (1, 1, (.t 54))], none⟩,
 ⟨(some 56), .lits 2 77 [(.t 55)], none⟩,
 ⟨(some 57), .app 2 16 77 (.t 51) (.t 56), none⟩,
 ⟨(some 6), .mov (.t 57), none⟩])
 (.reg [
 ⟨(some 58), .mov (.t 9), none⟩,
 ⟨(some 59), .bin .add (.t 58) (.k (.int .i64 1)), none⟩,
 ⟨(some 7), .mov (.t 59), none⟩]))
 .skip)))))
 (.reg [
 ⟨(some 60), .bin .add (.t 40) (.k (.int .i64 1)), none⟩,
 ⟨(some 40), .mov (.t 60), none⟩])))))))
 (.seq
 (.reg [
 ⟨(some 61), .mov (.t 6), none⟩,
 ⟨(some 2), .mov (.t 61), none⟩])
 .ret)))))))
theorem a22 : Go.Proofs.Try.f22.body.bind (comp Go.Proofs.Try.prog) = some A22 := by kernel_rfl
theorem r22 : compRVs Go.Proofs.Try.prog Go.Proofs.Try.f22.results.toList = some [.tmp 2] := by kernel_rfl
theorem n22 : (Go.Proofs.Try.f22.name == "runtime.NumGoroutine") = false := by decide +kernel
def E22 : Nat × ACode × Nat × List RV := (22, A22, 62, [.tmp 2])
theorem e22 : EntryOk Go.Proofs.Try.prog E22 := ⟨Go.Proofs.Try.f22, Go.Proofs.Try.func22, n22, a22, Go.Proofs.Try.ntmps22, r22⟩
/-! reedpen/buffer.Insert -/
def A50 : ACode :=
 (.seq
 (.reg [
 ⟨(some 5), .box (.t 2) 32, none⟩,
 ⟨(some 6), .mov (.k (.vec true [])), none⟩])
 (.seq
 (.seq
 (.reg [
 ⟨(some 7), .mov (.t 1), none⟩,
 ⟨(some 8), .bin .lss (.t 7) (.k (.int .i64 0)), none⟩,
 ⟨(some 9), .mov (.t 8), none⟩,
 ⟨(some 10), .mov (.t 1), (some (9, false))⟩,
 ⟨(some 11), .mov (.t 0), (some (9, false))⟩,
 ⟨(some 12), .len false (.t 11), (some (9, false))⟩,
 ⟨(some 13), .bin .gtr (.t 10) (.t 12), (some (9, false))⟩,
 ⟨(some 14), .pick (.t 9) (.k (.bool true)) (.t 13), none⟩])
 (.cond (.t 14)
 (.seq
 (.reg [
 ⟨(some 15), .mov (.t 0), none⟩,
 ⟨(some 16), .call 53 [(.t 15)], none⟩,
 ⟨(some 6), .mov (.t 16), none⟩])
 .ret)
 .skip))
 (.seq
 (.regd [
 ⟨⟨(some 17), .mov (.t 0), none⟩, 0, [], false⟩,
 ⟨⟨(some 19), .mov (.t 1), none⟩, 2, [], false⟩,
 ⟨⟨(some 20), .load 14 true (.t 5), none⟩, 3, [], true⟩,
 ⟨⟨(some 21), .lits 14 32 [(.t 20)], none⟩, 4, [], false⟩,
 ⟨⟨(some 18), .call 53 [(.t 17)], none⟩, 1, [0], false⟩,
 ⟨⟨(some 22), .call 74 [(.t 18), (.t 19), (.t 21)], none⟩, 5, [1, 0, 2, 4, 3], false⟩,
 ⟨⟨(some 6), .mov (.t 22), none⟩, 6, [], false⟩])
 .ret)))
theorem a50 : Go.Proofs.Try.f50.body.bind (comp Go.Proofs.Try.prog) = some A50 := by kernel_rfl
theorem r50 : compRVs Go.Proofs.Try.prog Go.Proofs.Try.f50.results.toList = some [.tmp 6] := by kernel_rfl
theorem n50 : (Go.Proofs.Try.f50.name == "runtime.NumGoroutine") = false := by decide +kernel
def E50 : Nat × ACode × Nat × List RV := (50, A50, 23, [.tmp 6])
theorem e50 : EntryOk Go.Proofs.Try.prog E50 := ⟨Go.Proofs.Try.f50, Go.Proofs.Try.func50, n50, a50, Go.Proofs.Try.ntmps50, r50⟩
/-! slices.IsSortedFunc[[]reedpen/api.Glyph,reedpen/api.Glyph] -/
def A51 : ACode :=
 (.seq
 (.reg [
 ⟨(some 4), .mov (.k (.bool false)), none⟩])
 (.seq
 (.seq
 (.reg [
 ⟨(some 6), .mov (.t 0), none⟩,
 ⟨(some 7), .len false (.t 6), none⟩,
 ⟨(some 8), .bin .sub (.t 7) (.k (.int .i64 1)), none⟩,
 ⟨(some 5), .mov (.t 8), none⟩])
 (.block 0
 (.loop
 (.seq
 (.seq
 (.reg [
 ⟨(some 9), .mov (.t 5), none⟩,
 ⟨(some 10), .bin .gtr (.t 9) (.k (.int .i64 0)), none⟩])
 (.cond (.t 10)
 .skip
 (.exit 0)))
 (.seq
 (.block 1
 (.seq
 (.regd [
 ⟨⟨(some 13), .mov (.t 1), none⟩, 0, [], false⟩,
 ⟨⟨(some 14), .mov (.t 0), none⟩, 1, [], false⟩,
 ⟨⟨(some 15), .mov (.t 5), none⟩, 2, [], false⟩,
 ⟨⟨(some 16), .idx 14 (.t 14) (.t 15), none⟩, 3, [], false⟩,
 ⟨⟨(some 17), .load 14 true (.t 16), none⟩, 4, [], false⟩,
 ⟨⟨(some 18), .mov (.t 0), none⟩, 5, [], false⟩,
 ⟨⟨(some 19), .mov (.t 5), none⟩, 6, [], false⟩,
 ⟨⟨(some 20), .bin .sub (.t 19) (.k (.int .i64 1)), none⟩, 7, [], false⟩,
 ⟨⟨(some 21), .idx 14 (.t 18) (.t 20), none⟩, 8, [], false⟩,
 ⟨⟨(some 22), .load 14 true (.t 21), none⟩, 9, [], false⟩,
 ⟨⟨(some 23), .callv (.t 13) [(.t 17), (.t 22)], none⟩, 10, [0, 4, 3, 1, 2, 9, 8, 5, 7, 6], false⟩,
 ⟨⟨(some 24), .bin .lss (.t 23) (.k (.int .i64 0)), none⟩, 11, [], false⟩])
 (.cond (.t 24)
 (.seq
 (.reg [
 ⟨(some 4), .mov (.k (.bool false)), none⟩])
 .ret)
 .skip)))
 (.reg [
 ⟨(some 11), .mov (.t 5), none⟩,
 ⟨(some 12), .bin .sub (.t 11) (.k (.int .i64 1)), none⟩,
 ⟨(some 5), .mov (.t 12), none⟩]))))))
 (.seq
 (.reg [
 ⟨(some 4), .mov (.k (.bool true)), none⟩])
 .ret)))
theorem a51 : Go.Proofs.Try.f51.body.bind (comp Go.Proofs.Try.prog) = some A51 := by kernel_rfl
theorem r51 : compRVs Go.Proofs.Try.prog Go.Proofs.Try.f51.results.toList = some [.tmp 4] := by kernel_rfl
theorem n51 : (Go.Proofs.Try.f51.name == "runtime.NumGoroutine") = false := by decide +kernel
def E51 : Nat × ACode × Nat × List RV := (51, A51, 25, [.tmp 4])
theorem e51 : EntryOk Go.Proofs.Try.prog E51 := ⟨Go.Proofs.Try.f51, Go.Proofs.Try.func51, n51, a51, Go.Proofs.Try.ntmps51, r51⟩
/-! reedpen/buffer.Rise$1 -/
def A52 : ACode :=
 (.seq
 (.reg [
 ⟨(some 2), .box (.t 0) 32, none⟩,
 ⟨(some 3), .box (.t 1) 32, none⟩,
 ⟨(some 4), .mov (.k (.int .i64 0)), none⟩])
 (.seq
 (.block 0
 (.seq
 (.reg [
 ⟨(some 6), .fld 1 (.t 2), none⟩,
 ⟨(some 7), .load 1 false (.t 6), none⟩,
 ⟨(some 8), .fld 1 (.t 3), none⟩,
 ⟨(some 9), .load 1 false (.t 8), none⟩,
 ⟨(some 10), .bin .lss (.t 7) (.t 9), none⟩,
 ⟨(some 5), .mov (.t 10), none⟩])
 (.cond (.t 5)
 (.seq
 (.reg [
 ⟨(some 4), .mov (.k (.int .i64 (-1))), none⟩])
 .ret)
 (.seq
 (.reg [
 ⟨(some 12), .fld 1 (.t 2), none⟩,
 ⟨(some 13), .load 1 false (.t 12), none⟩,
 ⟨(some 14), .fld 1 (.t 3), none⟩,
 ⟨(some 15), .load 1 false (.t 14), none⟩,
 ⟨(some 16), .bin .gtr (.t 13) (.t 15), none⟩,
 ⟨(some 11), .mov (.t 16), none⟩])
 (.cond (.t 11)
 (.seq
 (.reg [
 ⟨(some 4), .mov (.k (.int .i64 1)), none⟩])
 .ret)
 .skip)))))
 (.seq
 (.reg [
 ⟨(some 4), .mov (.k (.int .i64 0)), none⟩])
 .ret)))
theorem a52 : Go.Proofs.Try.f52.body.bind (comp Go.Proofs.Try.prog) = some A52 := by kernel_rfl
theorem r52 : compRVs Go.Proofs.Try.prog Go.Proofs.Try.f52.results.toList = some [.tmp 4] := by kernel_rfl
theorem n52 : (Go.Proofs.Try.f52.name == "runtime.NumGoroutine") = false := by decide +kernel
def E52 : Nat × ACode × Nat × List RV := (52, A52, 17, [.tmp 4])
theorem e52 : EntryOk Go.Proofs.Try.prog E52 := ⟨Go.Proofs.Try.f52, Go.Proofs.Try.func52, n52, a52, Go.Proofs.Try.ntmps52, r52⟩
/-! slices.Clone[[]reedpen/api.Glyph,reedpen/api.Glyph] -/
def A53 : ACode :=
 (.seq
 (.reg [
 ⟨(some 2), .mov (.k (.vec true [])), none⟩])
 (.seq
 (.seq
 (.reg [
 ⟨(some 3), .mov (.t 0), none⟩,
 ⟨(some 4), .isnil false (.t 3), none⟩])
 (.cond (.t 4)
 (.seq
 (.reg [
 ⟨(some 2), .mov (.k (.vec true [])), none⟩])
 .ret)
 .skip))
 (.seq
 (.reg [
 ⟨(some 5), .lits 14 32 [], none⟩,
 ⟨(some 6), .mov (.t 0), none⟩,
 ⟨(some 7), .app 14 112 32 (.t 5) (.t 6), none⟩,
 ⟨(some 2), .mov (.t 7), none⟩])
 .ret)))
theorem a53 : Go.Proofs.Try.f53.body.bind (comp Go.Proofs.Try.prog) = some A53 := by kernel_rfl
theorem r53 : compRVs Go.Proofs.Try.prog Go.Proofs.Try.f53.results.toList = some [.tmp 2] := by kernel_rfl
theorem n53 : (Go.Proofs.Try.f53.name == "runtime.NumGoroutine") = false := by decide +kernel
def E53 : Nat × ACode × Nat × List RV := (53, A53, 8, [.tmp 2])
theorem e53 : EntryOk Go.Proofs.Try.prog E53 := ⟨Go.Proofs.Try.f53, Go.Proofs.Try.func53, n53, a53, Go.Proofs.Try.ntmps53, r53⟩
/-! slices.SortStableFunc[[]int,int] -/
def A55 : ACode :=
 (.reg [
 ⟨(some 4), .mov (.t 0), none⟩,
 ⟨(some 5), .mov (.t 0), none⟩,
 ⟨(some 6), .len false (.t 5), none⟩,
 ⟨(some 7), .mov (.t 1), none⟩,
 ⟨(some 8), .call 75 [(.t 4), (.t 6), (.t 7)], none⟩])
theorem a55 : Go.Proofs.Try.f55.body.bind (comp Go.Proofs.Try.prog) = some A55 := by kernel_rfl
theorem r55 : compRVs Go.Proofs.Try.prog Go.Proofs.Try.f55.results.toList = some [] := by kernel_rfl
theorem n55 : (Go.Proofs.Try.f55.name == "runtime.NumGoroutine") = false := by decide +kernel
def E55 : Nat × ACode × Nat × List RV := (55, A55, 9, [])
theorem e55 : EntryOk Go.Proofs.Try.prog E55 := ⟨Go.Proofs.Try.f55, Go.Proofs.Try.func55, n55, a55, Go.Proofs.Try.ntmps55, r55⟩
/-! reedpen/buffer.Sort$1 -/
def A56 : ACode :=
 (.seq
 (.reg [
 ⟨(some 5), .mov (.k (.int .i64 0)), none⟩])
 (.seq
 (.block 0
 (.seq
 (.regd [
 ⟨⟨(some 7), .load 1 false (.t 2), none⟩, 0, [], false⟩,
 ⟨⟨(some 8), .mov (.t 0), none⟩, 1, [], false⟩,
 ⟨⟨(some 9), .idx 1 (.t 7) (.t 8), none⟩, 2, [], false⟩,
 ⟨⟨(some 10), .load 1 false (.t 9), none⟩, 3, [], false⟩,
 ⟨⟨(some 11), .load 1 false (.t 2), none⟩, 4, [], false⟩,
 ⟨⟨(some 12), .mov (.t 1), none⟩, 5, [], false⟩,
 ⟨⟨(some 13), .idx 1 (.t 11) (.t 12), none⟩, 6, [], false⟩,
 ⟨⟨(some 14), .load 1 false (.t 13), none⟩, 7, [], false⟩,
 ⟨⟨(some 15), .bin .lss (.t 10) (.t 14), none⟩, 8, [], false⟩,
 ⟨⟨(some 6), .mov (.t 15), none⟩, 9, [], false⟩])
 (.cond (.t 6)
 (.seq
 (.reg [
 ⟨(some 5), .mov (.k (.int .i64 (-1))), none⟩])
 .ret)
 (.seq
 (.regd [
 ⟨⟨(some 17), .load 1 false (.t 2), none⟩, 0, [], false⟩,
 ⟨⟨(some 18), .mov (.t 0), none⟩, 1, [], false⟩,
 ⟨⟨(some 19), .idx 1 (.t 17) (.t 18), none⟩, 2, [], false⟩,
 ⟨⟨(some 20), .load 1 false (.t 19), none⟩, 3, [], false⟩,
 ⟨⟨(some 21), .load 1 false (.t 2), none⟩, 4, [], false⟩,
 ⟨⟨(some 22), .mov (.t 1), none⟩, 5, [], false⟩,
 ⟨⟨(some 23), .idx 1 (.t 21) (.t 22), none⟩, 6, [], false⟩,
 ⟨⟨(some 24), .load 1 false (.t 23), none⟩, 7, [], false⟩,
 ⟨⟨(some 25), .bin .gtr (.t 20) (.t 24), none⟩, 8, [], false⟩,
 ⟨⟨(some 16), .mov (.t 25), none⟩, 9, [], false⟩])
 (.cond (.t 16)
 (.seq
 (.reg [
 ⟨(some 5), .mov (.k (.int .i64 1)), none⟩])
 .ret)
 .skip)))))
 (.seq
 (.reg [
 ⟨(some 5), .mov (.k (.int .i64 0)), none⟩])
 .ret)))
theorem a56 : Go.Proofs.Try.f56.body.bind (comp Go.Proofs.Try.prog) = some A56 := by kernel_rfl
theorem r56 : compRVs Go.Proofs.Try.prog Go.Proofs.Try.f56.results.toList = some [.tmp 5] := by kernel_rfl
theorem n56 : (Go.Proofs.Try.f56.name == "runtime.NumGoroutine") = false := by decide +kernel
def E56 : Nat × ACode × Nat × List RV := (56, A56, 26, [.tmp 5])
theorem e56 : EntryOk Go.Proofs.Try.prog E56 := ⟨Go.Proofs.Try.f56, Go.Proofs.Try.func56, n56, a56, Go.Proofs.Try.ntmps56, r56⟩
/-! slices.Insert[[]reedpen/api.Glyph,reedpen/api.Glyph] -/
def A74 : ACode :=
 (.seq
 (.reg [
 ⟨(some 6), .mov (.k (.vec true [])), none⟩])
 (.seq
 (.reg [
 ⟨(some 10), .mov (.t 0), none⟩,
 ⟨(some 11), .mov (.t 1), none⟩,
 ⟨(some 12), .sl 14 (.t 10) (some (.t 11)) none none, none⟩])
 (.seq
 (.reg [
 ⟨(some 13), .mov (.t 2), none⟩,
 ⟨(some 14), .len false (.t 13), none⟩,
 ⟨(some 7), .mov (.t 14), none⟩])
 (.seq
 (.seq
 (.reg [
 ⟨(some 15), .mov (.t 7), none⟩,
 ⟨(some 16), .bin .eql (.t 15) (.k (.int .i64 0)), none⟩])
 (.cond (.t 16)
 (.seq
 (.reg [
 ⟨(some 17), .mov (.t 0), none⟩,
 ⟨(some 6), .mov (.t 17), none⟩])
 .ret)
 .skip))
 (.seq
 (.reg [
 ⟨(some 18), .mov (.t 0), none⟩,
 ⟨(some 19), .len false (.t 18), none⟩,
 ⟨(some 8), .mov (.t 19), none⟩])
 (.seq
 (.seq
 (.reg [
 ⟨(some 20), .mov (.t 1), none⟩,
 ⟨(some 21), .mov (.t 8), none⟩,
 ⟨(some 22), .bin .eql (.t 20) (.t 21), none⟩])
 (.cond (.t 22)
 (.seq
 (.reg [
 ⟨(some 23), .mov (.t 0), none⟩,
 ⟨(some 24), .mov (.t 2), none⟩,
 ⟨(some 25), .app 14 112 32 (.t 23) (.t 24), none⟩,
 ⟨(some 6), .mov (.t 25), none⟩])
 .ret)
 .skip))
 (.seq
 (.seq
 (.reg [
 ⟨(some 26), .mov (.t 8), none⟩,
 ⟨(some 27), .mov (.t 7), none⟩,
 ⟨(some 28), .bin .add (.t 26) (.t 27), none⟩,
 ⟨(some 29), .mov (.t 0), none⟩,
 ⟨(some 30), .stuck, none⟩,
 ⟨(some 31), .bin .gtr (.t 28) (.t 30), none⟩])
 (.cond (.t 31)
 (.seq
 (.reg [
 ⟨(some 32), .mov (.t 0), none⟩,
 ⟨(some 33), .mov (.t 1), none⟩,
 ⟨(some 34), .sl 14 (.t 32) none (some (.t 33)) none, none⟩,
 ⟨(some 35), .mov (.t 8), none⟩,
 ⟨(some 36), .mov (.t 7), none⟩,
 ⟨(some 37), .bin .add (.t 35) (.t 36), none⟩,
 ⟨(some 38), .mov (.t 1), none⟩,
 ⟨(some 39), .bin .sub (.t 37) (.t 38), none⟩,
 ⟨(some 40), .stuck, none⟩,
 ⟨(some 9), .mov (.t 40), none⟩])
 (.seq
 (.reg [
 ⟨(some 41), .mov (.t 9), none⟩,
 ⟨(some 42), .mov (.t 1), none⟩,
 ⟨(some 43), .sl 14 (.t 41) (some (.t 42)) none none, none⟩,
 ⟨(some 44), .mov (.t 2), none⟩,
 ⟨(some 45), .stuck, none⟩])
 (.seq
 (.regd [
 ⟨⟨(some 46), .mov (.t 9), none⟩, 0, [], false⟩,
 ⟨⟨(some 47), .mov (.t 1), none⟩, 1, [], false⟩,
 ⟨⟨(some 48), .mov (.t 7), none⟩, 2, [], false⟩,
 ⟨⟨(some 49), .bin .add (.t 47) (.t 48), none⟩, 3, [], false⟩,
 ⟨⟨(some 50), .sl 14 (.t 46) (some (.t 49)) none none, none⟩, 4, [], false⟩,
 ⟨⟨(some 51), .mov (.t 0), none⟩, 5, [], false⟩,
 ⟨⟨(some 52), .mov (.t 1), none⟩, 6, [], false⟩,
 ⟨⟨(some 53), .sl 14 (.t 51) (some (.t 52)) none none, none⟩, 7, [], false⟩,
 ⟨⟨(some 54), .stuck, none⟩, 8, [], false⟩])
 (.seq
 (.reg [
 ⟨(some 55), .mov (.t 9), none⟩,
 ⟨(some 6), .mov (.t 55), none⟩])
 .ret))))
 .skip))
 (.seq
 (.reg [
 ⟨(some 56), .mov (.t 0), none⟩,
 ⟨(some 57), .mov (.t 8), none⟩,
 ⟨(some 58), .mov (.t 7), none⟩,
 ⟨(some 59), .bin .add (.t 57) (.t 58), none⟩,
 ⟨(some 60), .sl 14 (.t 56) none (some (.t 59)) none, none⟩,
 ⟨(some 0), .mov (.t 60), none⟩])
 (.seq
 (.seq
 (.reg [
 ⟨(some 61), .mov (.t 2), none⟩,
 ⟨(some 62), .mov (.t 0), none⟩,
 ⟨(some 63), .mov (.t 1), none⟩,
 ⟨(some 64), .mov (.t 7), none⟩,
 ⟨(some 65), .bin .add (.t 63) (.t 64), none⟩,
 ⟨(some 66), .sl 14 (.t 62) (some (.t 65)) none none, none⟩,
 ⟨(some 67), .call 87 [(.t 61), (.t 66)], none⟩,
 ⟨(some 68), .un .not (.t 67), none⟩])
 (.cond (.t 68)
 (.seq
 (.regd [
 ⟨⟨(some 69), .mov (.t 0), none⟩, 0, [], false⟩,
 ⟨⟨(some 70), .mov (.t 1), none⟩, 1, [], false⟩,
 ⟨⟨(some 71), .mov (.t 7), none⟩, 2, [], false⟩,
 ⟨⟨(some 72), .bin .add (.t 70) (.t 71), none⟩, 3, [], false⟩,
 ⟨⟨(some 73), .sl 14 (.t 69) (some (.t 72)) none none, none⟩, 4, [], false⟩,
 ⟨⟨(some 74), .mov (.t 0), none⟩, 5, [], false⟩,
 ⟨⟨(some 75), .mov (.t 1), none⟩, 6, [], false⟩,
 ⟨⟨(some 76), .sl 14 (.t 74) (some (.t 75)) none none, none⟩, 7, [], false⟩,
 ⟨⟨(some 77), .stuck, none⟩, 8, [], false⟩])
 (.seq
 (.reg [
 ⟨(some 78), .mov (.t 0), none⟩,
 ⟨(some 79), .mov (.t 1), none⟩,
 ⟨(some 80), .sl 14 (.t 78) (some (.t 79)) none none, none⟩,
 ⟨(some 81), .mov (.t 2), none⟩,
 ⟨(some 82), .stuck, none⟩])
 (.seq
 (.reg [
 ⟨(some 83), .mov (.t 0), none⟩,
 ⟨(some 6), .mov (.t 83), none⟩])
 .ret)))
 .skip))
 (.seq
 (.reg [
 ⟨(some 84), .mov (.t 0), none⟩,
 ⟨(some 85), .mov (.t 8), none⟩,
 ⟨(some 86), .sl 14 (.t 84) (some (.t 85)) none none, none⟩,
 ⟨(some 87), .mov (.t 2), none⟩,
 ⟨(some 88), .stuck, none⟩])
 (.seq
 (.reg [
 ⟨(some 89), .mov (.t 0), none⟩,
 ⟨(some 90), .mov (.t 1), none⟩,
 ⟨(some 91), .sl 14 (.t 89) (some (.t 90)) none none, none⟩,
 ⟨(some 92), .mov (.t 7), none⟩,
 ⟨(some 93), .call 88 [(.t 91), (.t 92)], none⟩])
 (.seq
 (.reg [
 ⟨(some 94), .mov (.t 0), none⟩,
 ⟨(some 6), .mov (.t 94), none⟩])
 .ret))))))))))))
theorem a74 : Go.Proofs.Try.f74.body.bind (comp Go.Proofs.Try.prog) = some A74 := by kernel_rfl
theorem r74 : compRVs Go.Proofs.Try.prog Go.Proofs.Try.f74.results.toList = some [.tmp 6] := by kernel_rfl
theorem n74 : (Go.Proofs.Try.f74.name == "runtime.NumGoroutine") = false := by decide +kernel
def E74 : Nat × ACode × Nat × List RV := (74, A74, 95, [.tmp 6])
theorem e74 : EntryOk Go.Proofs.Try.prog E74 := ⟨Go.Proofs.Try.f74, Go.Proofs.Try.func74, n74, a74, Go.Proofs.Try.ntmps74, r74⟩
/-! slices.stableCmpFunc[int] -/
def A75 : ACode :=
 (.seq
 (.reg [
 ⟨(some 6), .mov (.k (.int .i64 20)), none⟩])
 (.seq
 (.reg [
 ⟨(some 10), .mov (.t 6), none⟩,
 ⟨(some 7), .mov (.k (.int .i64 0)), none⟩,
 ⟨(some 8), .mov (.t 10), none⟩])
 (.seq
 (.block 0
 (.loop
 (.seq
 (.seq
 (.reg [
 ⟨(some 11), .mov (.t 8), none⟩,
 ⟨(some 12), .mov (.t 1), none⟩,
 ⟨(some 13), .bin .leq (.t 11) (.t 12), none⟩])
 (.cond (.t 13)
 .skip
 (.exit 0)))
 (.block 1
 (.seq
 (.reg [
 ⟨(some 14), .mov (.t 0), none⟩,
 ⟨(some 15), .mov (.t 7), none⟩,
 ⟨(some 16), .mov (.t 8), none⟩,
 ⟨(some 17), .mov (.t 2), none⟩,
 ⟨(some 18), .call 89 [(.t 14), (.t 15), (.t 16), (.t 17)], none⟩])
 (.seq
 (.reg [
 ⟨(some 19), .mov (.t 8), none⟩,
 ⟨(some 7), .mov (.t 19), none⟩])
 (.reg [
 ⟨(some 20), .mov (.t 8), none⟩,
 ⟨(some 21), .mov (.t 6), none⟩,
 ⟨(some 22), .bin .add (.t 20) (.t 21), none⟩,
 ⟨(some 8), .mov (.t 22), none⟩])))))))
 (.seq
 (.reg [
 ⟨(some 23), .mov (.t 0), none⟩,
 ⟨(some 24), .mov (.t 7), none⟩,
 ⟨(some 25), .mov (.t 1), none⟩,
 ⟨(some 26), .mov (.t 2), none⟩,
 ⟨(some 27), .call 89 [(.t 23), (.t 24), (.t 25), (.t 26)], none⟩])
 (.block 2
 (.loop
 (.seq
 (.seq
 (.reg [
 ⟨(some 28), .mov (.t 6), none⟩,
 ⟨(some 29), .mov (.t 1), none⟩,
 ⟨(some 30), .bin .lss (.t 28) (.t 29), none⟩])
 (.cond (.t 30)
 .skip
 (.exit 2)))
 (.block 3
 (.seq
 (.reg [
 ⟨(some 31), .mov (.t 6), none⟩,
 ⟨(some 32), .bin .mul (.k (.int .i64 2)) (.t 31), none⟩,
 ⟨(some 7), .mov (.k (.int .i64 0)), none⟩,
 ⟨(some 8), .mov (.t 32), none⟩])
 (.seq
 (.block 4
 (.loop
 (.seq
 (.seq
 (.reg [
 ⟨(some 33), .mov (.t 8), none⟩,
 ⟨(some 34), .mov (.t 1), none⟩,
 ⟨(some 35), .bin .leq (.t 33) (.t 34), none⟩])
 (.cond (.t 35)
 .skip
 (.exit 4)))
 (.block 5
 (.seq
 (.reg [
 ⟨(some 36), .mov (.t 0), none⟩,
 ⟨(some 37), .mov (.t 7), none⟩,
 ⟨(some 38), .mov (.t 7), none⟩,
 ⟨(some 39), .mov (.t 6), none⟩,
 ⟨(some 40), .bin .add (.t 38) (.t 39), none⟩,
 ⟨(some 41), .mov (.t 8), none⟩,
 ⟨(some 42), .mov (.t 2), none⟩,
 ⟨(some 43), .call 90 [(.t 36), (.t 37), (.t 40), (.t 41), (.t 42)], none⟩])
 (.seq
 (.reg [
 ⟨(some 44), .mov (.t 8), none⟩,
 ⟨(some 7), .mov (.t 44), none⟩])
 (.reg [
 ⟨(some 45), .mov (.t 8), none⟩,
 ⟨(some 46), .mov (.t 6), none⟩,
 ⟨(some 47), .bin .mul (.k (.int .i64 2)) (.t 46), none⟩,
 ⟨(some 48), .bin .add (.t 45) (.t 47), none⟩,
 ⟨(some 8), .mov (.t 48), none⟩])))))))
 (.seq
 (.seq
 (.reg [
 ⟨(some 49), .mov (.t 7), none⟩,
 ⟨(some 50), .mov (.t 6), none⟩,
 ⟨(some 51), .bin .add (.t 49) (.t 50), none⟩,
 ⟨(some 9), .mov (.t 51), none⟩])
 (.seq
 (.reg [
 ⟨(some 52), .mov (.t 9), none⟩,
 ⟨(some 53), .mov (.t 1), none⟩,
 ⟨(some 54), .bin .lss (.t 52) (.t 53), none⟩])
 (.cond (.t 54)
 (.reg [
 ⟨(some 55), .mov (.t 0), none⟩,
 ⟨(some 56), .mov (.t 7), none⟩,
 ⟨(some 57), .mov (.t 9), none⟩,
 ⟨(some 58), .mov (.t 1), none⟩,
 ⟨(some 59), .mov (.t 2), none⟩,
 ⟨(some 60), .call 90 [(.t 55), (.t 56), (.t 57), (.t 58), (.t 59)], none⟩])
 .skip)))
 (.reg [
 ⟨(some 61), .mov (.t 6), none⟩,
 ⟨(some 62), .bin .mul (.t 61) (.k (.int .i64 2)), none⟩,
 ⟨(some 6), .mov (.t 62), none⟩]))))))))))))
theorem a75 : Go.Proofs.Try.f75.body.bind (comp Go.Proofs.Try.prog) = some A75 := by kernel_rfl
theorem r75 : compRVs Go.Proofs.Try.prog Go.Proofs.Try.f75.results.toList = some [] := by kernel_rfl
theorem n75 : (Go.Proofs.Try.f75.name == "runtime.NumGoroutine") = false := by decide +kernel
def E75 : Nat × ACode × Nat × List RV := (75, A75, 63, [])
theorem e75 : EntryOk Go.Proofs.Try.prog E75 := ⟨Go.Proofs.Try.f75, Go.Proofs.Try.func75, n75, a75, Go.Proofs.Try.ntmps75, r75⟩
/-! slices.rotateRight[reedpen/api.Glyph] -/
def A88 : ACode :=
 (.reg [
 ⟨(some 4), .mov (.t 0), none⟩,
 ⟨(some 5), .mov (.t 0), none⟩,
 ⟨(some 6), .len false (.t 5), none⟩,
 ⟨(some 7), .mov (.t 1), none⟩,
 ⟨(some 8), .bin .sub (.t 6) (.t 7), none⟩,
 ⟨(some 9), .call 95 [(.t 4), (.t 8)], none⟩])
theorem a88 : Go.Proofs.Try.f88.body.bind (comp Go.Proofs.Try.prog) = some A88 := by kernel_rfl
theorem r88 : compRVs Go.Proofs.Try.prog Go.Proofs.Try.f88.results.toList = some [] := by kernel_rfl
theorem n88 : (Go.Proofs.Try.f88.name == "runtime.NumGoroutine") = false := by decide +kernel
def E88 : Nat × ACode × Nat × List RV := (88, A88, 10, [])
theorem e88 : EntryOk Go.Proofs.Try.prog E88 := ⟨Go.Proofs.Try.f88, Go.Proofs.Try.func88, n88, a88, Go.Proofs.Try.ntmps88, r88⟩
/-! slices.insertionSortCmpFunc[int] -/
def A89 : ACode :=
 (.seq
 (.reg [
 ⟨(some 10), .mov (.t 1), none⟩,
 ⟨(some 11), .bin .add (.t 10) (.k (.int .i64 1)), none⟩,
 ⟨(some 8), .mov (.t 11), none⟩])
 (.block 0
 (.loop
 (.seq
 (.seq
 (.reg [
 ⟨(some 12), .mov (.t 8), none⟩,
 ⟨(some 13), .mov (.t 2), none⟩,
 ⟨(some 14), .bin .lss (.t 12) (.t 13), none⟩])
 (.cond (.t 14)
 .skip
 (.exit 0)))
 (.seq
 (.block 1
 (.seq
 (.reg [
 ⟨(some 17), .mov (.t 8), none⟩,
 ⟨(some 9), .mov (.t 17), none⟩])
 (.block 2
 (.loop
 (.seq
 (.seq
 (.regd [
 ⟨⟨(some 18), .mov (.t 9), none⟩, 0, [], false⟩,
 ⟨⟨(some 19), .mov (.t 1), none⟩, 1, [], false⟩,
 ⟨⟨(some 20), .bin .gtr (.t 18) (.t 19), none⟩, 2, [], false⟩,
 ⟨⟨(some 21), .mov (.t 20), none⟩, 3, [], false⟩,
 ⟨⟨(some 22), .mov (.t 3), (some (21, true))⟩, 4, [], false⟩,
 ⟨⟨(some 23), .mov (.t 0), (some (21, true))⟩, 5, [], false⟩,
 ⟨⟨(some 24), .mov (.t 9), (some (21, true))⟩, 6, [], false⟩,
 ⟨⟨(some 25), .idx 1 (.t 23) (.t 24), (some (21, true))⟩, 7, [], false⟩,
 ⟨⟨(some 26), .load 1 false (.t 25), (some (21, true))⟩, 8, [], false⟩,
 ⟨⟨(some 27), .mov (.t 0), (some (21, true))⟩, 9, [], false⟩,
 ⟨⟨(some 28), .mov (.t 9), (some (21, true))⟩, 10, [], false⟩,
 ⟨⟨(some 29), .bin .sub (.t 28) (.k (.int .i64 1)), (some (21, true))⟩, 11, [], false⟩,
 ⟨⟨(some 30), .idx 1 (.t 27) (.t 29), (some (21, true))⟩, 12, [], false⟩,
 ⟨⟨(some 31), .load 1 false (.t 30), (some (21, true))⟩, 13, [], false⟩,
 ⟨⟨(some 32), .callv (.t 22) [(.t 26), (.t 31)], (some (21, true))⟩, 14, [4, 3, 2, 0, 1, 8, 7, 5, 6, 13, 12, 9, 11, 10], false⟩,
 ⟨⟨(some 33), .bin .lss (.t 32) (.k (.int .i64 0)), (some (21, true))⟩, 15, [], false⟩,
 ⟨⟨(some 34), .pick (.t 21) (.t 33) (.k (.bool false)), none⟩, 16, [], false⟩])
 (.cond (.t 34)
 .skip
 (.exit 2)))
 (.seq
 (.block 3
 (.regd [
 ⟨⟨(some 37), .mov (.t 0), none⟩, 0, [], false⟩,
 ⟨⟨(some 38), .mov (.t 9), none⟩, 1, [], false⟩,
 ⟨⟨(some 39), .mov (.t 0), none⟩, 2, [], false⟩,
 ⟨⟨(some 40), .mov (.t 9), none⟩, 3, [], false⟩,
 ⟨⟨(some 41), .bin .sub (.t 40) (.k (.int .i64 1)), none⟩, 4, [], false⟩,
 ⟨⟨(some 42), .mov (.t 0), none⟩, 5, [], false⟩,
 ⟨⟨(some 43), .mov (.t 9), none⟩, 6, [], false⟩,
 ⟨⟨(some 44), .bin .sub (.t 43) (.k (.int .i64 1)), none⟩, 7, [], false⟩,
 ⟨⟨(some 45), .idx 1 (.t 42) (.t 44), none⟩, 8, [], false⟩,
 ⟨⟨(some 46), .load 1 false (.t 45), none⟩, 9, [], false⟩,
 ⟨⟨(some 47), .mov (.t 0), none⟩, 10, [], false⟩,
 ⟨⟨(some 48), .mov (.t 9), none⟩, 11, [], false⟩,
 ⟨⟨(some 49), .idx 1 (.t 47) (.t 48), none⟩, 12, [], false⟩,
 ⟨⟨(some 50), .load 1 false (.t 49), none⟩, 13, [], false⟩,
 ⟨⟨(some 51), .idx 1 (.t 37) (.t 38), none⟩, 14, [], false⟩,
 ⟨⟨none, .store 1 (.t 51) (.t 46), none⟩, 15, [14, 0, 1, 5, 6, 7, 8, 9, 13, 12, 10, 11], false⟩,
 ⟨⟨(some 52), .idx 1 (.t 39) (.t 41), none⟩, 16, [], true⟩,
 ⟨⟨none, .store 1 (.t 52) (.t 50), none⟩, 17, [16, 2, 4, 3, 0, 1, 5, 6, 7, 8, 9, 10, 11, 12, 13, 14, 15], false⟩]))
 (.reg [
 ⟨(some 35), .mov (.t 9), none⟩,
 ⟨(some 36), .bin .sub (.t 35) (.k (.int .i64 1)), none⟩,
 ⟨(some 9), .mov (.t 36), none⟩])))))))
 (.reg [
 ⟨(some 15), .mov (.t 8), none⟩,
 ⟨(some 16), .bin .add (.t 15) (.k (.int .i64 1)), none⟩,
 ⟨(some 8), .mov (.t 16), none⟩]))))))
theorem a89 : Go.Proofs.Try.f89.body.bind (comp Go.Proofs.Try.prog) = some A89 := by kernel_rfl
theorem r89 : compRVs Go.Proofs.Try.prog Go.Proofs.Try.f89.results.toList = some [] := by kernel_rfl
theorem n89 : (Go.Proofs.Try.f89.name == "runtime.NumGoroutine") = false := by decide +kernel
def E89 : Nat × ACode × Nat × List RV := (89, A89, 53, [])
theorem e89 : EntryOk Go.Proofs.Try.prog E89 := ⟨Go.Proofs.Try.f89, Go.Proofs.Try.func89, n89, a89, Go.Proofs.Try.ntmps89, r89⟩
/-! slices.symMergeCmpFunc[int] -/
def A90 : ACode :=
 (.seq
 (.seq
 (.reg [
 ⟨(some 25), .mov (.t 2), none⟩,
 ⟨(some 26), .mov (.t 1), none⟩,
 ⟨(some 27), .bin .sub (.t 25) (.t 26), none⟩,
 ⟨(some 28), .bin .eql (.t 27) (.k (.int .i64 1)), none⟩])
 (.cond (.t 28)
 (.seq
 (.reg [
 ⟨(some 29), .mov (.t 2), none⟩,
 ⟨(some 10), .mov (.t 29), none⟩])
 (.seq
 (.reg [
 ⟨(some 30), .mov (.t 3), none⟩,
 ⟨(some 11), .mov (.t 30), none⟩])
 (.seq
 (.block 0
 (.loop
 (.seq
 (.seq
 (.reg [
 ⟨(some 31), .mov (.t 10), none⟩,
 ⟨(some 32), .mov (.t 11), none⟩,
 ⟨(some 33), .bin .lss (.t 31) (.t 32), none⟩])
 (.cond (.t 33)
 .skip
 (.exit 0)))
 (.block 1
 (.seq
 (.reg [
 ⟨(some 34), .mov (.t 10), none⟩,
 ⟨(some 35), .mov (.t 11), none⟩,
 ⟨(some 36), .bin .add (.t 34) (.t 35), none⟩,
 ⟨(some 37), .conv .u64 (.t 36), none⟩,
 ⟨(some 38), .bin .shr (.t 37) (.k (.int .u64 1)), none⟩,
 ⟨(some 39), .conv .i64 (.t 38), none⟩,
 ⟨(some 12), .mov (.t 39), none⟩])
 (.seq
 (.regd [
 ⟨⟨(some 40), .mov (.t 4), none⟩, 0, [], false⟩,
 ⟨⟨(some 41), .mov (.t 0), none⟩, 1, [], false⟩,
 ⟨⟨(some 42), .mov (.t 12), none⟩, 2, [], false⟩,
 ⟨⟨(some 43), .idx 1 (.t 41) (.t 42), none⟩, 3, [], false⟩,
 ⟨⟨(some 44), .load 1 false (.t 43), none⟩, 4, [], false⟩,
 ⟨⟨(some 45), .mov (.t 0), none⟩, 5, [], false⟩,
 ⟨⟨(some 46), .mov (.t 1), none⟩, 6, [], false⟩,
 ⟨⟨(some 47), .idx 1 (.t 45) (.t 46), none⟩, 7, [], false⟩,
 ⟨⟨(some 48), .load 1 false (.t 47), none⟩, 8, [], false⟩,
 ⟨⟨(some 49), .callv (.t 40) [(.t 44), (.t 48)], none⟩, 9, [0, 4, 3, 1, 2, 8, 7, 5, 6], false⟩,
 ⟨⟨(some 50), .bin .lss (.t 49) (.k (.int .i64 0)), none⟩, 10, [], false⟩])
 (.cond (.t 50)
 (.reg [
 ⟨(some 51), .mov (.t 12), none⟩,
 ⟨(some 52), .bin .add (.t 51) (.k (.int .i64 1)), none⟩,
 ⟨(some 10), .mov (.t 52), none⟩])
 (.reg [
 ⟨(some 53), .mov (.t 12), none⟩,
 ⟨(some 11), .mov (.t 53), none⟩]))))))))
 (.seq
 (.seq
 (.reg [
 ⟨(some 54), .mov (.t 1), none⟩,
 ⟨(some 13), .mov (.t 54), none⟩])
 (.block 2
 (.loop
 (.seq
 (.seq
 (.reg [
 ⟨(some 55), .mov (.t 13), none⟩,
 ⟨(some 56), .mov (.t 10), none⟩,
 ⟨(some 57), .bin .sub (.t 56) (.k (.int .i64 1)), none⟩,
 ⟨(some 58), .bin .lss (.t 55) (.t 57), none⟩])
 (.cond (.t 58)
 .skip
 (.exit 2)))
 (.seq
 (.block 3
 (.regd [
 ⟨⟨(some 61), .mov (.t 0), none⟩, 0, [], false⟩,
 ⟨⟨(some 62), .mov (.t 13), none⟩, 1, [], false⟩,
 ⟨⟨(some 63), .mov (.t 0), none⟩, 2, [], false⟩,
 ⟨⟨(some 64), .mov (.t 13), none⟩, 3, [], false⟩,
 ⟨⟨(some 65), .bin .add (.t 64) (.k (.int .i64 1)), none⟩, 4, [], false⟩,
 ⟨⟨(some 66), .mov (.t 0), none⟩, 5, [], false⟩,
 ⟨⟨(some 67), .mov (.t 13), none⟩, 6, [], false⟩,
 ⟨⟨(some 68), .bin .add (.t 67) (.k (.int .i64 1)), none⟩, 7, [], false⟩,
 ⟨⟨(some 69), .idx 1 (.t 66) (.t 68), none⟩, 8, [], false⟩,
 ⟨⟨(some 70), .load 1 false (.t 69), none⟩, 9, [], false⟩,
 ⟨⟨(some 71), .mov (.t 0), none⟩, 10, [], false⟩,
 ⟨⟨(some 72), .mov (.t 13), none⟩, 11, [], false⟩,
 ⟨⟨(some 73), .idx 1 (.t 71) (.t 72), none⟩, 12, [], false⟩,
 ⟨⟨(some 74), .load 1 false (.t 73), none⟩, 13, [], false⟩,
 ⟨⟨(some 75), .idx 1 (.t 61) (.t 62), none⟩, 14, [], false⟩,
 ⟨⟨none, .store 1 (.t 75) (.t 70), none⟩, 15, [14, 0, 1, 5, 6, 7, 8, 9, 13, 12, 10, 11], false⟩,
 ⟨⟨(some 76), .idx 1 (.t 63) (.t 65), none⟩, 16, [], true⟩,
 ⟨⟨none, .store 1 (.t 76) (.t 74), none⟩, 17, [16, 2, 4, 3, 0, 1, 5, 6, 7, 8, 9, 10, 11, 12, 13, 14, 15], false⟩]))
 (.reg [
 ⟨(some 59), .mov (.t 13), none⟩,
 ⟨(some 60), .bin .add (.t 59) (.k (.int .i64 1)), none⟩,
 ⟨(some 13), .mov (.t 60), none⟩]))))))
 .ret))))
 .skip))
 (.seq
 (.seq
 (.reg [
 ⟨(some 77), .mov (.t 3), none⟩,
 ⟨(some 78), .mov (.t 2), none⟩,
 ⟨(some 79), .bin .sub (.t 77) (.t 78), none⟩,
 ⟨(some 80), .bin .eql (.t 79) (.k (.int .i64 1)), none⟩])
 (.cond (.t 80)
 (.seq
 (.reg [
 ⟨(some 81), .mov (.t 1), none⟩,
 ⟨(some 14), .mov (.t 81), none⟩])
 (.seq
 (.reg [
 ⟨(some 82), .mov (.t 2), none⟩,
 ⟨(some 15), .mov (.t 82), none⟩])
 (.seq
 (.block 4
 (.loop
 (.seq
 (.seq
 (.reg [
 ⟨(some 83), .mov (.t 14), none⟩,
 ⟨(some 84), .mov (.t 15), none⟩,
 ⟨(some 85), .bin .lss (.t 83) (.t 84), none⟩])
 (.cond (.t 85)
 .skip
 (.exit 4)))
 (.block 5
 (.seq
 (.reg [
 ⟨(some 86), .mov (.t 14), none⟩,
 ⟨(some 87), .mov (.t 15), none⟩,
 ⟨(some 88), .bin .add (.t 86) (.t 87), none⟩,
 ⟨(some 89), .conv .u64 (.t 88), none⟩,
 ⟨(some 90), .bin .shr (.t 89) (.k (.int .u64 1)), none⟩,
 ⟨(some 91), .conv .i64 (.t 90), none⟩,
 ⟨(some 16), .mov (.t 91), none⟩])
 (.seq
 (.regd [
 ⟨⟨(some 92), .mov (.t 4), none⟩, 0, [], false⟩,
 ⟨⟨(some 93), .mov (.t 0), none⟩, 1, [], false⟩,
 ⟨⟨(some 94), .mov (.t 2), none⟩, 2, [], false⟩,
 ⟨⟨(some 95), .idx 1 (.t 93) (.t 94), none⟩, 3, [], false⟩,
 ⟨⟨(some 96), .load 1 false (.t 95), none⟩, 4, [], false⟩,
 ⟨⟨(some 97), .mov (.t 0), none⟩, 5, [], false⟩,
 ⟨⟨(some 98), .mov (.t 16), none⟩, 6, [], false⟩,
 ⟨⟨(some 99), .idx 1 (.t 97) (.t 98), none⟩, 7, [], false⟩,
 ⟨⟨(some 100), .load 1 false (.t 99), none⟩, 8, [], false⟩,
 ⟨⟨(some 101), .callv (.t 92) [(.t 96), (.t 100)], none⟩, 9, [0, 4, 3, 1, 2, 8, 7, 5, 6], false⟩,
 ⟨⟨(some 102), .bin .lss (.t 101) (.k (.int .i64 0)), none⟩, 10, [], false⟩,
 ⟨⟨(some 103), .un .not (.t 102), none⟩, 11, [], false⟩])
 (.cond (.t 103)
 (.reg [
 ⟨(some 104), .mov (.t 16), none⟩,
 ⟨(some 105), .bin .add (.t 104) (.k (.int .i64 1)), none⟩,
 ⟨(some 14), .mov (.t 105), none⟩])
 (.reg [
 ⟨(some 106), .mov (.t 16), none⟩,
 ⟨(some 15), .mov (.t 106), none⟩]))))))))
 (.seq
 (.seq
 (.reg [
 ⟨(some 107), .mov (.t 2), none⟩,
 ⟨(some 17), .mov (.t 107), none⟩])
 (.block 6
 (.loop
 (.seq
 (.seq
 (.reg [
 ⟨(some 108), .mov (.t 17), none⟩,
 ⟨(some 109), .mov (.t 14), none⟩,
 ⟨(some 110), .bin .gtr (.t 108) (.t 109), none⟩])
 (.cond (.t 110)
 .skip
 (.exit 6)))
 (.seq
 (.block 7
 (.regd [
 ⟨⟨(some 113), .mov (.t 0), none⟩, 0, [], false⟩,
 ⟨⟨(some 114), .mov (.t 17), none⟩, 1, [], false⟩,
 ⟨⟨(some 115), .mov (.t 0), none⟩, 2, [], false⟩,
 ⟨⟨(some 116), .mov (.t 17), none⟩, 3, [], false⟩,
 ⟨⟨(some 117), .bin .sub (.t 116) (.k (.int .i64 1)), none⟩, 4, [], false⟩,
 ⟨⟨(some 118), .mov (.t 0), none⟩, 5, [], false⟩,
 ⟨⟨(some 119), .mov (.t 17), none⟩, 6, [], false⟩,
 ⟨⟨(some 120), .bin .sub (.t 119) (.k (.int .i64 1)), none⟩, 7, [], false⟩,
 ⟨⟨(some 121), .idx 1 (.t 118) (.t 120), none⟩, 8, [], false⟩,
 ⟨⟨(some 122), .load 1 false (.t 121), none⟩, 9, [], false⟩,
 ⟨⟨(some 123), .mov (.t 0), none⟩, 10, [], false⟩,
 ⟨⟨(some 124), .mov (.t 17), none⟩, 11, [], false⟩,
 ⟨⟨(some 125), .idx 1 (.t 123) (.t 124), none⟩, 12, [], false⟩,
 ⟨⟨(some 126), .load 1 false (.t 125), none⟩, 13, [], false⟩,
 ⟨⟨(some 127), .idx 1 (.t 113) (.t 114), none⟩, 14, [], false⟩,
 ⟨⟨none, .store 1 (.t 127) (.t 122), none⟩, 15, [14, 0, 1, 5, 6, 7, 8, 9, 13, 12, 10, 11], false⟩,
 ⟨⟨(some 128), .idx 1 (.t 115) (.t 117), none⟩, 16, [], true⟩,
 ⟨⟨none, .store 1 (.t 128) (.t 126), none⟩, 17, [16, 2, 4, 3, 0, 1, 5, 6, 7, 8, 9, 10, 11, 12, 13, 14, 15], false⟩]))
 (.reg [
 ⟨(some 111), .mov (.t 17), none⟩,
 ⟨(some 112), .bin .sub (.t 111) (.k (.int .i64 1)), none⟩,
 ⟨(some 17), .mov (.t 112), none⟩]))))))
 .ret))))
 .skip))
 (.seq
 (.reg [
 ⟨(some 129), .mov (.t 1), none⟩,
 ⟨(some 130), .mov (.t 3), none⟩,
 ⟨(some 131), .bin .add (.t 129) (.t 130), none⟩,
 ⟨(some 132), .conv .u64 (.t 131), none⟩,
 ⟨(some 133), .bin .shr (.t 132) (.k (.int .u64 1)), none⟩,
 ⟨(some 134), .conv .i64 (.t 133), none⟩,
 ⟨(some 18), .mov (.t 134), none⟩])
 (.seq
 (.reg [
 ⟨(some 135), .mov (.t 18), none⟩,
 ⟨(some 136), .mov (.t 2), none⟩,
 ⟨(some 137), .bin .add (.t 135) (.t 136), none⟩,
 ⟨(some 19), .mov (.t 137), none⟩])
 (.seq
 (.reg [
 ⟨(some 20), .mov (.k (.int .i64 0)), none⟩,
 ⟨(some 21), .mov (.k (.int .i64 0)), none⟩])
 (.seq
 (.seq
 (.reg [
 ⟨(some 138), .mov (.t 2), none⟩,
 ⟨(some 139), .mov (.t 18), none⟩,
 ⟨(some 140), .bin .gtr (.t 138) (.t 139), none⟩])
 (.cond (.t 140)
 (.seq
 (.reg [
 ⟨(some 141), .mov (.t 19), none⟩,
 ⟨(some 142), .mov (.t 3), none⟩,
 ⟨(some 143), .bin .sub (.t 141) (.t 142), none⟩,
 ⟨(some 20), .mov (.t 143), none⟩])
 (.reg [
 ⟨(some 144), .mov (.t 18), none⟩,
 ⟨(some 21), .mov (.t 144), none⟩]))
 (.seq
 (.reg [
 ⟨(some 145), .mov (.t 1), none⟩,
 ⟨(some 20), .mov (.t 145), none⟩])
 (.reg [
 ⟨(some 146), .mov (.t 2), none⟩,
 ⟨(some 21), .mov (.t 146), none⟩]))))
 (.seq
 (.reg [
 ⟨(some 147), .mov (.t 19), none⟩,
 ⟨(some 148), .bin .sub (.t 147) (.k (.int .i64 1)), none⟩,
 ⟨(some 22), .mov (.t 148), none⟩])
 (.seq
 (.block 8
 (.loop
 (.seq
 (.seq
 (.reg [
 ⟨(some 149), .mov (.t 20), none⟩,
 ⟨(some 150), .mov (.t 21), none⟩,
 ⟨(some 151), .bin .lss (.t 149) (.t 150), none⟩])
 (.cond (.t 151)
 .skip
 (.exit 8)))
 (.block 9
 (.seq
 (.reg [
 ⟨(some 152), .mov (.t 20), none⟩,
 ⟨(some 153), .mov (.t 21), none⟩,
 ⟨(some 154), .bin .add (.t 152) (.t 153), none⟩,
 ⟨(some 155), .conv .u64 (.t 154), none⟩,
 ⟨(some 156), .bin .shr (.t 155) (.k (.int .u64 1)), none⟩,
 ⟨(some 157), .conv .i64 (.t 156), none⟩,
 ⟨(some 23), .mov (.t 157), none⟩])
 (.seq
 (.regd [
 ⟨⟨(some 158), .mov (.t 4), none⟩, 0, [], false⟩,
 ⟨⟨(some 159), .mov (.t 0), none⟩, 1, [], false⟩,
 ⟨⟨(some 160), .mov (.t 22), none⟩, 2, [], false⟩,
 ⟨⟨(some 161), .mov (.t 23), none⟩, 3, [], false⟩,
 ⟨⟨(some 162), .bin .sub (.t 160) (.t 161), none⟩, 4, [], false⟩,
 ⟨⟨(some 163), .idx 1 (.t 159) (.t 162), none⟩, 5, [], false⟩,
 ⟨⟨(some 164), .load 1 false (.t 163), none⟩, 6, [], false⟩,
 ⟨⟨(some 165), .mov (.t 0), none⟩, 7, [], false⟩,
 ⟨⟨(some 166), .mov (.t 23), none⟩, 8, [], false⟩,
 ⟨⟨(some 167), .idx 1 (.t 165) (.t 166), none⟩, 9, [], false⟩,
 ⟨⟨(some 168), .load 1 false (.t 167), none⟩, 10, [], false⟩,
 ⟨⟨(some 169), .callv (.t 158) [(.t 164), (.t 168)], none⟩, 11, [0, 6, 5, 1, 4, 2, 3, 10, 9, 7, 8], false⟩,
 ⟨⟨(some 170), .bin .lss (.t 169) (.k (.int .i64 0)), none⟩, 12, [], false⟩,
 ⟨⟨(some 171), .un .not (.t 170), none⟩, 13, [], false⟩])
 (.cond (.t 171)
 (.reg [
 ⟨(some 172), .mov (.t 23), none⟩,
 ⟨(some 173), .bin .add (.t 172) (.k (.int .i64 1)), none⟩,
 ⟨(some 20), .mov (.t 173), none⟩])
 (.reg [
 ⟨(some 174), .mov (.t 23), none⟩,
 ⟨(some 21), .mov (.t 174), none⟩]))))))))
 (.seq
 (.reg [
 ⟨(some 175), .mov (.t 19), none⟩,
 ⟨(some 176), .mov (.t 20), none⟩,
 ⟨(some 177), .bin .sub (.t 175) (.t 176), none⟩,
 ⟨(some 24), .mov (.t 177), none⟩])
 (.seq
 (.seq
 (.reg [
 ⟨(some 178), .mov (.t 20), none⟩,
 ⟨(some 179), .mov (.t 2), none⟩,
 ⟨(some 180), .bin .lss (.t 178) (.t 179), none⟩,
 ⟨(some 181), .mov (.t 180), none⟩,
 ⟨(some 182), .mov (.t 2), (some (181, true))⟩,
 ⟨(some 183), .mov (.t 24), (some (181, true))⟩,
 ⟨(some 184), .bin .lss (.t 182) (.t 183), (some (181, true))⟩,
 ⟨(some 185), .pick (.t 181) (.t 184) (.k (.bool false)), none⟩])
 (.cond (.t 185)
 (.reg [
 ⟨(some 186), .mov (.t 0), none⟩,
 ⟨(some 187), .mov (.t 20), none⟩,
 ⟨(some 188), .mov (.t 2), none⟩,
 ⟨(some 189), .mov (.t 24), none⟩,
 ⟨(some 190), .mov (.t 4), none⟩,
 ⟨(some 191), .call 96 [(.t 186), (.t 187), (.t 188), (.t 189), (.t 190)], none⟩])
 .skip))
 (.seq
 (.seq
 (.reg [
 ⟨(some 192), .mov (.t 1), none⟩,
 ⟨(some 193), .mov (.t 20), none⟩,
 ⟨(some 194), .bin .lss (.t 192) (.t 193), none⟩,
 ⟨(some 195), .mov (.t 194), none⟩,
 ⟨(some 196), .mov (.t 20), (some (195, true))⟩,
 ⟨(some 197), .mov (.t 18), (some (195, true))⟩,
 ⟨(some 198), .bin .lss (.t 196) (.t 197), (some (195, true))⟩,
 ⟨(some 199), .pick (.t 195) (.t 198) (.k (.bool false)), none⟩])
 (.cond (.t 199)
 (.reg [
 ⟨(some 200), .mov (.t 0), none⟩,
 ⟨(some 201), .mov (.t 1), none⟩,
 ⟨(some 202), .mov (.t 20), none⟩,
 ⟨(some 203), .mov (.t 18), none⟩,
 ⟨(some 204), .mov (.t 4), none⟩,
 ⟨(some 205), .call 90 [(.t 200), (.t 201), (.t 202), (.t 203), (.t 204)], none⟩])
 .skip))
 (.seq
 (.reg [
 ⟨(some 206), .mov (.t 18), none⟩,
 ⟨(some 207), .mov (.t 24), none⟩,
 ⟨(some 208), .bin .lss (.t 206) (.t 207), none⟩,
 ⟨(some 209), .mov (.t 208), none⟩,
 ⟨(some 210), .mov (.t 24), (some (209, true))⟩,
 ⟨(some 211), .mov (.t 3), (some (209, true))⟩,
 ⟨(some 212), .bin .lss (.t 210) (.t 211), (some (209, true))⟩,
 ⟨(some 213), .pick (.t 209) (.t 212) (.k (.bool false)), none⟩])
 (.cond (.t 213)
 (.reg [
 ⟨(some 214), .mov (.t 0), none⟩,
 ⟨(some 215), .mov (.t 18), none⟩,
 ⟨(some 216), .mov (.t 24), none⟩,
 ⟨(some 217), .mov (.t 3), none⟩,
 ⟨(some 218), .mov (.t 4), none⟩,
 ⟨(some 219), .call 90 [(.t 214), (.t 215), (.t 216), (.t 217), (.t 218)], none⟩])
 .skip)))))))))))))
theorem a90 : Go.Proofs.Try.f90.body.bind (comp Go.Proofs.Try.prog) = some A90 := by kernel_rfl
theorem r90 : compRVs Go.Proofs.Try.prog Go.Proofs.Try.f90.results.toList = some [] := by kernel_rfl
theorem n90 : (Go.Proofs.Try.f90.name == "runtime.NumGoroutine") = false := by decide +kernel
def E90 : Nat × ACode × Nat × List RV := (90, A90, 220, [])
theorem e90 : EntryOk Go.Proofs.Try.prog E90 := ⟨Go.Proofs.Try.f90, Go.Proofs.Try.func90, n90, a90, Go.Proofs.Try.ntmps90, r90⟩
/-! slices.rotateLeft[reedpen/api.Glyph] -/
def A95 : ACode :=
 (.seq
 (.reg [
 ⟨(some 4), .mov (.t 0), none⟩,
 ⟨(some 5), .mov (.t 1), none⟩,
 ⟨(some 6), .sl 14 (.t 4) none (some (.t 5)) none, none⟩,
 ⟨(some 7), .call 103 [(.t 6)], none⟩])
 (.seq
 (.reg [
 ⟨(some 8), .mov (.t 0), none⟩,
 ⟨(some 9), .mov (.t 1), none⟩,
 ⟨(some 10), .sl 14 (.t 8) (some (.t 9)) none none, none⟩,
 ⟨(some 11), .call 103 [(.t 10)], none⟩])
 (.reg [
 ⟨(some 12), .mov (.t 0), none⟩,
 ⟨(some 13), .call 103 [(.t 12)], none⟩])))
theorem a95 : Go.Proofs.Try.f95.body.bind (comp Go.Proofs.Try.prog) = some A95 := by kernel_rfl
theorem r95 : compRVs Go.Proofs.Try.prog Go.Proofs.Try.f95.results.toList = some [] := by kernel_rfl
theorem n95 : (Go.Proofs.Try.f95.name == "runtime.NumGoroutine") = false := by decide +kernel
def E95 : Nat × ACode × Nat × List RV := (95, A95, 14, [])
theorem e95 : EntryOk Go.Proofs.Try.prog E95 := ⟨Go.Proofs.Try.f95, Go.Proofs.Try.func95, n95, a95, Go.Proofs.Try.ntmps95, r95⟩
/-! slices.rotateCmpFunc[int] -/
def A96 : ACode :=
 (.seq
 (.reg [
 ⟨(some 12), .mov (.t 2), none⟩,
 ⟨(some 13), .mov (.t 1), none⟩,
 ⟨(some 14), .bin .sub (.t 12) (.t 13), none⟩,
 ⟨(some 10), .mov (.t 14), none⟩])
 (.seq
 (.reg [
 ⟨(some 15), .mov (.t 3), none⟩,
 ⟨(some 16), .mov (.t 2), none⟩,
 ⟨(some 17), .bin .sub (.t 15) (.t 16), none⟩,
 ⟨(some 11), .mov (.t 17), none⟩])
 (.seq
 (.block 0
 (.loop
 (.seq
 (.seq
 (.reg [
 ⟨(some 18), .mov (.t 10), none⟩,
 ⟨(some 19), .mov (.t 11), none⟩,
 ⟨(some 20), .bin .neq (.t 18) (.t 19), none⟩])
 (.cond (.t 20)
 .skip
 (.exit 0)))
 (.block 1
 (.seq
 (.reg [
 ⟨(some 21), .mov (.t 10), none⟩,
 ⟨(some 22), .mov (.t 11), none⟩,
 ⟨(some 23), .bin .gtr (.t 21) (.t 22), none⟩])
 (.cond (.t 23)
 (.seq
 (.reg [
 ⟨(some 24), .mov (.t 0), none⟩,
 ⟨(some 25), .mov (.t 2), none⟩,
 ⟨(some 26), .mov (.t 10), none⟩,
 ⟨(some 27), .bin .sub (.t 25) (.t 26), none⟩,
 ⟨(some 28), .mov (.t 2), none⟩,
 ⟨(some 29), .mov (.t 11), none⟩,
 ⟨(some 30), .mov (.t 4), none⟩,
 ⟨(some 31), .call 104 [(.t 24), (.t 27), (.t 28), (.t 29), (.t 30)], none⟩])
 (.reg [
 ⟨(some 32), .mov (.t 10), none⟩,
 ⟨(some 33), .mov (.t 11), none⟩,
 ⟨(some 34), .bin .sub (.t 32) (.t 33), none⟩,
 ⟨(some 10), .mov (.t 34), none⟩]))
 (.seq
 (.reg [
 ⟨(some 35), .mov (.t 0), none⟩,
 ⟨(some 36), .mov (.t 2), none⟩,
 ⟨(some 37), .mov (.t 10), none⟩,
 ⟨(some 38), .bin .sub (.t 36) (.t 37), none⟩,
 ⟨(some 39), .mov (.t 2), none⟩,
 ⟨(some 40), .mov (.t 11), none⟩,
 ⟨(some 41), .bin .add (.t 39) (.t 40), none⟩,
 ⟨(some 42), .mov (.t 10), none⟩,
 ⟨(some 43), .bin .sub (.t 41) (.t 42), none⟩,
 ⟨(some 44), .mov (.t 10), none⟩,
 ⟨(some 45), .mov (.t 4), none⟩,
 ⟨(some 46), .call 104 [(.t 35), (.t 38), (.t 43), (.t 44), (.t 45)], none⟩])
 (.reg [
 ⟨(some 47), .mov (.t 11), none⟩,
 ⟨(some 48), .mov (.t 10), none⟩,
 ⟨(some 49), .bin .sub (.t 47) (.t 48), none⟩,
 ⟨(some 11), .mov (.t 49), none⟩]))))))))
 (.reg [
 ⟨(some 50), .mov (.t 0), none⟩,
 ⟨(some 51), .mov (.t 2), none⟩,
 ⟨(some 52), .mov (.t 10), none⟩,
 ⟨(some 53), .bin .sub (.t 51) (.t 52), none⟩,
 ⟨(some 54), .mov (.t 2), none⟩,
 ⟨(some 55), .mov (.t 10), none⟩,
 ⟨(some 56), .mov (.t 4), none⟩,
 ⟨(some 57), .call 104 [(.t 50), (.t 53), (.t 54), (.t 55), (.t 56)], none⟩]))))
theorem a96 : Go.Proofs.Try.f96.body.bind (comp Go.Proofs.Try.prog) = some A96 := by kernel_rfl
theorem r96 : compRVs Go.Proofs.Try.prog Go.Proofs.Try.f96.results.toList = some [] := by kernel_rfl
theorem n96 : (Go.Proofs.Try.f96.name == "runtime.NumGoroutine") = false := by decide +kernel
def E96 : Nat × ACode × Nat × List RV := (96, A96, 58, [])
theorem e96 : EntryOk Go.Proofs.Try.prog E96 := ⟨Go.Proofs.Try.f96, Go.Proofs.Try.func96, n96, a96, Go.Proofs.Try.ntmps96, r96⟩
/-! slices.Reverse[[]reedpen/api.Glyph,reedpen/api.Glyph] -/
def A103 : ACode :=
 (.seq
 (.reg [
 ⟨(some 4), .mov (.t 0), none⟩,
 ⟨(some 5), .len false (.t 4), none⟩,
 ⟨(some 6), .bin .sub (.t 5) (.k (.int .i64 1)), none⟩,
 ⟨(some 2), .mov (.k (.int .i64 0)), none⟩,
 ⟨(some 3), .mov (.t 6), none⟩])
 (.block 0
 (.loop
 (.seq
 (.seq
 (.reg [
 ⟨(some 7), .mov (.t 2), none⟩,
 ⟨(some 8), .mov (.t 3), none⟩,
 ⟨(some 9), .bin .lss (.t 7) (.t 8), none⟩])
 (.cond (.t 9)
 .skip
 (.exit 0)))
 (.seq
 (.block 1
 (.regd [
 ⟨⟨(some 14), .mov (.t 0), none⟩, 0, [], false⟩,
 ⟨⟨(some 15), .mov (.t 2), none⟩, 1, [], false⟩,
 ⟨⟨(some 16), .mov (.t 0), none⟩, 2, [], false⟩,
 ⟨⟨(some 17), .mov (.t 3), none⟩, 3, [], false⟩,
 ⟨⟨(some 18), .mov (.t 0), none⟩, 4, [], false⟩,
 ⟨⟨(some 19), .mov (.t 3), none⟩, 5, [], false⟩,
 ⟨⟨(some 20), .idx 14 (.t 18) (.t 19), none⟩, 6, [], false⟩,
 ⟨⟨(some 21), .load 14 true (.t 20), none⟩, 7, [], false⟩,
 ⟨⟨(some 22), .mov (.t 0), none⟩, 8, [], false⟩,
 ⟨⟨(some 23), .mov (.t 2), none⟩, 9, [], false⟩,
 ⟨⟨(some 24), .idx 14 (.t 22) (.t 23), none⟩, 10, [], false⟩,
 ⟨⟨(some 25), .load 14 true (.t 24), none⟩, 11, [], false⟩,
 ⟨⟨(some 26), .idx 14 (.t 14) (.t 15), none⟩, 12, [], false⟩,
 ⟨⟨none, .store 14 (.t 26) (.t 21), none⟩, 13, [12, 0, 1, 4, 5, 6, 7, 11, 10, 8, 9], false⟩,
 ⟨⟨(some 27), .idx 14 (.t 16) (.t 17), none⟩, 14, [], true⟩,
 ⟨⟨none, .store 14 (.t 27) (.t 25), none⟩, 15, [14, 2, 3, 0, 1, 4, 5, 6, 7, 8, 9, 10, 11, 12, 13], false⟩]))
 (.reg [
 ⟨(some 10), .mov (.t 2), none⟩,
 ⟨(some 11), .bin .add (.t 10) (.k (.int .i64 1)), none⟩,
 ⟨(some 12), .mov (.t 3), none⟩,
 ⟨(some 13), .bin .sub (.t 12) (.k (.int .i64 1)), none⟩,
 ⟨(some 2), .mov (.t 11), none⟩,
 ⟨(some 3), .mov (.t 13), none⟩]))))))
theorem a103 : Go.Proofs.Try.f103.body.bind (comp Go.Proofs.Try.prog) = some A103 := by kernel_rfl
theorem r103 : compRVs Go.Proofs.Try.prog Go.Proofs.Try.f103.results.toList = some [] := by kernel_rfl
theorem n103 : (Go.Proofs.Try.f103.name == "runtime.NumGoroutine") = false := by decide +kernel
def E103 : Nat × ACode × Nat × List RV := (103, A103, 28, [])
theorem e103 : EntryOk Go.Proofs.Try.prog E103 := ⟨Go.Proofs.Try.f103, Go.Proofs.Try.func103, n103, a103, Go.Proofs.Try.ntmps103, r103⟩
/-! slices.swapRangeCmpFunc[int] -/
def A104 : ACode :=
 (.seq
 (.reg [
 ⟨(some 10), .mov (.k (.int .i64 0)), none⟩])
 (.block 0
 (.loop
 (.seq
 (.seq
 (.reg [
 ⟨(some 11), .mov (.t 10), none⟩,
 ⟨(some 12), .mov (.t 3), none⟩,
 ⟨(some 13), .bin .lss (.t 11) (.t 12), none⟩])
 (.cond (.t 13)
 .skip
 (.exit 0)))
 (.seq
 (.block 1
 (.regd [
 ⟨⟨(some 16), .mov (.t 0), none⟩, 0, [], false⟩,
 ⟨⟨(some 17), .mov (.t 1), none⟩, 1, [], false⟩,
 ⟨⟨(some 18), .mov (.t 10), none⟩, 2, [], false⟩,
 ⟨⟨(some 19), .bin .add (.t 17) (.t 18), none⟩, 3, [], false⟩,
 ⟨⟨(some 20), .mov (.t 0), none⟩, 4, [], false⟩,
 ⟨⟨(some 21), .mov (.t 2), none⟩, 5, [], false⟩,
 ⟨⟨(some 22), .mov (.t 10), none⟩, 6, [], false⟩,
 ⟨⟨(some 23), .bin .add (.t 21) (.t 22), none⟩, 7, [], false⟩,
 ⟨⟨(some 24), .mov (.t 0), none⟩, 8, [], false⟩,
 ⟨⟨(some 25), .mov (.t 2), none⟩, 9, [], false⟩,
 ⟨⟨(some 26), .mov (.t 10), none⟩, 10, [], false⟩,
 ⟨⟨(some 27), .bin .add (.t 25) (.t 26), none⟩, 11, [], false⟩,
 ⟨⟨(some 28), .idx 1 (.t 24) (.t 27), none⟩, 12, [], false⟩,
 ⟨⟨(some 29), .load 1 false (.t 28), none⟩, 13, [], false⟩,
 ⟨⟨(some 30), .mov (.t 0), none⟩, 14, [], false⟩,
 ⟨⟨(some 31), .mov (.t 1), none⟩, 15, [], false⟩,
 ⟨⟨(some 32), .mov (.t 10), none⟩, 16, [], false⟩,
 ⟨⟨(some 33), .bin .add (.t 31) (.t 32), none⟩, 17, [], false⟩,
 ⟨⟨(some 34), .idx 1 (.t 30) (.t 33), none⟩, 18, [], false⟩,
 ⟨⟨(some 35), .load 1 false (.t 34), none⟩, 19, [], false⟩,
 ⟨⟨(some 36), .idx 1 (.t 16) (.t 19), none⟩, 20, [], false⟩,
 ⟨⟨none, .store 1 (.t 36) (.t 29), none⟩, 21, [20, 0, 3, 1, 2, 8, 9, 10, 11, 12, 13, 19, 18, 14, 17, 15, 16], false⟩,
 ⟨⟨(some 37), .idx 1 (.t 20) (.t 23), none⟩, 22, [], true⟩,
 ⟨⟨none, .store 1 (.t 37) (.t 35), none⟩, 23, [22, 4, 7, 5, 6, 0, 1, 2, 3, 8, 9, 10, 11, 12, 13, 14, 15, 16, 17, 18, 19, 20, 21], false⟩]))
 (.reg [
 ⟨(some 14), .mov (.t 10), none⟩,
 ⟨(some 15), .bin .add (.t 14) (.k (.int .i64 1)), none⟩,
 ⟨(some 10), .mov (.t 15), none⟩]))))))
theorem a104 : Go.Proofs.Try.f104.body.bind (comp Go.Proofs.Try.prog) = some A104 := by kernel_rfl
theorem r104 : compRVs Go.Proofs.Try.prog Go.Proofs.Try.f104.results.toList = some [] := by kernel_rfl
theorem n104 : (Go.Proofs.Try.f104.name == "runtime.NumGoroutine") = false := by decide +kernel
def E104 : Nat × ACode × Nat × List RV := (104, A104, 38, [])
theorem e104 : EntryOk Go.Proofs.Try.prog E104 := ⟨Go.Proofs.Try.f104, Go.Proofs.Try.func104, n104, a104, Go.Proofs.Try.ntmps104, r104⟩
end Go.Proofs.Ytjdnbdhdpcnikaa.AI
