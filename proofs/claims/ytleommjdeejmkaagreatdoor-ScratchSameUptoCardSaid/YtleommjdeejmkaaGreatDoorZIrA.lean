/-
  Terms of the small code language for functions of the program; written by a tool of ours (ir.py).
  Conditions: none; definitions.
-/
import Derived.Test.YtleommjdeejmkaaGreatDoorZMa
set_option linter.all false

namespace Go.Proofs.YtleommjdeejmkaaGreatDoor.Zq
open Go

/-- bloomery/bloomerylaw29.fixed -/
def i5 : IFun := ⟨0, 62,
 (.seq
 (.reg false [
 ⟨some 0, .mv (.c (.bool false)), none⟩])
 (.seq
 (.seq
 (.seq
 (.reg false [
 ⟨some 5, .bsl 1 [(.c (.str [111, 117, 116, 47, 98]))], none⟩,
 ⟨some 6, .bsl 1 [(.c (.str [111, 117, 116, 47, 97]))], none⟩,
 ⟨some 7, .build [.str [], .str [], .str [], .zsl true, .zsl true, .zsl true, .zsl true] [(2, 1, (.c (.str [114, 101, 97, 100, 32, 111, 117, 116, 47, 98, 10, 119, 114, 105, 116, 101, 32, 111, 117, 116, 47, 97, 10]))), (4, 1, (.t 5)), (6, 1, (.t 6))], none⟩,
 ⟨some 8, .bsl 1 [(.c (.str [111, 117, 116, 47, 97]))], none⟩,
 ⟨some 9, .bsl 1 [(.c (.str [111, 117, 116, 47, 98]))], none⟩,
 ⟨some 10, .build [.str [], .str [], .str [], .zsl true, .zsl true, .zsl true, .zsl true] [(2, 1, (.c (.str [114, 101, 97, 100, 32, 111, 117, 116, 47, 97, 10, 119, 114, 105, 116, 101, 32, 111, 117, 116, 47, 98, 10]))), (4, 1, (.t 8)), (6, 1, (.t 9))], none⟩,
 ⟨some 11, .bsl 7 [(.t 7), (.t 10)], none⟩,
 ⟨some 12, .bsl 1 [(.c (.str [111, 117, 116, 47, 97]))], none⟩,
 ⟨some 13, .build [.zsl true, .zsl true, .zsl true, .bool false] [(1, 1, (.t 11)), (2, 1, (.t 12))], none⟩,
 ⟨some 1, .alloc [.zsl true, .zsl true, .zsl true, .bool false], none⟩,
 ⟨none, .store 4 (.t 1) (.t 13), none⟩])
 (.gh (.frz 1)))
 (.gh .pop))
 (.seq
 (.seq
 (.seq
 (.reg false [
 ⟨some 15, .loadv true 4 (.t 1), none⟩,
 ⟨some 16, .pcall (.c (.fn (.f 6) [] [])) [(.t 15)], none⟩,
 ⟨some 14, .mv (.t 16), none⟩,
 ⟨some 17, .ext (.t 14) 0, none⟩,
 ⟨some 18, .ext (.t 14) 1, none⟩,
 ⟨some 2, .alloc [.zsl true, .zsl true, .zsl true, .zsl true], none⟩,
 ⟨none, .store 4 (.t 2) (.t 17), none⟩,
 ⟨some 3, .mv (.t 18), none⟩])
 (.gh (.frz 2)))
 (.gh .pop))
 (.seq
 (.reg false [
 ⟨some 19, .loadv true 4 (.t 1), none⟩,
 ⟨some 20, .pcall (.c (.fn (.f 11) [] [])) [(.t 19), (.c (.int .i64 1))], none⟩,
 ⟨some 4, .mv (.t 20), none⟩])
 (.seq
 (.reg false [
 ⟨some 21, .mv (.t 3), none⟩,
 ⟨some 22, .bin .eql (.t 21) (.c (.int .i64 0)), none⟩,
 ⟨some 23, .mv (.t 22), none⟩,
 ⟨some 24, .fa (.t 2) 0, some (23, true)⟩,
 ⟨some 25, .loadv false 1 (.t 24), some (23, true)⟩,
 ⟨some 26, .len false (.t 25), some (23, true)⟩,
 ⟨some 27, .bin .eql (.t 26) (.c (.int .i64 2)), some (23, true)⟩,
 ⟨some 28, .pick (.t 23) (.t 27) (.c (.bool false)), none⟩,
 ⟨some 29, .mv (.t 28), none⟩,
 ⟨some 30, .fa (.t 2) 0, some (29, true)⟩,
 ⟨some 31, .loadv false 1 (.t 30), some (29, true)⟩,
 ⟨some 32, .ia 4 (.t 31) (.c (.int .i64 0)), some (29, true)⟩,
 ⟨some 33, .fa (.t 32) 0, some (29, true)⟩,
 ⟨some 34, .load false 1 (.t 33), some (29, true)⟩,
 ⟨some 35, .bin .eql (.t 34) (.c (.int .i64 3)), some (29, true)⟩,
 ⟨some 36, .pick (.t 29) (.t 35) (.c (.bool false)), none⟩,
 ⟨some 37, .mv (.t 36), none⟩,
 ⟨some 38, .fa (.t 2) 0, some (37, true)⟩,
 ⟨some 39, .loadv false 1 (.t 38), some (37, true)⟩,
 ⟨some 40, .ia 4 (.t 39) (.c (.int .i64 1)), some (37, true)⟩,
 ⟨some 41, .fa (.t 40) 0, some (37, true)⟩,
 ⟨some 42, .load false 1 (.t 41), some (37, true)⟩,
 ⟨some 43, .bin .eql (.t 42) (.c (.int .i64 3)), some (37, true)⟩,
 ⟨some 44, .pick (.t 37) (.t 43) (.c (.bool false)), none⟩,
 ⟨some 45, .mv (.t 44), none⟩,
 ⟨some 46, .mv (.t 4), some (45, true)⟩,
 ⟨some 47, .len false (.t 46), some (45, true)⟩,
 ⟨some 48, .bin .eql (.t 47) (.c (.int .i64 2)), some (45, true)⟩,
 ⟨some 49, .pick (.t 45) (.t 48) (.c (.bool false)), none⟩,
 ⟨some 50, .mv (.t 49), none⟩,
 ⟨some 51, .mv (.t 4), some (50, true)⟩,
 ⟨some 52, .ia 1 (.t 51) (.c (.int .i64 0)), some (50, true)⟩,
 ⟨some 53, .load false 1 (.t 52), some (50, true)⟩,
 ⟨some 54, .bin .eql (.t 53) (.c (.int .i64 0)), some (50, true)⟩,
 ⟨some 55, .pick (.t 50) (.t 54) (.c (.bool false)), none⟩,
 ⟨some 56, .mv (.t 55), none⟩,
 ⟨some 57, .mv (.t 4), some (56, true)⟩,
 ⟨some 58, .ia 1 (.t 57) (.c (.int .i64 1)), some (56, true)⟩,
 ⟨some 59, .load false 1 (.t 58), some (56, true)⟩,
 ⟨some 60, .bin .eql (.t 59) (.c (.int .i64 1)), some (56, true)⟩,
 ⟨some 61, .pick (.t 56) (.t 60) (.c (.bool false)), none⟩,
 ⟨some 0, .mv (.t 61), none⟩])
 .ret))))),
 [.tmp 0]⟩

/-- bloomery/scratch.Build -/
def i6 : IFun := ⟨1, 91,
 (.seq
 (.reg false [
 ⟨some 1, .boxv (.t 0), none⟩,
 ⟨some 2, .alloc [.zsl true, .zsl true, .zsl true, .zsl true], none⟩,
 ⟨some 3, .mv (.c (.int .i64 0)), none⟩])
 (.seq
 (.seq
 (.reg false [
 ⟨some 15, .loadv true 4 (.t 1), none⟩,
 ⟨some 16, .pcall (.c (.fn (.f 21) [] [])) [(.t 15)], none⟩,
 ⟨some 4, .mv (.t 16), none⟩])
 (.seq
 (.reg false [
 ⟨some 17, .mv (.t 4), none⟩,
 ⟨some 18, .bin .neq (.t 17) (.c (.int .i64 0)), none⟩])
 (.cond (.t 18)
 (.seq
 (.reg false [
 ⟨some 19, .build [.zsl true, .zsl true, .zsl true, .zsl true] [], none⟩,
 ⟨some 20, .mv (.t 4), none⟩,
 ⟨none, .store 4 (.t 2) (.t 19), none⟩,
 ⟨some 3, .mv (.t 20), none⟩])
 .ret)
 .skip)))
 (.seq
 (.reg false [
 ⟨some 21, .loadv true 4 (.t 1), none⟩,
 ⟨some 22, .call (.c (.fn (.f 22) [] [])) [(.t 21)], none⟩,
 ⟨some 5, .mv (.t 22), none⟩])
 (.seq
 (.reg false [
 ⟨some 23, .fa (.t 1) 1, none⟩,
 ⟨some 24, .loadv false 1 (.t 23), none⟩,
 ⟨some 25, .len false (.t 24), none⟩,
 ⟨some 26, .mksl [.int .i64 0, .int .i64 0, .zsl true, .zsl true] 64 (.t 25) (.t 25), none⟩,
 ⟨some 27, .build [.zsl true, .zsl true, .zsl true, .zsl true] [(0, 1, (.t 26))], none⟩,
 ⟨some 6, .alloc [.zsl true, .zsl true, .zsl true, .zsl true], none⟩,
 ⟨none, .store 4 (.t 6) (.t 27), none⟩])
 (.seq
 (.reg false [
 ⟨some 28, .fa (.t 1) 2, none⟩,
 ⟨some 29, .loadv false 1 (.t 28), none⟩,
 ⟨some 30, .pcall (.c (.fn (.f 23) [] [])) [(.t 29)], none⟩,
 ⟨some 7, .mv (.t 30), none⟩])
 (.seq
 (.reg false [
 ⟨some 31, .mv (.t 7), none⟩,
 ⟨some 32, .pcall (.c (.fn (.f 24) [] [])) [(.t 31)], none⟩])
 (.seq
 (.seq
 (.reg false [
 ⟨some 33, .mv (.t 7), none⟩,
 ⟨some 34, .pcall (.c (.fn (.f 25) [] [])) [(.t 33)], none⟩,
 ⟨some 35, .len false (.t 34), none⟩,
 ⟨some 36, .mv (.c (.int .i64 0)), none⟩])
 (.blk 0
 (.seq (.gh (.clr 120259084390)) (.loop (.seq
 (.seq
 (.reg false [
 ⟨some 37, .bin .lss (.t 36) (.t 35), none⟩])
 (.seq
 (.cond (.t 37)
 .skip
 (.exit 0))
 (.seq
 (.blk 1
 (.seq
 (.reg false [
 ⟨some 38, .ia 1 (.t 34) (.t 36), none⟩,
 ⟨some 39, .load false 1 (.t 38), none⟩,
 ⟨some 9, .mv (.t 39), none⟩])
 (.seq
 (.seq
 (.reg false [
 ⟨some 41, .mv (.t 5), none⟩,
 ⟨some 42, .mv (.t 9), none⟩,
 ⟨some 43, .call (.c (.fn (.f 26) [] [])) [(.t 41), (.t 42)], none⟩,
 ⟨some 40, .mv (.t 43), none⟩,
 ⟨some 44, .ext (.t 40) 0, none⟩,
 ⟨some 45, .ext (.t 40) 1, none⟩,
 ⟨some 10, .alloc [.str [], .bool false, .str []], none⟩,
 ⟨none, .store 3 (.t 10) (.t 44), none⟩,
 ⟨some 11, .mv (.t 45), none⟩])
 (.gh (.frz 10)))
 (.seq
 (.reg false [
 ⟨some 46, .mv (.t 11), none⟩,
 ⟨some 47, .bin .eql (.t 46) (.c (.int .i64 1)), none⟩,
 ⟨some 48, .mv (.t 47), none⟩,
 ⟨some 49, .fa (.t 10) 1, some (48, true)⟩,
 ⟨some 50, .loadv false 1 (.t 49), some (48, true)⟩,
 ⟨some 51, .pick (.t 48) (.t 50) (.c (.bool false)), none⟩])
 (.cond (.t 51)
 (.reg false [
 ⟨some 52, .fa (.t 6) 3, none⟩,
 ⟨some 53, .load false 1 (.t 52), none⟩,
 ⟨some 54, .mv (.t 9), none⟩,
 ⟨some 55, .fa (.t 10) 2, none⟩,
 ⟨some 56, .loadv false 1 (.t 55), none⟩,
 ⟨some 57, .build [.str [], .str []] [(0, 1, (.t 54)), (1, 1, (.t 56))], none⟩,
 ⟨some 58, .bsl 2 [(.t 57)], none⟩,
 ⟨some 59, .app 2 32 (.t 53) (.t 58), none⟩,
 ⟨some 60, .fa (.t 6) 3, none⟩,
 ⟨none, .store 1 (.t 60) (.t 59), none⟩])
 .skip)))))
 (.reg false [
 ⟨some 61, .bin .add (.t 36) (.c (.int .i64 1)), none⟩,
 ⟨some 36, .mv (.t 61), none⟩]))))
 (.gh (.clr 120259084390)))))))
 (.seq
 (.seq
 (.reg false [
 ⟨some 62, .fa (.t 1) 1, none⟩,
 ⟨some 63, .loadv false 1 (.t 62), none⟩,
 ⟨some 64, .len false (.t 63), none⟩,
 ⟨some 65, .mv (.c (.int .i64 0)), none⟩])
 (.blk 2
 (.seq (.gh (.clr 55340232221128654948)) (.loop (.seq
 (.seq
 (.reg false [
 ⟨some 66, .bin .lss (.t 65) (.t 64), none⟩])
 (.seq
 (.cond (.t 66)
 .skip
 (.exit 2))
 (.seq
 (.blk 3
 (.seq
 (.reg false [
 ⟨some 67, .mv (.t 65), none⟩,
 ⟨some 12, .mv (.t 67), none⟩])
 (.seq
 (.seq
 (.seq
 (.reg false [
 ⟨some 69, .mv (.t 5), none⟩,
 ⟨some 70, .nchk (.t 69), none⟩,
 ⟨some 71, .fa (.t 70) 4, none⟩,
 ⟨some 72, .load false 1 (.t 71), none⟩,
 ⟨some 73, .mv (.t 12), none⟩,
 ⟨some 74, .look false [1] (.t 72) (.t 73) (.agg [.int .i64 0, .int .i64 0, .zsl true, .zsl true]) true, none⟩,
 ⟨some 68, .mv (.t 74), none⟩,
 ⟨some 75, .ext (.t 68) 0, none⟩,
 ⟨some 76, .ext (.t 68) 1, none⟩,
 ⟨some 13, .alloc [.int .i64 0, .int .i64 0, .zsl true, .zsl true], none⟩,
 ⟨none, .store 4 (.t 13) (.t 75), none⟩,
 ⟨some 14, .mv (.t 76), none⟩])
 (.gh (.frz 13)))
 (.gh .pop))
 (.seq
 (.reg false [
 ⟨some 77, .mv (.t 14), none⟩])
 (.cond (.t 77)
 (.seq
 (.reg false [
 ⟨some 78, .fa (.t 6) 0, none⟩,
 ⟨some 79, .load false 1 (.t 78), none⟩,
 ⟨some 80, .mv (.t 12), none⟩,
 ⟨some 81, .loadv true 4 (.t 13), none⟩,
 ⟨some 82, .ia 4 (.t 79) (.t 80), none⟩,
 ⟨none, .store 4 (.t 82) (.t 81), none⟩])
 (.reg false [
 ⟨some 83, .fa (.t 6) 1, none⟩,
 ⟨some 84, .load false 1 (.t 83), none⟩,
 ⟨some 85, .mv (.t 12), none⟩,
 ⟨some 86, .bsl 1 [(.t 85)], none⟩,
 ⟨some 87, .app 1 8 (.t 84) (.t 86), none⟩,
 ⟨some 88, .fa (.t 6) 1, none⟩,
 ⟨none, .store 1 (.t 88) (.t 87), none⟩]))
 .skip)))))
 (.reg false [
 ⟨some 89, .bin .add (.t 65) (.c (.int .i64 1)), none⟩,
 ⟨some 65, .mv (.t 89), none⟩]))))
 (.gh (.clr 55340232221128654948)))))))
 (.seq
 (.reg false [
 ⟨some 90, .load true 4 (.t 6), none⟩,
 ⟨none, .store 4 (.t 2) (.t 90), none⟩,
 ⟨some 3, .mv (.c (.int .i64 0)), none⟩])
 .ret))))))))),
 [.cell 2 true 4, .tmp 3]⟩

/-- bloomery/bloomeryref29.SameFiles -/
def i7 : IFun := ⟨2, 26,
 (.seq
 (.reg false [
 ⟨some 4, .mv (.c (.bool false)), none⟩])
 (.seq
 (.seq
 (.reg false [
 ⟨some 6, .mv (.t 0), none⟩,
 ⟨some 7, .len false (.t 6), none⟩,
 ⟨some 8, .mv (.t 1), none⟩,
 ⟨some 9, .len false (.t 8), none⟩,
 ⟨some 10, .bin .neq (.t 7) (.t 9), none⟩])
 (.cond (.t 10)
 (.seq
 (.reg false [
 ⟨some 4, .mv (.c (.bool false)), none⟩])
 .ret)
 .skip))
 (.seq
 (.seq
 (.reg false [
 ⟨some 5, .mv (.c (.int .i64 0)), none⟩])
 (.blk 0
 (.seq (.gh (.clr 35)) (.loop (.seq
 (.seq
 (.seq
 (.reg false [
 ⟨some 11, .mv (.t 5), none⟩,
 ⟨some 12, .mv (.t 0), none⟩,
 ⟨some 13, .len false (.t 12), none⟩,
 ⟨some 14, .bin .lss (.t 11) (.t 13), none⟩])
 (.cond (.t 14)
 .skip
 (.exit 0)))
 (.seq
 (.blk 1
 (.seq
 (.reg true [
 ⟨some 17, .mv (.t 0), none⟩,
 ⟨some 18, .mv (.t 5), none⟩,
 ⟨some 19, .ia 2 (.t 17) (.t 18), none⟩,
 ⟨some 20, .load true 2 (.t 19), none⟩,
 ⟨some 21, .mv (.t 1), none⟩,
 ⟨some 22, .mv (.t 5), none⟩,
 ⟨some 23, .ia 2 (.t 21) (.t 22), none⟩,
 ⟨some 24, .load true 2 (.t 23), none⟩,
 ⟨some 25, .aeq [2, 2] true (.t 20) (.t 24), none⟩])
 (.cond (.t 25)
 (.seq
 (.reg false [
 ⟨some 4, .mv (.c (.bool false)), none⟩])
 .ret)
 .skip)))
 (.reg false [
 ⟨some 15, .mv (.t 5), none⟩,
 ⟨some 16, .bin .add (.t 15) (.c (.int .i64 1)), none⟩,
 ⟨some 5, .mv (.t 16), none⟩])))
 (.gh (.clr 35)))))))
 (.seq
 (.reg false [
 ⟨some 4, .mv (.c (.bool true)), none⟩])
 .ret)))),
 [.tmp 4]⟩

/-- bloomery/bloomeryref29.Same -/
def i8 : IFun := ⟨2, 37,
 (.seq
 (.reg false [
 ⟨some 2, .boxv (.t 0), none⟩,
 ⟨some 3, .boxv (.t 1), none⟩,
 ⟨some 4, .mv (.c (.bool false)), none⟩])
 (.seq
 (.seq
 (.reg false [
 ⟨some 6, .fa (.t 2) 0, none⟩,
 ⟨some 7, .loadv false 1 (.t 6), none⟩,
 ⟨some 8, .len false (.t 7), none⟩,
 ⟨some 9, .fa (.t 3) 0, none⟩,
 ⟨some 10, .loadv false 1 (.t 9), none⟩,
 ⟨some 11, .len false (.t 10), none⟩,
 ⟨some 12, .bin .neq (.t 8) (.t 11), none⟩])
 (.cond (.t 12)
 (.seq
 (.reg false [
 ⟨some 4, .mv (.c (.bool false)), none⟩])
 .ret)
 .skip))
 (.seq
 (.seq
 (.reg false [
 ⟨some 5, .mv (.c (.int .i64 0)), none⟩])
 (.blk 0
 (.seq (.gh (.clr 44)) (.loop (.seq
 (.seq
 (.seq
 (.reg false [
 ⟨some 13, .mv (.t 5), none⟩,
 ⟨some 14, .fa (.t 2) 0, none⟩,
 ⟨some 15, .loadv false 1 (.t 14), none⟩,
 ⟨some 16, .len false (.t 15), none⟩,
 ⟨some 17, .bin .lss (.t 13) (.t 16), none⟩])
 (.cond (.t 17)
 .skip
 (.exit 0)))
 (.seq
 (.blk 1
 (.seq
 (.reg true [
 ⟨some 20, .fa (.t 2) 0, none⟩,
 ⟨some 21, .loadv false 1 (.t 20), none⟩,
 ⟨some 22, .mv (.t 5), none⟩,
 ⟨some 23, .ia 4 (.t 21) (.t 22), none⟩,
 ⟨some 24, .load true 4 (.t 23), none⟩,
 ⟨some 25, .fa (.t 3) 0, none⟩,
 ⟨some 26, .loadv false 1 (.t 25), none⟩,
 ⟨some 27, .mv (.t 5), none⟩,
 ⟨some 28, .ia 4 (.t 26) (.t 27), none⟩,
 ⟨some 29, .load true 4 (.t 28), none⟩,
 ⟨some 30, .pcall (.c (.fn (.f 27) [] [])) [(.t 24), (.t 29)], none⟩,
 ⟨some 31, .un .not (.t 30), none⟩])
 (.cond (.t 31)
 (.seq
 (.reg false [
 ⟨some 4, .mv (.c (.bool false)), none⟩])
 .ret)
 .skip)))
 (.reg false [
 ⟨some 18, .mv (.t 5), none⟩,
 ⟨some 19, .bin .add (.t 18) (.c (.int .i64 1)), none⟩,
 ⟨some 5, .mv (.t 19), none⟩])))
 (.gh (.clr 44)))))))
 (.seq
 (.reg false [
 ⟨some 32, .fa (.t 2) 3, none⟩,
 ⟨some 33, .loadv false 1 (.t 32), none⟩,
 ⟨some 34, .fa (.t 3) 3, none⟩,
 ⟨some 35, .loadv false 1 (.t 34), none⟩,
 ⟨some 36, .pcall (.c (.fn (.f 7) [] [])) [(.t 33), (.t 35)], none⟩,
 ⟨some 4, .mv (.t 36), none⟩])
 .ret)))),
 [.tmp 4]⟩

/-- bloomery/scratch.Ring -/
def i11 : IFun := ⟨2, 67,
 (.seq
 (.reg false [
 ⟨some 2, .boxv (.t 0), none⟩,
 ⟨some 4, .mv (.c (.zsl true)), none⟩])
 (.seq
 (.seq
 (.reg false [
 ⟨some 9, .loadv true 4 (.t 2), none⟩,
 ⟨some 10, .pcall (.c (.fn (.f 21) [] [])) [(.t 9)], none⟩,
 ⟨some 11, .bin .neq (.t 10) (.c (.int .i64 0)), none⟩,
 ⟨some 12, .mv (.t 11), none⟩,
 ⟨some 13, .mv (.t 1), some (12, false)⟩,
 ⟨some 14, .bin .lss (.t 13) (.c (.int .i64 0)), some (12, false)⟩,
 ⟨some 15, .pick (.t 12) (.c (.bool true)) (.t 14), none⟩,
 ⟨some 16, .mv (.t 15), none⟩,
 ⟨some 17, .mv (.t 1), some (16, false)⟩,
 ⟨some 18, .fa (.t 2) 1, some (16, false)⟩,
 ⟨some 19, .loadv false 1 (.t 18), some (16, false)⟩,
 ⟨some 20, .len false (.t 19), some (16, false)⟩,
 ⟨some 21, .bin .geq (.t 17) (.t 20), some (16, false)⟩,
 ⟨some 22, .pick (.t 16) (.c (.bool true)) (.t 21), none⟩])
 (.cond (.t 22)
 (.seq
 (.reg false [
 ⟨some 4, .mv (.c (.zsl true)), none⟩])
 .ret)
 .skip))
 (.seq
 (.reg false [
 ⟨some 23, .loadv true 4 (.t 2), none⟩,
 ⟨some 24, .call (.c (.fn (.f 22) [] [])) [(.t 23)], none⟩,
 ⟨some 5, .mv (.t 24), none⟩])
 (.seq
 (.seq
 (.reg false [
 ⟨some 25, .mv (.t 5), none⟩,
 ⟨some 26, .mv (.t 1), none⟩,
 ⟨some 27, .call (.c (.fn (.f 28) [] [])) [(.t 25), (.t 26)], none⟩,
 ⟨some 28, .fld (.t 27) 0 1 false, none⟩,
 ⟨some 29, .bin .neq (.t 28) (.c (.int .i64 3)), none⟩])
 (.cond (.t 29)
 (.seq
 (.reg false [
 ⟨some 4, .mv (.c (.zsl true)), none⟩])
 .ret)
 .skip))
 (.seq
 (.reg false [
 ⟨some 6, .mv (.c (.zsl true)), none⟩])
 (.seq
 (.blk 0
 (.seq (.gh (.clr 102)) (.loop (.seq
 (.seq
 (.seq
 (.reg false [
 ⟨some 30, .mv (.t 6), none⟩,
 ⟨some 31, .mv (.t 1), none⟩,
 ⟨some 32, .scall (.c (.fn (.f 29) [] [])) [(.t 30), (.t 31)], none⟩,
 ⟨some 33, .un .not (.t 32), none⟩])
 (.cond (.t 33)
 .skip
 (.exit 0)))
 (.blk 1
 (.seq
 (.reg false [
 ⟨some 34, .mv (.t 6), none⟩,
 ⟨some 35, .mv (.t 1), none⟩,
 ⟨some 36, .bsl 1 [(.t 35)], none⟩,
 ⟨some 37, .app 1 8 (.t 34) (.t 36), none⟩,
 ⟨some 6, .mv (.t 37), none⟩])
 (.reg true [
 ⟨some 39, .fa (.t 2) 1, none⟩,
 ⟨some 40, .loadv false 1 (.t 39), none⟩,
 ⟨some 41, .mv (.t 5), none⟩,
 ⟨some 42, .nchk (.t 41), none⟩,
 ⟨some 43, .fa (.t 42) 6, none⟩,
 ⟨some 44, .load false 1 (.t 43), none⟩,
 ⟨some 45, .mv (.t 1), none⟩,
 ⟨some 46, .look false [1] (.t 44) (.t 45) (.str []) false, none⟩,
 ⟨some 47, .pcall (.c (.fn (.f 30) [] [])) [(.t 40), (.t 46)], none⟩,
 ⟨some 38, .mv (.t 47), none⟩,
 ⟨some 48, .ext (.t 38) 0, none⟩,
 ⟨some 49, .ext (.t 38) 1, none⟩,
 ⟨some 1, .mv (.t 48), none⟩]))))
 (.gh (.clr 102))))))
 (.seq
 (.seq
 (.reg false [
 ⟨some 50, .mv (.t 6), none⟩,
 ⟨some 51, .mv (.t 6), none⟩,
 ⟨some 52, .mv (.t 1), none⟩,
 ⟨some 53, .scall (.c (.fn (.f 31) [] [])) [(.t 51), (.t 52)], none⟩,
 ⟨some 54, .slv 1 (.t 50) (some (.t 53)) none none, none⟩,
 ⟨some 7, .mv (.t 54), none⟩])
 (.gh (.frz 7)))
 (.seq
 (.reg false [
 ⟨some 55, .mv (.t 7), none⟩,
 ⟨some 56, .mv (.t 7), none⟩,
 ⟨some 57, .pcall (.c (.fn (.f 32) [] [])) [(.t 56)], none⟩,
 ⟨some 58, .pcall (.c (.fn (.f 31) [] [])) [(.t 55), (.t 57)], none⟩,
 ⟨some 8, .mv (.t 58), none⟩])
 (.seq
 (.reg true [
 ⟨some 59, .mv (.t 7), none⟩,
 ⟨some 60, .mv (.t 8), none⟩,
 ⟨some 61, .slv 1 (.t 59) (some (.t 60)) none none, none⟩,
 ⟨some 62, .mv (.t 7), none⟩,
 ⟨some 63, .mv (.t 8), none⟩,
 ⟨some 64, .slv 1 (.t 62) none (some (.t 63)) none, none⟩,
 ⟨some 65, .bsl 1 [(.t 61), (.t 64)], none⟩,
 ⟨some 66, .pcall (.c (.fn (.f 33) [] [])) [(.t 65)], none⟩,
 ⟨some 4, .mv (.t 66), none⟩])
 .ret))))))))),
 [.tmp 4]⟩

/-- bloomery/bloomerylaw29.ScratchSame -/
def i13 : IFun := ⟨2, 70,
 (.seq
 (.reg false [
 ⟨some 2, .boxv (.t 0), none⟩,
 ⟨some 3, .boxv (.t 1), none⟩,
 ⟨some 4, .mv (.c (.bool false)), none⟩])
 (.seq
 (.seq
 (.reg false [
 ⟨some 10, .loadv true 4 (.t 2), none⟩,
 ⟨some 11, .loadv true 4 (.t 3), none⟩,
 ⟨some 12, .bsl 4 [(.t 10), (.t 11)], none⟩,
 ⟨some 13, .len false (.t 12), none⟩,
 ⟨some 14, .mv (.c (.int .i64 0)), none⟩])
 (.blk 0
 (.seq (.gh (.clr 28684)) (.loop (.seq
 (.seq
 (.reg false [
 ⟨some 15, .bin .lss (.t 14) (.t 13), none⟩])
 (.seq
 (.cond (.t 15)
 .skip
 (.exit 0))
 (.seq
 (.blk 1
 (.seq
 (.seq
 (.seq
 (.reg false [
 ⟨some 16, .ia 4 (.t 12) (.t 14), none⟩,
 ⟨some 17, .load true 4 (.t 16), none⟩,
 ⟨some 6, .alloc [.zsl true, .zsl true, .zsl true, .zsl true], none⟩,
 ⟨none, .store 4 (.t 6) (.t 17), none⟩])
 (.gh (.frz 6)))
 (.gh .pop))
 (.seq
 (.reg false [
 ⟨some 18, .fa (.t 6) 0, none⟩,
 ⟨some 19, .loadv false 1 (.t 18), none⟩,
 ⟨some 20, .len false (.t 19), none⟩,
 ⟨some 21, .fa (.t 6) 3, none⟩,
 ⟨some 22, .loadv false 1 (.t 21), none⟩,
 ⟨some 23, .len false (.t 22), none⟩,
 ⟨some 24, .bin .add (.t 20) (.t 23), none⟩,
 ⟨some 7, .mv (.t 24), none⟩])
 (.seq
 (.seq
 (.reg false [
 ⟨some 25, .fa (.t 6) 0, none⟩,
 ⟨some 26, .loadv false 1 (.t 25), none⟩,
 ⟨some 27, .len false (.t 26), none⟩,
 ⟨some 28, .mv (.c (.int .i64 0)), none⟩])
 (.blk 2
 (.seq (.gh (.clr 469790860)) (.loop (.seq
 (.seq
 (.reg false [
 ⟨some 29, .bin .lss (.t 28) (.t 27), none⟩])
 (.seq
 (.cond (.t 29)
 .skip
 (.exit 2))
 (.seq
 (.blk 3
 (.seq
 (.seq
 (.seq
 (.reg false [
 ⟨some 30, .ia 4 (.t 26) (.t 28), none⟩,
 ⟨some 31, .load true 4 (.t 30), none⟩,
 ⟨some 9, .alloc [.int .i64 0, .int .i64 0, .zsl true, .zsl true], none⟩,
 ⟨none, .store 4 (.t 9) (.t 31), none⟩])
 (.gh (.frz 9)))
 (.gh .pop))
 (.reg false [
 ⟨some 32, .mv (.t 7), none⟩,
 ⟨some 33, .fa (.t 9) 2, none⟩,
 ⟨some 34, .loadv false 1 (.t 33), none⟩,
 ⟨some 35, .len false (.t 34), none⟩,
 ⟨some 36, .fa (.t 9) 3, none⟩,
 ⟨some 37, .loadv false 1 (.t 36), none⟩,
 ⟨some 38, .len false (.t 37), none⟩,
 ⟨some 39, .bin .add (.t 35) (.t 38), none⟩,
 ⟨some 40, .bin .add (.t 32) (.t 39), none⟩,
 ⟨some 7, .mv (.t 40), none⟩])))
 (.reg false [
 ⟨some 41, .bin .add (.t 28) (.c (.int .i64 1)), none⟩,
 ⟨some 28, .mv (.t 41), none⟩]))))
 (.gh (.clr 469790860)))))))
 (.seq
 (.reg false [
 ⟨some 42, .mv (.t 7), none⟩,
 ⟨some 43, .bin .gtr (.t 42) (.c (.int .i64 200)), none⟩])
 (.cond (.t 43)
 (.seq
 (.reg false [
 ⟨some 44, .pcall (.c (.fn (.f 5) [] [])) [], none⟩,
 ⟨some 4, .mv (.t 44), none⟩])
 .ret)
 .skip))))))
 (.reg false [
 ⟨some 45, .bin .add (.t 14) (.c (.int .i64 1)), none⟩,
 ⟨some 14, .mv (.t 45), none⟩]))))
 (.gh (.clr 28684)))))))
 (.seq
 (.reg true [
 ⟨some 46, .pcall (.c (.fn (.f 5) [] [])) [], none⟩,
 ⟨some 47, .mv (.t 46), none⟩,
 ⟨some 48, .loadv true 4 (.t 2), some (47, true)⟩,
 ⟨some 49, .loadv true 4 (.t 3), some (47, true)⟩,
 ⟨some 50, .pcall (.c (.fn (.f 14) [] [])) [(.t 48), (.t 49)], some (47, true)⟩,
 ⟨some 51, .loadv true 4 (.t 2), some (47, true)⟩,
 ⟨some 52, .loadv true 4 (.t 3), some (47, true)⟩,
 ⟨some 53, .pcall (.c (.fn (.f 8) [] [])) [(.t 51), (.t 52)], some (47, true)⟩,
 ⟨some 54, .beq false (.t 50) (.t 53), some (47, true)⟩,
 ⟨some 55, .pick (.t 47) (.t 54) (.c (.bool false)), none⟩,
 ⟨some 56, .mv (.t 55), none⟩,
 ⟨some 57, .loadv true 4 (.t 3), some (56, true)⟩,
 ⟨some 58, .loadv true 4 (.t 2), some (56, true)⟩,
 ⟨some 59, .pcall (.c (.fn (.f 14) [] [])) [(.t 57), (.t 58)], some (56, true)⟩,
 ⟨some 60, .loadv true 4 (.t 2), some (56, true)⟩,
 ⟨some 61, .loadv true 4 (.t 3), some (56, true)⟩,
 ⟨some 62, .pcall (.c (.fn (.f 14) [] [])) [(.t 60), (.t 61)], some (56, true)⟩,
 ⟨some 63, .beq false (.t 59) (.t 62), some (56, true)⟩,
 ⟨some 64, .pick (.t 56) (.t 63) (.c (.bool false)), none⟩,
 ⟨some 65, .mv (.t 64), none⟩,
 ⟨some 66, .loadv true 4 (.t 2), some (65, true)⟩,
 ⟨some 67, .loadv true 4 (.t 2), some (65, true)⟩,
 ⟨some 68, .pcall (.c (.fn (.f 14) [] [])) [(.t 66), (.t 67)], some (65, true)⟩,
 ⟨some 69, .pick (.t 65) (.t 68) (.c (.bool false)), none⟩,
 ⟨some 4, .mv (.t 69), none⟩])
 .ret))),
 [.tmp 4]⟩

/-- bloomery/scratch.Same -/
def i14 : IFun := ⟨2, 17,
 (.seq
 (.reg false [
 ⟨some 2, .boxv (.t 0), none⟩,
 ⟨some 3, .boxv (.t 1), none⟩,
 ⟨some 4, .mv (.c (.bool false)), none⟩])
 (.seq
 (.reg false [
 ⟨some 5, .fa (.t 2) 0, none⟩,
 ⟨some 6, .loadv false 1 (.t 5), none⟩,
 ⟨some 7, .fa (.t 3) 0, none⟩,
 ⟨some 8, .loadv false 1 (.t 7), none⟩,
 ⟨some 9, .pcall (.c (.fn (.f 34) [] [])) [(.t 6), (.t 8), (.c (.fn (.f 35) [] []))], none⟩,
 ⟨some 10, .mv (.t 9), none⟩,
 ⟨some 11, .fa (.t 2) 3, some (10, true)⟩,
 ⟨some 12, .loadv false 1 (.t 11), some (10, true)⟩,
 ⟨some 13, .fa (.t 3) 3, some (10, true)⟩,
 ⟨some 14, .loadv false 1 (.t 13), some (10, true)⟩,
 ⟨some 15, .pcall (.c (.fn (.f 36) [] [])) [(.t 12), (.t 14)], some (10, true)⟩,
 ⟨some 16, .pick (.t 10) (.t 15) (.c (.bool false)), none⟩,
 ⟨some 4, .mv (.t 16), none⟩])
 .ret)),
 [.tmp 4]⟩

/-- bloomery/once.Check -/
def i21 : IFun := ⟨1, 38,
 (.seq
 (.reg false [
 ⟨some 1, .boxv (.t 0), none⟩,
 ⟨some 2, .mv (.c (.int .i64 0)), none⟩])
 (.seq
 (.seq
 (.reg false [
 ⟨some 8, .fa (.t 1) 0, none⟩,
 ⟨some 9, .loadv false 1 (.t 8), none⟩,
 ⟨some 10, .pcall (.c (.fn (.f 46) [] [])) [(.t 9)], none⟩,
 ⟨some 3, .mv (.t 10), none⟩])
 (.seq
 (.reg false [
 ⟨some 11, .mv (.t 3), none⟩,
 ⟨some 12, .bin .neq (.t 11) (.c (.int .i64 0)), none⟩])
 (.cond (.t 12)
 (.seq
 (.reg false [
 ⟨some 13, .mv (.t 3), none⟩,
 ⟨some 2, .mv (.t 13), none⟩])
 .ret)
 .skip)))
 (.seq
 (.seq
 (.reg false [
 ⟨some 15, .fa (.t 1) 1, none⟩,
 ⟨some 16, .loadv false 1 (.t 15), none⟩,
 ⟨some 17, .pcall (.c (.fn (.f 47) [] [])) [(.t 16)], none⟩,
 ⟨some 14, .mv (.t 17), none⟩,
 ⟨some 18, .ext (.t 14) 0, none⟩,
 ⟨some 19, .ext (.t 14) 1, none⟩,
 ⟨some 4, .mv (.t 18), none⟩,
 ⟨some 5, .mv (.t 19), none⟩])
 (.seq
 (.reg false [
 ⟨some 20, .mv (.t 4), none⟩,
 ⟨some 21, .bin .neq (.t 20) (.c (.int .i64 0)), none⟩])
 (.cond (.t 21)
 (.seq
 (.reg false [
 ⟨some 22, .mv (.t 4), none⟩,
 ⟨some 2, .mv (.t 22), none⟩])
 .ret)
 .skip)))
 (.seq
 (.seq
 (.reg false [
 ⟨some 23, .fa (.t 1) 2, none⟩,
 ⟨some 24, .loadv false 1 (.t 23), none⟩,
 ⟨some 25, .len false (.t 24), none⟩,
 ⟨some 26, .bin .gtr (.t 25) (.c (.int .i64 1000)), none⟩])
 (.cond (.t 26)
 (.seq
 (.reg false [
 ⟨some 2, .mv (.c (.int .i64 6)), none⟩])
 .ret)
 .skip))
 (.seq
 (.seq
 (.reg false [
 ⟨some 27, .fa (.t 1) 2, none⟩,
 ⟨some 28, .loadv false 1 (.t 27), none⟩,
 ⟨some 29, .len false (.t 28), none⟩,
 ⟨some 30, .mv (.c (.int .i64 0)), none⟩])
 (.blk 0
 (.seq (.gh (.clr 1879048192)) (.loop (.seq
 (.seq
 (.reg false [
 ⟨some 31, .bin .lss (.t 30) (.t 29), none⟩])
 (.seq
 (.cond (.t 31)
 .skip
 (.exit 0))
 (.seq
 (.blk 1
 (.seq
 (.reg false [
 ⟨some 32, .ia 1 (.t 28) (.t 30), none⟩,
 ⟨some 33, .load false 1 (.t 32), none⟩,
 ⟨some 7, .mv (.t 33), none⟩])
 (.seq
 (.reg false [
 ⟨some 34, .mv (.t 7), none⟩,
 ⟨some 35, .pcall (.c (.fn (.f 48) [] [])) [(.t 34)], none⟩,
 ⟨some 36, .un .not (.t 35), none⟩])
 (.cond (.t 36)
 (.seq
 (.reg false [
 ⟨some 2, .mv (.c (.int .i64 1)), none⟩])
 .ret)
 .skip))))
 (.reg false [
 ⟨some 37, .bin .add (.t 30) (.c (.int .i64 1)), none⟩,
 ⟨some 30, .mv (.t 37), none⟩]))))
 (.gh (.clr 1879048192)))))))
 (.seq
 (.reg false [
 ⟨some 2, .mv (.c (.int .i64 0)), none⟩])
 .ret)))))),
 [.tmp 2]⟩

/-- bloomery/scratch.begin -/
def i22 : IFun := ⟨1, 9,
 (.seq
 (.reg false [
 ⟨some 1, .boxv (.t 0), none⟩,
 ⟨some 2, .mv (.c (.nilp)), none⟩])
 (.seq
 (.reg false [
 ⟨some 3, .loadv true 4 (.t 1), none⟩,
 ⟨some 4, .mkmap, none⟩,
 ⟨some 5, .mkmap, none⟩,
 ⟨some 6, .mkmap, none⟩,
 ⟨some 7, .build [.zsl true, .zsl true, .zsl true, .bool false, .nilm, .nilm, .nilm] [(0, 4, (.t 3)), (4, 1, (.t 4)), (5, 1, (.t 5)), (6, 1, (.t 6))], none⟩,
 ⟨some 8, .boxr (.t 7), none⟩,
 ⟨some 2, .mv (.t 8), none⟩])
 .ret)),
 [.tmp 2]⟩

/-- slices.Clone[[]string,string] -/
def i23 : IFun := ⟨1, 8,
 (.seq
 (.reg false [
 ⟨some 2, .mv (.c (.zsl true)), none⟩])
 (.seq
 (.seq
 (.reg false [
 ⟨some 3, .mv (.t 0), none⟩,
 ⟨some 4, .nileq 4 false (.t 3), none⟩])
 (.cond (.t 4)
 (.seq
 (.reg false [
 ⟨some 2, .mv (.c (.zsl true)), none⟩])
 .ret)
 .skip))
 (.seq
 (.reg false [
 ⟨some 5, .bsl 1 [], none⟩,
 ⟨some 6, .mv (.t 0), none⟩,
 ⟨some 7, .app 1 16 (.t 5) (.t 6), none⟩,
 ⟨some 2, .mv (.t 7), none⟩])
 .ret))),
 [.tmp 2]⟩

/-- slices.Sort[[]string,string] -/
def i24 : IFun := ⟨1, 11,
 (.seq
 (.reg false [
 ⟨some 3, .mv (.t 0), none⟩,
 ⟨some 4, .len false (.t 3), none⟩,
 ⟨some 2, .mv (.t 4), none⟩])
 (.reg false [
 ⟨some 5, .mv (.t 0), none⟩,
 ⟨some 6, .mv (.t 2), none⟩,
 ⟨some 7, .mv (.t 2), none⟩,
 ⟨some 8, .conv .u64 (.t 7), none⟩,
 ⟨some 9, .pcall (.c (.fn (.f 49) [] [])) [(.t 8)], none⟩,
 ⟨some 10, .pcall (.c (.fn (.f 50) [] [])) [(.t 5), (.c (.int .i64 0)), (.t 6), (.t 9)], none⟩])),
 []⟩

/-- slices.Compact[[]string,string] -/
def i25 : IFun := ⟨1, 61,
 (.seq
 (.reg false [
 ⟨some 2, .mv (.c (.zsl true)), none⟩])
 (.seq
 (.seq
 (.reg false [
 ⟨some 6, .mv (.t 0), none⟩,
 ⟨some 7, .len false (.t 6), none⟩,
 ⟨some 8, .bin .lss (.t 7) (.c (.int .i64 2)), none⟩])
 (.cond (.t 8)
 (.seq
 (.reg false [
 ⟨some 9, .mv (.t 0), none⟩,
 ⟨some 2, .mv (.t 9), none⟩])
 .ret)
 .skip))
 (.seq
 (.seq
 (.reg false [
 ⟨some 3, .mv (.c (.int .i64 1)), none⟩])
 (.blk 0
 (.seq (.gh (.clr 9)) (.loop (.seq
 (.seq
 (.seq
 (.reg false [
 ⟨some 10, .mv (.t 3), none⟩,
 ⟨some 11, .mv (.t 0), none⟩,
 ⟨some 12, .len false (.t 11), none⟩,
 ⟨some 13, .bin .lss (.t 10) (.t 12), none⟩])
 (.cond (.t 13)
 .skip
 (.exit 0)))
 (.seq
 (.blk 1
 (.seq
 (.reg true [
 ⟨some 16, .mv (.t 0), none⟩,
 ⟨some 17, .mv (.t 3), none⟩,
 ⟨some 18, .ia 1 (.t 16) (.t 17), none⟩,
 ⟨some 19, .load false 1 (.t 18), none⟩,
 ⟨some 20, .mv (.t 0), none⟩,
 ⟨some 21, .mv (.t 3), none⟩,
 ⟨some 22, .bin .sub (.t 21) (.c (.int .i64 1)), none⟩,
 ⟨some 23, .ia 1 (.t 20) (.t 22), none⟩,
 ⟨some 24, .load false 1 (.t 23), none⟩,
 ⟨some 25, .bin .eql (.t 19) (.t 24), none⟩])
 (.cond (.t 25)
 (.seq
 (.reg false [
 ⟨some 26, .mv (.t 0), none⟩,
 ⟨some 27, .mv (.t 3), none⟩,
 ⟨some 28, .slv 1 (.t 26) (some (.t 27)) none none, none⟩,
 ⟨some 4, .mv (.t 28), none⟩])
 (.seq
 (.seq
 (.reg false [
 ⟨some 5, .mv (.c (.int .i64 1)), none⟩])
 (.blk 2
 (.seq (.gh (.clr 57)) (.loop (.seq
 (.seq
 (.seq
 (.reg false [
 ⟨some 29, .mv (.t 5), none⟩,
 ⟨some 30, .mv (.t 4), none⟩,
 ⟨some 31, .len false (.t 30), none⟩,
 ⟨some 32, .bin .lss (.t 29) (.t 31), none⟩])
 (.cond (.t 32)
 .skip
 (.exit 2)))
 (.seq
 (.blk 3
 (.seq
 (.reg true [
 ⟨some 35, .mv (.t 4), none⟩,
 ⟨some 36, .mv (.t 5), none⟩,
 ⟨some 37, .ia 1 (.t 35) (.t 36), none⟩,
 ⟨some 38, .load false 1 (.t 37), none⟩,
 ⟨some 39, .mv (.t 4), none⟩,
 ⟨some 40, .mv (.t 5), none⟩,
 ⟨some 41, .bin .sub (.t 40) (.c (.int .i64 1)), none⟩,
 ⟨some 42, .ia 1 (.t 39) (.t 41), none⟩,
 ⟨some 43, .load false 1 (.t 42), none⟩,
 ⟨some 44, .bin .neq (.t 38) (.t 43), none⟩])
 (.cond (.t 44)
 (.seq
 (.reg false [
 ⟨some 45, .mv (.t 0), none⟩,
 ⟨some 46, .mv (.t 3), none⟩,
 ⟨some 47, .mv (.t 4), none⟩,
 ⟨some 48, .mv (.t 5), none⟩,
 ⟨some 49, .ia 1 (.t 47) (.t 48), none⟩,
 ⟨some 50, .load false 1 (.t 49), none⟩,
 ⟨some 51, .ia 1 (.t 45) (.t 46), none⟩,
 ⟨none, .store 1 (.t 51) (.t 50), none⟩])
 (.reg false [
 ⟨some 52, .mv (.t 3), none⟩,
 ⟨some 53, .bin .add (.t 52) (.c (.int .i64 1)), none⟩,
 ⟨some 3, .mv (.t 53), none⟩]))
 .skip)))
 (.reg false [
 ⟨some 33, .mv (.t 5), none⟩,
 ⟨some 34, .bin .add (.t 33) (.c (.int .i64 1)), none⟩,
 ⟨some 5, .mv (.t 34), none⟩])))
 (.gh (.clr 57)))))))
 (.seq
 .never
 (.seq
 (.reg false [
 ⟨some 57, .mv (.t 0), none⟩,
 ⟨some 58, .mv (.t 3), none⟩,
 ⟨some 59, .slv 1 (.t 57) none (some (.t 58)) none, none⟩,
 ⟨some 2, .mv (.t 59), none⟩])
 .ret))))
 .skip)))
 (.reg false [
 ⟨some 14, .mv (.t 3), none⟩,
 ⟨some 15, .bin .add (.t 14) (.c (.int .i64 1)), none⟩,
 ⟨some 3, .mv (.t 15), none⟩])))
 (.gh (.clr 9)))))))
 (.seq
 (.reg false [
 ⟨some 60, .mv (.t 0), none⟩,
 ⟨some 2, .mv (.t 60), none⟩])
 .ret)))),
 [.tmp 2]⟩

/-- (*bloomery/scratch.builder).comes -/
def i26 : IFun := ⟨2, 58,
 (.seq
 (.reg false [
 ⟨some 4, .alloc [.str [], .bool false, .str []], none⟩,
 ⟨some 5, .mv (.c (.int .i64 0)), none⟩])
 (.seq
 (.reg false [
 ⟨some 13, .mv (.t 0), none⟩,
 ⟨some 14, .nchk (.t 13), none⟩,
 ⟨some 15, .fa (.t 14) 0, none⟩,
 ⟨some 16, .fa (.t 15) 1, none⟩,
 ⟨some 17, .load false 1 (.t 16), none⟩,
 ⟨some 18, .mv (.t 1), none⟩,
 ⟨some 19, .pcall (.c (.fn (.f 30) [] [])) [(.t 17), (.t 18)], none⟩,
 ⟨some 12, .mv (.t 19), none⟩,
 ⟨some 20, .ext (.t 12) 0, none⟩,
 ⟨some 21, .ext (.t 12) 1, none⟩,
 ⟨some 6, .mv (.t 20), none⟩,
 ⟨some 7, .mv (.t 21), none⟩])
 (.seq
 (.reg false [
 ⟨some 22, .mv (.t 0), none⟩,
 ⟨some 23, .nchk (.t 22), none⟩,
 ⟨some 24, .fa (.t 23) 0, none⟩,
 ⟨some 25, .fa (.t 24) 0, none⟩,
 ⟨some 26, .load false 1 (.t 25), none⟩,
 ⟨some 8, .mv (.t 26), none⟩])
 (.seq
 (.seq
 (.reg false [
 ⟨some 27, .mv (.t 7), none⟩])
 (.cond (.t 27)
 (.seq
 (.seq
 (.reg false [
 ⟨some 28, .mv (.t 0), none⟩,
 ⟨some 29, .nchk (.t 28), none⟩,
 ⟨some 30, .fa (.t 29) 5, none⟩,
 ⟨some 31, .load false 1 (.t 30), none⟩,
 ⟨some 32, .mv (.t 6), none⟩,
 ⟨some 33, .look false [1] (.t 31) (.t 32) (.bool false) false, none⟩])
 (.cond (.t 33)
 (.seq
 (.reg false [
 ⟨some 34, .mv (.t 1), none⟩,
 ⟨some 35, .build [.str [], .bool false, .str []] [(0, 1, (.t 34))], none⟩,
 ⟨none, .store 3 (.t 4) (.t 35), none⟩,
 ⟨some 5, .mv (.c (.int .i64 3)), none⟩])
 .ret)
 .skip))
 (.seq
 (.seq
 (.reg false [
 ⟨some 36, .mv (.t 0), none⟩,
 ⟨some 37, .mv (.t 6), none⟩,
 ⟨some 38, .call (.c (.fn (.f 28) [] [])) [(.t 36), (.t 37)], none⟩,
 ⟨some 9, .alloc [.int .i64 0, .int .i64 0, .zsl true, .zsl true], none⟩,
 ⟨none, .store 4 (.t 9) (.t 38), none⟩])
 (.gh (.frz 9)))
 (.seq
 (.seq
 (.reg false [
 ⟨some 39, .fa (.t 9) 0, none⟩,
 ⟨some 40, .loadv false 1 (.t 39), none⟩,
 ⟨some 41, .bin .neq (.t 40) (.c (.int .i64 1)), none⟩])
 (.cond (.t 41)
 (.seq
 (.reg true [
 ⟨some 42, .mv (.t 1), none⟩,
 ⟨some 43, .build [.str [], .bool false, .str []] [(0, 1, (.t 42))], none⟩,
 ⟨some 44, .fa (.t 9) 0, none⟩,
 ⟨some 45, .loadv false 1 (.t 44), none⟩,
 ⟨none, .store 3 (.t 4) (.t 43), none⟩,
 ⟨some 5, .mv (.t 45), none⟩])
 .ret)
 .skip))
 (.reg false [
 ⟨some 46, .fa (.t 9) 2, none⟩,
 ⟨some 47, .loadv false 1 (.t 46), none⟩,
 ⟨some 8, .mv (.t 47), none⟩]))))
 .skip))
 (.seq
 (.reg false [
 ⟨some 49, .mv (.t 8), none⟩,
 ⟨some 50, .mv (.t 1), none⟩,
 ⟨some 51, .pcall (.c (.fn (.f 51) [] [])) [(.t 49), (.t 50)], none⟩,
 ⟨some 48, .mv (.t 51), none⟩,
 ⟨some 52, .ext (.t 48) 0, none⟩,
 ⟨some 53, .ext (.t 48) 1, none⟩,
 ⟨some 10, .mv (.t 52), none⟩,
 ⟨some 11, .mv (.t 53), none⟩])
 (.seq
 (.reg false [
 ⟨some 54, .mv (.t 1), none⟩,
 ⟨some 55, .mv (.t 11), none⟩,
 ⟨some 56, .mv (.t 10), none⟩,
 ⟨some 57, .build [.str [], .bool false, .str []] [(0, 1, (.t 54)), (1, 1, (.t 55)), (2, 1, (.t 56))], none⟩,
 ⟨none, .store 3 (.t 4) (.t 57), none⟩,
 ⟨some 5, .mv (.c (.int .i64 1)), none⟩])
 .ret)))))),
 [.cell 4 true 3, .tmp 5]⟩

/-- bloomery/bloomeryref29.outcome -/
def i27 : IFun := ⟨2, 50,
 (.seq
 (.reg false [
 ⟨some 2, .boxv (.t 0), none⟩,
 ⟨some 3, .boxv (.t 1), none⟩,
 ⟨some 4, .mv (.c (.bool false)), none⟩])
 (.seq
 (.seq
 (.reg false [
 ⟨some 6, .fa (.t 2) 0, none⟩,
 ⟨some 7, .loadv false 1 (.t 6), none⟩,
 ⟨some 8, .fa (.t 3) 0, none⟩,
 ⟨some 9, .loadv false 1 (.t 8), none⟩,
 ⟨some 10, .bin .neq (.t 7) (.t 9), none⟩,
 ⟨some 11, .mv (.t 10), none⟩,
 ⟨some 12, .fa (.t 2) 1, some (11, false)⟩,
 ⟨some 13, .loadv false 1 (.t 12), some (11, false)⟩,
 ⟨some 14, .fa (.t 3) 1, some (11, false)⟩,
 ⟨some 15, .loadv false 1 (.t 14), some (11, false)⟩,
 ⟨some 16, .bin .neq (.t 13) (.t 15), some (11, false)⟩,
 ⟨some 17, .pick (.t 11) (.c (.bool true)) (.t 16), none⟩,
 ⟨some 18, .mv (.t 17), none⟩,
 ⟨some 19, .fa (.t 2) 3, some (18, false)⟩,
 ⟨some 20, .loadv false 1 (.t 19), some (18, false)⟩,
 ⟨some 21, .len false (.t 20), some (18, false)⟩,
 ⟨some 22, .fa (.t 3) 3, some (18, false)⟩,
 ⟨some 23, .loadv false 1 (.t 22), some (18, false)⟩,
 ⟨some 24, .len false (.t 23), some (18, false)⟩,
 ⟨some 25, .bin .neq (.t 21) (.t 24), some (18, false)⟩,
 ⟨some 26, .pick (.t 18) (.c (.bool true)) (.t 25), none⟩])
 (.cond (.t 26)
 (.seq
 (.reg false [
 ⟨some 4, .mv (.c (.bool false)), none⟩])
 .ret)
 .skip))
 (.seq
 (.seq
 (.reg false [
 ⟨some 5, .mv (.c (.int .i64 0)), none⟩])
 (.blk 0
 (.seq (.gh (.clr 44)) (.loop (.seq
 (.seq
 (.seq
 (.reg false [
 ⟨some 27, .mv (.t 5), none⟩,
 ⟨some 28, .fa (.t 2) 3, none⟩,
 ⟨some 29, .loadv false 1 (.t 28), none⟩,
 ⟨some 30, .len false (.t 29), none⟩,
 ⟨some 31, .bin .lss (.t 27) (.t 30), none⟩])
 (.cond (.t 31)
 .skip
 (.exit 0)))
 (.seq
 (.blk 1
 (.seq
 (.reg true [
 ⟨some 34, .fa (.t 2) 3, none⟩,
 ⟨some 35, .loadv false 1 (.t 34), none⟩,
 ⟨some 36, .mv (.t 5), none⟩,
 ⟨some 37, .ia 34 (.t 35) (.t 36), none⟩,
 ⟨some 38, .load true 34 (.t 37), none⟩,
 ⟨some 39, .fa (.t 3) 3, none⟩,
 ⟨some 40, .loadv false 1 (.t 39), none⟩,
 ⟨some 41, .mv (.t 5), none⟩,
 ⟨some 42, .ia 34 (.t 40) (.t 41), none⟩,
 ⟨some 43, .load true 34 (.t 42), none⟩,
 ⟨some 44, .aeq [2, 0, 1, 1, 1, 1, 1, 1, 1, 1, 1, 1, 1, 1, 1, 1, 1, 1, 1, 1, 1, 1, 1, 1, 1, 1, 1, 1, 1, 1, 1, 1, 1, 1] true (.t 38) (.t 43), none⟩])
 (.cond (.t 44)
 (.seq
 (.reg false [
 ⟨some 4, .mv (.c (.bool false)), none⟩])
 .ret)
 .skip)))
 (.reg false [
 ⟨some 32, .mv (.t 5), none⟩,
 ⟨some 33, .bin .add (.t 32) (.c (.int .i64 1)), none⟩,
 ⟨some 5, .mv (.t 33), none⟩])))
 (.gh (.clr 44)))))))
 (.seq
 (.reg false [
 ⟨some 45, .fa (.t 2) 2, none⟩,
 ⟨some 46, .loadv false 1 (.t 45), none⟩,
 ⟨some 47, .fa (.t 3) 2, none⟩,
 ⟨some 48, .loadv false 1 (.t 47), none⟩,
 ⟨some 49, .pcall (.c (.fn (.f 7) [] [])) [(.t 46), (.t 48)], none⟩,
 ⟨some 4, .mv (.t 49), none⟩])
 .ret)))),
 [.tmp 4]⟩

/-- (*bloomery/scratch.builder).bring -/
def i28 : IFun := ⟨2, 96,
 (.seq
 (.reg false [
 ⟨some 4, .alloc [.int .i64 0, .int .i64 0, .zsl true, .zsl true], none⟩])
 (.scope
 (.seq
 (.seq
 (.seq
 (.reg false [
 ⟨some 16, .mv (.t 0), none⟩,
 ⟨some 17, .nchk (.t 16), none⟩,
 ⟨some 18, .fa (.t 17) 4, none⟩,
 ⟨some 19, .load false 1 (.t 18), none⟩,
 ⟨some 20, .mv (.t 1), none⟩,
 ⟨some 21, .look false [1] (.t 19) (.t 20) (.agg [.int .i64 0, .int .i64 0, .zsl true, .zsl true]) true, none⟩,
 ⟨some 15, .mv (.t 21), none⟩,
 ⟨some 22, .ext (.t 15) 0, none⟩,
 ⟨some 23, .ext (.t 15) 1, none⟩,
 ⟨some 5, .alloc [.int .i64 0, .int .i64 0, .zsl true, .zsl true], none⟩,
 ⟨none, .store 4 (.t 5) (.t 22), none⟩,
 ⟨some 6, .mv (.t 23), none⟩])
 (.gh (.frz 5)))
 (.seq
 (.reg false [
 ⟨some 24, .mv (.t 6), none⟩])
 (.cond (.t 24)
 (.seq
 (.reg false [
 ⟨some 25, .loadv true 4 (.t 5), none⟩,
 ⟨none, .store 4 (.t 4) (.t 25), none⟩])
 .ret)
 .skip)))
 (.seq
 (.reg false [
 ⟨some 26, .mv (.t 0), none⟩,
 ⟨some 27, .nchk (.t 26), none⟩,
 ⟨some 28, .fa (.t 27) 5, none⟩,
 ⟨some 29, .load false 1 (.t 28), none⟩,
 ⟨some 30, .mv (.t 1), none⟩,
 ⟨none, .mset false [1] (.t 29) (.t 30) (.c (.bool true)), none⟩])
 (.seq
 (.reg false [
 ⟨some 31, .mv (.t 0), none⟩,
 ⟨some 32, .nchk (.t 31), none⟩,
 ⟨some 33, .fa (.t 32) 5, none⟩,
 ⟨some 34, .load false 1 (.t 33), none⟩,
 ⟨some 35, .mv (.t 1), none⟩,
 ⟨none, .defdel false [1] (.t 34) (.t 35), none⟩])
 (.seq
 (.reg false [
 ⟨some 37, .mv (.t 0), none⟩,
 ⟨some 38, .nchk (.t 37), none⟩,
 ⟨some 39, .fa (.t 38) 0, none⟩,
 ⟨some 40, .fa (.t 39) 1, none⟩,
 ⟨some 41, .load false 1 (.t 40), none⟩,
 ⟨some 42, .mv (.t 1), none⟩,
 ⟨some 43, .ia 7 (.t 41) (.t 42), none⟩,
 ⟨some 44, .load true 7 (.t 43), none⟩,
 ⟨some 45, .call (.c (.fn (.f 52) [] [])) [(.t 44)], none⟩,
 ⟨some 36, .mv (.t 45), none⟩,
 ⟨some 46, .ext (.t 36) 0, none⟩,
 ⟨some 47, .ext (.t 36) 1, none⟩,
 ⟨some 7, .mv (.t 46), none⟩,
 ⟨some 8, .mv (.t 47), none⟩])
 (.seq
 (.reg false [
 ⟨some 9, .alloc [.int .i64 0, .int .i64 0, .zsl true, .zsl true], none⟩])
 (.seq
 (.reg false [
 ⟨some 10, .mv (.c (.zsl true)), none⟩])
 (.seq
 .skip
 (.seq
 (.blk 0
 (.seq (.gh (.clr 1683)) (.loop (.seq
 (.blk 1
 (.seq
 (.reg false [
 ⟨some 49, .mv (.t 7), none⟩,
 ⟨some 50, .call (.c (.fn (.f 53) [] [])) [(.t 49)], none⟩,
 ⟨some 48, .mv (.t 50), none⟩,
 ⟨some 51, .ext (.t 48) 0, none⟩,
 ⟨some 52, .ext (.t 48) 1, none⟩,
 ⟨some 11, .mv (.t 51), none⟩,
 ⟨some 12, .mv (.t 52), none⟩])
 (.seq
 (.seq
 (.reg false [
 ⟨some 53, .mv (.t 12), none⟩,
 ⟨some 54, .un .not (.t 53), none⟩])
 (.cond (.t 54)
 (.seq
 (.reg false [
 ⟨some 56, .mv (.t 7), none⟩,
 ⟨some 57, .call (.c (.fn (.f 54) [] [])) [(.t 56)], none⟩,
 ⟨some 55, .mv (.t 57), none⟩,
 ⟨some 58, .ext (.t 55) 0, none⟩,
 ⟨some 59, .ext (.t 55) 1, none⟩,
 ⟨none, .store 4 (.t 9) (.t 58), none⟩])
 (.exit 0))
 .skip))
 (.seq
 (.seq
 (.reg false [
 ⟨some 61, .mv (.t 0), none⟩,
 ⟨some 62, .mv (.t 11), none⟩,
 ⟨some 63, .call (.c (.fn (.f 26) [] [])) [(.t 61), (.t 62)], none⟩,
 ⟨some 60, .mv (.t 63), none⟩,
 ⟨some 64, .ext (.t 60) 0, none⟩,
 ⟨some 65, .ext (.t 60) 1, none⟩,
 ⟨some 13, .alloc [.str [], .bool false, .str []], none⟩,
 ⟨none, .store 3 (.t 13) (.t 64), none⟩,
 ⟨some 14, .mv (.t 65), none⟩])
 (.gh (.frz 13)))
 (.seq
 (.seq
 (.reg false [
 ⟨some 66, .mv (.t 14), none⟩])
 (.blk 2
 (.seq
 (.reg false [
 ⟨some 68, .bin .eql (.t 66) (.c (.int .i64 2)), none⟩,
 ⟨some 67, .mv (.t 68), none⟩])
 (.cond (.t 67)
 (.seq
 (.reg false [
 ⟨some 69, .mv (.t 10), none⟩,
 ⟨some 70, .build [.int .i64 0, .int .i64 0, .zsl true, .zsl true] [(0, 1, (.c (.int .i64 2))), (1, 1, (.c (.int .i64 16))), (3, 1, (.t 69))], none⟩,
 ⟨none, .store 4 (.t 9) (.t 70), none⟩])
 (.exit 0))
 (.seq
 (.reg false [
 ⟨some 72, .bin .eql (.t 66) (.c (.int .i64 3)), none⟩,
 ⟨some 71, .mv (.t 72), none⟩])
 (.cond (.t 71)
 (.seq
 (.reg false [
 ⟨some 73, .mv (.t 10), none⟩,
 ⟨some 74, .build [.int .i64 0, .int .i64 0, .zsl true, .zsl true] [(0, 1, (.c (.int .i64 3))), (1, 1, (.c (.int .i64 11))), (3, 1, (.t 73))], none⟩,
 ⟨none, .store 4 (.t 9) (.t 74), none⟩])
 (.seq
 (.reg false [
 ⟨some 75, .mv (.t 0), none⟩,
 ⟨some 76, .nchk (.t 75), none⟩,
 ⟨some 77, .fa (.t 76) 6, none⟩,
 ⟨some 78, .load false 1 (.t 77), none⟩,
 ⟨some 79, .mv (.t 1), none⟩,
 ⟨some 80, .mv (.t 11), none⟩,
 ⟨none, .mset false [1] (.t 78) (.t 79) (.t 80), none⟩])
 (.exit 0)))
 .skip))))))
 (.seq
 (.reg false [
 ⟨some 81, .mv (.t 10), none⟩,
 ⟨some 82, .loadv true 3 (.t 13), none⟩,
 ⟨some 83, .pcall (.c (.fn (.f 55) [] [])) [(.t 82)], none⟩,
 ⟨some 84, .bsl 34 [(.t 83)], none⟩,
 ⟨some 85, .app 34 56 (.t 81) (.t 84), none⟩,
 ⟨some 10, .mv (.t 85), none⟩])
 (.reg false [
 ⟨some 86, .mv (.t 7), none⟩,
 ⟨some 87, .loadv true 3 (.t 13), none⟩,
 ⟨some 88, .call (.c (.fn (.f 56) [] [])) [(.t 86), (.t 87)], none⟩])))))))
 (.gh (.clr 1683))))))
 (.seq
 (.reg true [
 ⟨some 89, .mv (.t 0), none⟩,
 ⟨some 90, .nchk (.t 89), none⟩,
 ⟨some 91, .fa (.t 90) 4, none⟩,
 ⟨some 92, .load false 1 (.t 91), none⟩,
 ⟨some 93, .mv (.t 1), none⟩,
 ⟨some 94, .load true 4 (.t 9), none⟩,
 ⟨none, .mset false [1] (.t 92) (.t 93) (.t 94), none⟩])
 (.seq
 (.reg false [
 ⟨some 95, .load true 4 (.t 9), none⟩,
 ⟨none, .store 4 (.t 4) (.t 95), none⟩])
 .ret)))))))))))),
 [.cell 4 true 4]⟩

/-- slices.Contains[[]int,int] -/
def i29 : IFun := ⟨2, 9,
 (.seq
 (.reg false [
 ⟨some 4, .mv (.c (.bool false)), none⟩])
 (.seq
 (.reg false [
 ⟨some 5, .mv (.t 0), none⟩,
 ⟨some 6, .mv (.t 1), none⟩,
 ⟨some 7, .pcall (.c (.fn (.f 31) [] [])) [(.t 5), (.t 6)], none⟩,
 ⟨some 8, .bin .geq (.t 7) (.c (.int .i64 0)), none⟩,
 ⟨some 4, .mv (.t 8), none⟩])
 .ret)),
 [.tmp 4]⟩

/-- bloomery/analyse.Maker -/
def i30 : IFun := ⟨2, 14,
 (.seq
 (.reg false [
 ⟨some 3, .boxv (.t 1), none⟩,
 ⟨some 4, .mv (.c (.int .i64 0)), none⟩,
 ⟨some 5, .mv (.c (.bool false)), none⟩])
 (.seq
 (.reg false [
 ⟨some 7, .mv (.t 0), none⟩,
 ⟨some 8, .mkfn 57 [] [(.t 3)], none⟩,
 ⟨some 9, .pcall (.c (.fn (.f 58) [] [])) [(.t 7), (.t 8)], none⟩,
 ⟨some 6, .mv (.t 9), none⟩])
 (.seq
 (.reg false [
 ⟨some 10, .mv (.t 6), none⟩,
 ⟨some 11, .max2 (.t 10) (.c (.int .i64 0)), none⟩,
 ⟨some 12, .mv (.t 6), none⟩,
 ⟨some 13, .bin .geq (.t 12) (.c (.int .i64 0)), none⟩,
 ⟨some 4, .mv (.t 11), none⟩,
 ⟨some 5, .mv (.t 13), none⟩])
 .ret))),
 [.tmp 4, .tmp 5]⟩

/-- slices.Index[[]int,int] -/
def i31 : IFun := ⟨2, 19,
 (.seq
 (.reg false [
 ⟨some 4, .mv (.c (.int .i64 0)), none⟩])
 (.seq
 (.seq
 (.reg false [
 ⟨some 6, .mv (.t 0), none⟩,
 ⟨some 7, .len false (.t 6), none⟩,
 ⟨some 8, .mv (.c (.int .i64 0)), none⟩])
 (.blk 0
 (.seq (.gh (.clr 387)) (.loop (.seq
 (.seq
 (.reg false [
 ⟨some 9, .bin .lss (.t 8) (.t 7), none⟩])
 (.seq
 (.cond (.t 9)
 .skip
 (.exit 0))
 (.seq
 (.blk 1
 (.seq
 (.reg false [
 ⟨some 10, .mv (.t 8), none⟩,
 ⟨some 5, .mv (.t 10), none⟩])
 (.seq
 (.reg false [
 ⟨some 11, .mv (.t 1), none⟩,
 ⟨some 12, .mv (.t 0), none⟩,
 ⟨some 13, .mv (.t 5), none⟩,
 ⟨some 14, .ia 1 (.t 12) (.t 13), none⟩,
 ⟨some 15, .load false 1 (.t 14), none⟩,
 ⟨some 16, .bin .eql (.t 11) (.t 15), none⟩])
 (.cond (.t 16)
 (.seq
 (.reg false [
 ⟨some 17, .mv (.t 5), none⟩,
 ⟨some 4, .mv (.t 17), none⟩])
 .ret)
 .skip))))
 (.reg false [
 ⟨some 18, .bin .add (.t 8) (.c (.int .i64 1)), none⟩,
 ⟨some 8, .mv (.t 18), none⟩]))))
 (.gh (.clr 387)))))))
 (.seq
 (.reg false [
 ⟨some 4, .mv (.c (.int .i64 (-1))), none⟩])
 .ret))),
 [.tmp 4]⟩

/-- slices.Min[[]int,int] -/
def i32 : IFun := ⟨1, 25,
 (.seq
 (.reg false [
 ⟨some 2, .mv (.c (.int .i64 0)), none⟩])
 (.seq
 (.seq
 (.reg false [
 ⟨some 5, .mv (.t 0), none⟩,
 ⟨some 6, .len false (.t 5), none⟩,
 ⟨some 7, .bin .lss (.t 6) (.c (.int .i64 1)), none⟩])
 (.cond (.t 7)
 .never
 .skip))
 (.seq
 (.reg false [
 ⟨some 9, .mv (.t 0), none⟩,
 ⟨some 10, .ia 1 (.t 9) (.c (.int .i64 0)), none⟩,
 ⟨some 11, .load false 1 (.t 10), none⟩,
 ⟨some 3, .mv (.t 11), none⟩])
 (.seq
 (.seq
 (.reg false [
 ⟨some 4, .mv (.c (.int .i64 1)), none⟩])
 (.blk 0
 (.seq (.gh (.clr 25)) (.loop (.seq
 (.seq
 (.seq
 (.reg false [
 ⟨some 12, .mv (.t 4), none⟩,
 ⟨some 13, .mv (.t 0), none⟩,
 ⟨some 14, .len false (.t 13), none⟩,
 ⟨some 15, .bin .lss (.t 12) (.t 14), none⟩])
 (.cond (.t 15)
 .skip
 (.exit 0)))
 (.seq
 (.blk 1
 (.reg false [
 ⟨some 18, .mv (.t 3), none⟩,
 ⟨some 19, .mv (.t 0), none⟩,
 ⟨some 20, .mv (.t 4), none⟩,
 ⟨some 21, .ia 1 (.t 19) (.t 20), none⟩,
 ⟨some 22, .load false 1 (.t 21), none⟩,
 ⟨some 23, .min2 (.t 18) (.t 22), none⟩,
 ⟨some 3, .mv (.t 23), none⟩]))
 (.reg false [
 ⟨some 16, .mv (.t 4), none⟩,
 ⟨some 17, .bin .add (.t 16) (.c (.int .i64 1)), none⟩,
 ⟨some 4, .mv (.t 17), none⟩])))
 (.gh (.clr 25)))))))
 (.seq
 (.reg false [
 ⟨some 24, .mv (.t 3), none⟩,
 ⟨some 2, .mv (.t 24), none⟩])
 .ret))))),
 [.tmp 2]⟩

/-- slices.Concat[[]int,int] -/
def i33 : IFun := ⟨1, 36,
 (.seq
 (.reg false [
 ⟨some 2, .mv (.c (.zsl true)), none⟩])
 (.seq
 (.reg false [
 ⟨some 3, .mv (.c (.int .i64 0)), none⟩])
 (.seq
 (.seq
 (.reg false [
 ⟨some 9, .mv (.t 0), none⟩,
 ⟨some 10, .len false (.t 9), none⟩,
 ⟨some 11, .mv (.c (.int .i64 0)), none⟩])
 (.blk 0
 (.seq (.gh (.clr 3593)) (.loop (.seq
 (.seq
 (.reg false [
 ⟨some 12, .bin .lss (.t 11) (.t 10), none⟩])
 (.seq
 (.cond (.t 12)
 .skip
 (.exit 0))
 (.seq
 (.blk 1
 (.seq
 (.reg false [
 ⟨some 13, .ia 1 (.t 9) (.t 11), none⟩,
 ⟨some 14, .load false 1 (.t 13), none⟩,
 ⟨some 5, .mv (.t 14), none⟩])
 (.seq
 (.reg false [
 ⟨some 15, .mv (.t 3), none⟩,
 ⟨some 16, .mv (.t 5), none⟩,
 ⟨some 17, .len false (.t 16), none⟩,
 ⟨some 18, .bin .add (.t 15) (.t 17), none⟩,
 ⟨some 3, .mv (.t 18), none⟩])
 (.seq
 (.reg false [
 ⟨some 19, .mv (.t 3), none⟩,
 ⟨some 20, .bin .lss (.t 19) (.c (.int .i64 0)), none⟩])
 (.cond (.t 20)
 .never
 .skip)))))
 (.reg false [
 ⟨some 22, .bin .add (.t 11) (.c (.int .i64 1)), none⟩,
 ⟨some 11, .mv (.t 22), none⟩]))))
 (.gh (.clr 3593)))))))
 (.seq
 (.reg false [
 ⟨some 23, .mv (.t 3), none⟩,
 ⟨some 24, .call (.c (.fn (.f 94) [] [])) [(.c (.zsl true)), (.t 23)], none⟩,
 ⟨some 6, .mv (.t 24), none⟩])
 (.seq
 (.seq
 (.reg false [
 ⟨some 25, .mv (.t 0), none⟩,
 ⟨some 26, .len false (.t 25), none⟩,
 ⟨some 27, .mv (.c (.int .i64 0)), none⟩])
 (.blk 2
 (.seq (.gh (.clr 234881088)) (.loop (.seq
 (.seq
 (.reg false [
 ⟨some 28, .bin .lss (.t 27) (.t 26), none⟩])
 (.seq
 (.cond (.t 28)
 .skip
 (.exit 2))
 (.seq
 (.blk 3
 (.seq
 (.reg false [
 ⟨some 29, .ia 1 (.t 25) (.t 27), none⟩,
 ⟨some 30, .load false 1 (.t 29), none⟩,
 ⟨some 8, .mv (.t 30), none⟩])
 (.reg false [
 ⟨some 31, .mv (.t 6), none⟩,
 ⟨some 32, .mv (.t 8), none⟩,
 ⟨some 33, .app 1 8 (.t 31) (.t 32), none⟩,
 ⟨some 6, .mv (.t 33), none⟩])))
 (.reg false [
 ⟨some 34, .bin .add (.t 27) (.c (.int .i64 1)), none⟩,
 ⟨some 27, .mv (.t 34), none⟩]))))
 (.gh (.clr 234881088)))))))
 (.seq
 (.reg false [
 ⟨some 35, .mv (.t 6), none⟩,
 ⟨some 2, .mv (.t 35), none⟩])
 .ret)))))),
 [.tmp 2]⟩

/-- slices.EqualFunc[[]bloomery/api.Outcome,[]bloomery/api.Outcome,bloomery/api.Outcome,bloomery/api.Outcome] -/
def i34 : IFun := ⟨3, 32,
 (.seq
 (.reg false [
 ⟨some 6, .mv (.c (.bool false)), none⟩])
 (.seq
 (.seq
 (.reg false [
 ⟨some 10, .mv (.t 0), none⟩,
 ⟨some 11, .len false (.t 10), none⟩,
 ⟨some 12, .mv (.t 1), none⟩,
 ⟨some 13, .len false (.t 12), none⟩,
 ⟨some 14, .bin .neq (.t 11) (.t 13), none⟩])
 (.cond (.t 14)
 (.seq
 (.reg false [
 ⟨some 6, .mv (.c (.bool false)), none⟩])
 .ret)
 .skip))
 (.seq
 (.seq
 (.reg false [
 ⟨some 15, .mv (.t 0), none⟩,
 ⟨some 16, .len false (.t 15), none⟩,
 ⟨some 17, .mv (.c (.int .i64 0)), none⟩])
 (.blk 0
 (.seq (.gh (.clr 229382)) (.loop (.seq
 (.seq
 (.reg false [
 ⟨some 18, .bin .lss (.t 17) (.t 16), none⟩])
 (.seq
 (.cond (.t 18)
 .skip
 (.exit 0))
 (.seq
 (.blk 1
 (.seq
 (.seq
 (.seq
 (.reg false [
 ⟨some 19, .mv (.t 17), none⟩,
 ⟨some 20, .ia 4 (.t 15) (.t 17), none⟩,
 ⟨some 21, .load true 4 (.t 20), none⟩,
 ⟨some 8, .alloc [.int .i64 0, .int .i64 0, .zsl true, .zsl true], none⟩,
 ⟨some 7, .mv (.t 19), none⟩,
 ⟨none, .store 4 (.t 8) (.t 21), none⟩])
 (.gh (.frz 8)))
 (.gh .pop))
 (.seq
 (.seq
 (.seq
 (.reg false [
 ⟨some 22, .mv (.t 1), none⟩,
 ⟨some 23, .mv (.t 7), none⟩,
 ⟨some 24, .ia 4 (.t 22) (.t 23), none⟩,
 ⟨some 25, .load true 4 (.t 24), none⟩,
 ⟨some 9, .alloc [.int .i64 0, .int .i64 0, .zsl true, .zsl true], none⟩,
 ⟨none, .store 4 (.t 9) (.t 25), none⟩])
 (.gh (.frz 9)))
 (.gh .pop))
 (.seq
 (.reg false [
 ⟨some 26, .mv (.t 2), none⟩,
 ⟨some 27, .loadv true 4 (.t 8), none⟩,
 ⟨some 28, .loadv true 4 (.t 9), none⟩,
 ⟨some 29, .call (.t 26) [(.t 27), (.t 28)], none⟩,
 ⟨some 30, .un .not (.t 29), none⟩])
 (.cond (.t 30)
 (.seq
 (.reg false [
 ⟨some 6, .mv (.c (.bool false)), none⟩])
 .ret)
 .skip)))))
 (.reg false [
 ⟨some 31, .bin .add (.t 17) (.c (.int .i64 1)), none⟩,
 ⟨some 17, .mv (.t 31), none⟩]))))
 (.gh (.clr 229382)))))))
 (.seq
 (.reg false [
 ⟨some 6, .mv (.c (.bool true)), none⟩])
 .ret)))),
 [.tmp 6]⟩

/-- bloomery/scratch.same -/
def i35 : IFun := ⟨2, 31,
 (.seq
 (.reg false [
 ⟨some 2, .boxv (.t 0), none⟩,
 ⟨some 3, .boxv (.t 1), none⟩,
 ⟨some 4, .mv (.c (.bool false)), none⟩])
 (.seq
 (.reg false [
 ⟨some 5, .fa (.t 2) 0, none⟩,
 ⟨some 6, .loadv false 1 (.t 5), none⟩,
 ⟨some 7, .fa (.t 3) 0, none⟩,
 ⟨some 8, .loadv false 1 (.t 7), none⟩,
 ⟨some 9, .bin .eql (.t 6) (.t 8), none⟩,
 ⟨some 10, .mv (.t 9), none⟩,
 ⟨some 11, .fa (.t 2) 1, some (10, true)⟩,
 ⟨some 12, .loadv false 1 (.t 11), some (10, true)⟩,
 ⟨some 13, .fa (.t 3) 1, some (10, true)⟩,
 ⟨some 14, .loadv false 1 (.t 13), some (10, true)⟩,
 ⟨some 15, .bin .eql (.t 12) (.t 14), some (10, true)⟩,
 ⟨some 16, .pick (.t 10) (.t 15) (.c (.bool false)), none⟩,
 ⟨some 17, .mv (.t 16), none⟩,
 ⟨some 18, .fa (.t 2) 2, some (17, true)⟩,
 ⟨some 19, .loadv false 1 (.t 18), some (17, true)⟩,
 ⟨some 20, .fa (.t 3) 2, some (17, true)⟩,
 ⟨some 21, .loadv false 1 (.t 20), some (17, true)⟩,
 ⟨some 22, .pcall (.c (.fn (.f 36) [] [])) [(.t 19), (.t 21)], some (17, true)⟩,
 ⟨some 23, .pick (.t 17) (.t 22) (.c (.bool false)), none⟩,
 ⟨some 24, .mv (.t 23), none⟩,
 ⟨some 25, .fa (.t 2) 3, some (24, true)⟩,
 ⟨some 26, .loadv false 1 (.t 25), some (24, true)⟩,
 ⟨some 27, .fa (.t 3) 3, some (24, true)⟩,
 ⟨some 28, .loadv false 1 (.t 27), some (24, true)⟩,
 ⟨some 29, .pcall (.c (.fn (.f 59) [] [])) [(.t 26), (.t 28)], some (24, true)⟩,
 ⟨some 30, .pick (.t 24) (.t 29) (.c (.bool false)), none⟩,
 ⟨some 4, .mv (.t 30), none⟩])
 .ret)),
 [.tmp 4]⟩

/-- slices.Equal[[]bloomery/api.File,bloomery/api.File] -/
def i36 : IFun := ⟨2, 26,
 (.seq
 (.reg false [
 ⟨some 4, .mv (.c (.bool false)), none⟩])
 (.seq
 (.seq
 (.reg false [
 ⟨some 6, .mv (.t 0), none⟩,
 ⟨some 7, .len false (.t 6), none⟩,
 ⟨some 8, .mv (.t 1), none⟩,
 ⟨some 9, .len false (.t 8), none⟩,
 ⟨some 10, .bin .neq (.t 7) (.t 9), none⟩])
 (.cond (.t 10)
 (.seq
 (.reg false [
 ⟨some 4, .mv (.c (.bool false)), none⟩])
 .ret)
 .skip))
 (.seq
 (.seq
 (.reg false [
 ⟨some 11, .mv (.t 0), none⟩,
 ⟨some 12, .len false (.t 11), none⟩,
 ⟨some 13, .mv (.c (.int .i64 0)), none⟩])
 (.blk 0
 (.seq (.gh (.clr 12291)) (.loop (.seq
 (.seq
 (.reg false [
 ⟨some 14, .bin .lss (.t 13) (.t 12), none⟩])
 (.seq
 (.cond (.t 14)
 .skip
 (.exit 0))
 (.seq
 (.blk 1
 (.seq
 (.reg false [
 ⟨some 15, .mv (.t 13), none⟩,
 ⟨some 5, .mv (.t 15), none⟩])
 (.seq
 (.reg true [
 ⟨some 16, .mv (.t 0), none⟩,
 ⟨some 17, .mv (.t 5), none⟩,
 ⟨some 18, .ia 2 (.t 16) (.t 17), none⟩,
 ⟨some 19, .load true 2 (.t 18), none⟩,
 ⟨some 20, .mv (.t 1), none⟩,
 ⟨some 21, .mv (.t 5), none⟩,
 ⟨some 22, .ia 2 (.t 20) (.t 21), none⟩,
 ⟨some 23, .load true 2 (.t 22), none⟩,
 ⟨some 24, .aeq [2, 2] true (.t 19) (.t 23), none⟩])
 (.cond (.t 24)
 (.seq
 (.reg false [
 ⟨some 4, .mv (.c (.bool false)), none⟩])
 .ret)
 .skip))))
 (.reg false [
 ⟨some 25, .bin .add (.t 13) (.c (.int .i64 1)), none⟩,
 ⟨some 13, .mv (.t 25), none⟩]))))
 (.gh (.clr 12291)))))))
 (.seq
 (.reg false [
 ⟨some 4, .mv (.c (.bool true)), none⟩])
 .ret)))),
 [.tmp 4]⟩

/-- bloomery/tree.Check -/
def i46 : IFun := ⟨1, 28,
 (.seq
 (.reg false [
 ⟨some 2, .mv (.c (.int .i64 0)), none⟩])
 (.seq
 (.seq
 (.reg false [
 ⟨some 7, .mv (.t 0), none⟩,
 ⟨some 8, .len false (.t 7), none⟩,
 ⟨some 9, .bin .gtr (.t 8) (.c (.int .i64 1024)), none⟩])
 (.cond (.t 9)
 (.seq
 (.reg false [
 ⟨some 2, .mv (.c (.int .i64 6)), none⟩])
 .ret)
 .skip))
 (.seq
 (.reg false [
 ⟨some 3, .mv (.c (.str [])), none⟩])
 (.seq
 (.seq
 (.reg false [
 ⟨some 10, .mv (.t 0), none⟩,
 ⟨some 11, .len false (.t 10), none⟩,
 ⟨some 12, .mv (.c (.int .i64 0)), none⟩])
 (.blk 0
 (.seq (.gh (.clr 7176)) (.loop (.seq
 (.seq
 (.reg false [
 ⟨some 13, .bin .lss (.t 12) (.t 11), none⟩])
 (.seq
 (.cond (.t 13)
 .skip
 (.exit 0))
 (.seq
 (.blk 1
 (.seq
 (.seq
 (.seq
 (.reg false [
 ⟨some 14, .mv (.t 12), none⟩,
 ⟨some 15, .ia 2 (.t 10) (.t 12), none⟩,
 ⟨some 16, .load true 2 (.t 15), none⟩,
 ⟨some 5, .alloc [.str [], .str []], none⟩,
 ⟨some 4, .mv (.t 14), none⟩,
 ⟨none, .store 2 (.t 5) (.t 16), none⟩])
 (.gh (.frz 5)))
 (.gh .pop))
 (.seq
 (.seq
 (.reg false [
 ⟨some 17, .loadv true 2 (.t 5), none⟩,
 ⟨some 18, .mv (.t 3), none⟩,
 ⟨some 19, .mv (.t 4), none⟩,
 ⟨some 20, .bin .eql (.t 19) (.c (.int .i64 0)), none⟩,
 ⟨some 21, .pcall (.c (.fn (.f 66) [] [])) [(.t 17), (.t 18), (.t 20)], none⟩,
 ⟨some 6, .mv (.t 21), none⟩])
 (.seq
 (.reg false [
 ⟨some 22, .mv (.t 6), none⟩,
 ⟨some 23, .bin .neq (.t 22) (.c (.int .i64 0)), none⟩])
 (.cond (.t 23)
 (.seq
 (.reg false [
 ⟨some 24, .mv (.t 6), none⟩,
 ⟨some 2, .mv (.t 24), none⟩])
 .ret)
 .skip)))
 (.reg false [
 ⟨some 25, .fa (.t 5) 0, none⟩,
 ⟨some 26, .loadv false 1 (.t 25), none⟩,
 ⟨some 3, .mv (.t 26), none⟩]))))
 (.reg false [
 ⟨some 27, .bin .add (.t 12) (.c (.int .i64 1)), none⟩,
 ⟨some 12, .mv (.t 27), none⟩]))))
 (.gh (.clr 7176)))))))
 (.seq
 (.reg false [
 ⟨some 2, .mv (.c (.int .i64 0)), none⟩])
 .ret))))),
 [.tmp 2]⟩

/-- bloomery/analyse.Check -/
def i47 : IFun := ⟨1, 27,
 (.seq
 (.reg false [
 ⟨some 2, .mv (.c (.int .i64 0)), none⟩,
 ⟨some 3, .mv (.c (.int .i64 0)), none⟩])
 (.seq
 (.seq
 (.reg false [
 ⟨some 8, .mv (.t 0), none⟩,
 ⟨some 9, .len false (.t 8), none⟩,
 ⟨some 10, .bin .gtr (.t 9) (.c (.int .i64 500)), none⟩])
 (.cond (.t 10)
 (.seq
 (.reg false [
 ⟨some 2, .mv (.c (.int .i64 6)), none⟩,
 ⟨some 3, .mv (.c (.int .i64 0)), none⟩])
 .ret)
 .skip))
 (.seq
 (.reg false [
 ⟨some 11, .mkmap, none⟩,
 ⟨some 4, .mv (.t 11), none⟩])
 (.seq
 (.seq
 (.reg false [
 ⟨some 12, .mv (.t 0), none⟩,
 ⟨some 13, .len false (.t 12), none⟩,
 ⟨some 14, .mv (.c (.int .i64 0)), none⟩])
 (.blk 0
 (.seq (.gh (.clr 28688)) (.loop (.seq
 (.seq
 (.reg false [
 ⟨some 15, .bin .lss (.t 14) (.t 13), none⟩])
 (.seq
 (.cond (.t 15)
 .skip
 (.exit 0))
 (.seq
 (.blk 1
 (.seq
 (.seq
 (.seq
 (.reg false [
 ⟨some 16, .mv (.t 14), none⟩,
 ⟨some 17, .ia 7 (.t 12) (.t 14), none⟩,
 ⟨some 18, .load true 7 (.t 17), none⟩,
 ⟨some 6, .alloc [.str [], .str [], .str [], .zsl true, .zsl true, .zsl true, .zsl true], none⟩,
 ⟨some 5, .mv (.t 16), none⟩,
 ⟨none, .store 7 (.t 6) (.t 18), none⟩])
 (.gh (.frz 6)))
 (.gh .pop))
 (.seq
 (.reg false [
 ⟨some 19, .loadv true 7 (.t 6), none⟩,
 ⟨some 20, .mv (.t 4), none⟩,
 ⟨some 21, .call (.c (.fn (.f 67) [] [])) [(.t 19), (.t 20)], none⟩,
 ⟨some 7, .mv (.t 21), none⟩])
 (.seq
 (.reg false [
 ⟨some 22, .mv (.t 7), none⟩,
 ⟨some 23, .bin .neq (.t 22) (.c (.int .i64 0)), none⟩])
 (.cond (.t 23)
 (.seq
 (.reg false [
 ⟨some 24, .mv (.t 7), none⟩,
 ⟨some 25, .mv (.t 5), none⟩,
 ⟨some 2, .mv (.t 24), none⟩,
 ⟨some 3, .mv (.t 25), none⟩])
 .ret)
 .skip)))))
 (.reg false [
 ⟨some 26, .bin .add (.t 14) (.c (.int .i64 1)), none⟩,
 ⟨some 14, .mv (.t 26), none⟩]))))
 (.gh (.clr 28688)))))))
 (.seq
 (.reg false [
 ⟨some 2, .mv (.c (.int .i64 0)), none⟩,
 ⟨some 3, .mv (.c (.int .i64 0)), none⟩])
 .ret))))),
 [.tmp 2, .tmp 3]⟩

/-- bloomery/path.May -/
def i48 : IFun := ⟨1, 17,
 (.seq
 (.reg false [
 ⟨some 2, .alloc [.bool false], none⟩])
 (.seq
 (.reg false [
 ⟨some 3, .alloc [.int .i64 0], none⟩,
 ⟨none, .store 1 (.t 3) (.c (.int .i64 0)), none⟩])
 (.seq
 (.seq
 (.reg false [
 ⟨some 5, .mv (.t 0), none⟩,
 ⟨some 6, .call (.c (.fn (.f 68) [] [])) [(.t 5), (.c (.str [47]))], none⟩])
 (.blk 0
 (.rf (.t 6) [7]
 (.reg false [
 ⟨some 4, .mv (.t 7), none⟩])
 (.blk 1
 (.seq
 (.reg false [
 ⟨some 8, .load false 1 (.t 3), none⟩,
 ⟨some 9, .bin .add (.t 8) (.c (.int .i64 1)), none⟩,
 ⟨none, .store 1 (.t 3) (.t 9), none⟩])
 (.seq
 (.reg false [
 ⟨some 10, .load false 1 (.t 3), none⟩,
 ⟨some 11, .bin .gtr (.t 10) (.c (.int .i64 16)), none⟩,
 ⟨some 12, .mv (.t 11), none⟩,
 ⟨some 13, .mv (.t 4), some (12, false)⟩,
 ⟨some 14, .pcall (.c (.fn (.f 69) [] [])) [(.t 13)], some (12, false)⟩,
 ⟨some 15, .un .not (.t 14), some (12, false)⟩,
 ⟨some 16, .pick (.t 12) (.c (.bool true)) (.t 15), none⟩])
 (.cond (.t 16)
 (.seq
 (.reg false [
 ⟨none, .store 1 (.t 2) (.c (.bool false)), none⟩])
 .ret)
 .skip)))))))
 (.seq
 (.reg false [
 ⟨none, .store 1 (.t 2) (.c (.bool true)), none⟩])
 .ret)))),
 [.cell 2 false 1]⟩

/-- math/bits.Len -/
def i49 : IFun := ⟨1, 8,
 (.seq
 (.reg false [
 ⟨some 2, .mv (.c (.int .i64 0)), none⟩])
 (.seq
 (.cond (.c (.bool false))
 (.seq
 (.reg false [
 ⟨some 3, .mv (.t 0), none⟩,
 ⟨some 4, .conv .u32 (.t 3), none⟩,
 ⟨some 5, .pcall (.c (.fn (.f 79) [] [])) [(.t 4)], none⟩,
 ⟨some 2, .mv (.t 5), none⟩])
 .ret)
 .skip)
 (.seq
 (.reg false [
 ⟨some 6, .mv (.t 0), none⟩,
 ⟨some 7, .pcall (.c (.fn (.f 80) [] [])) [(.t 6)], none⟩,
 ⟨some 2, .mv (.t 7), none⟩])
 .ret))),
 [.tmp 2]⟩

/-- slices.pdqsortOrdered[string] -/
def i50 : IFun := ⟨4, 134,
 (.seq
 (.reg false [
 ⟨some 8, .mv (.c (.bool true)), none⟩])
 (.seq
 (.reg false [
 ⟨some 9, .mv (.c (.bool true)), none⟩])
 (.blk 0
 (.seq (.gh (.clr 783)) (.loop (.seq
 (.blk 1
 (.seq
 (.reg false [
 ⟨some 19, .mv (.t 2), none⟩,
 ⟨some 20, .mv (.t 1), none⟩,
 ⟨some 21, .bin .sub (.t 19) (.t 20), none⟩,
 ⟨some 10, .mv (.t 21), none⟩])
 (.seq
 (.seq
 (.reg false [
 ⟨some 22, .mv (.t 10), none⟩,
 ⟨some 23, .bin .leq (.t 22) (.c (.int .i64 12)), none⟩])
 (.cond (.t 23)
 (.seq
 (.reg false [
 ⟨some 24, .mv (.t 0), none⟩,
 ⟨some 25, .mv (.t 1), none⟩,
 ⟨some 26, .mv (.t 2), none⟩,
 ⟨some 27, .pcall (.c (.fn (.f 70) [] [])) [(.t 24), (.t 25), (.t 26)], none⟩])
 .ret)
 .skip))
 (.seq
 (.seq
 (.reg false [
 ⟨some 28, .mv (.t 3), none⟩,
 ⟨some 29, .bin .eql (.t 28) (.c (.int .i64 0)), none⟩])
 (.cond (.t 29)
 (.seq
 (.reg false [
 ⟨some 30, .mv (.t 0), none⟩,
 ⟨some 31, .mv (.t 1), none⟩,
 ⟨some 32, .mv (.t 2), none⟩,
 ⟨some 33, .pcall (.c (.fn (.f 71) [] [])) [(.t 30), (.t 31), (.t 32)], none⟩])
 .ret)
 .skip))
 (.seq
 (.seq
 (.reg false [
 ⟨some 34, .mv (.t 8), none⟩,
 ⟨some 35, .un .not (.t 34), none⟩])
 (.cond (.t 35)
 (.seq
 (.reg false [
 ⟨some 36, .mv (.t 0), none⟩,
 ⟨some 37, .mv (.t 1), none⟩,
 ⟨some 38, .mv (.t 2), none⟩,
 ⟨some 39, .pcall (.c (.fn (.f 72) [] [])) [(.t 36), (.t 37), (.t 38)], none⟩])
 (.reg false [
 ⟨some 40, .mv (.t 3), none⟩,
 ⟨some 41, .bin .sub (.t 40) (.c (.int .i64 1)), none⟩,
 ⟨some 3, .mv (.t 41), none⟩]))
 .skip))
 (.seq
 (.reg false [
 ⟨some 43, .mv (.t 0), none⟩,
 ⟨some 44, .mv (.t 1), none⟩,
 ⟨some 45, .mv (.t 2), none⟩,
 ⟨some 46, .pcall (.c (.fn (.f 73) [] [])) [(.t 43), (.t 44), (.t 45)], none⟩,
 ⟨some 42, .mv (.t 46), none⟩,
 ⟨some 47, .ext (.t 42) 0, none⟩,
 ⟨some 48, .ext (.t 42) 1, none⟩,
 ⟨some 11, .mv (.t 47), none⟩,
 ⟨some 12, .mv (.t 48), none⟩])
 (.seq
 (.seq
 (.reg false [
 ⟨some 49, .mv (.t 12), none⟩,
 ⟨some 50, .bin .eql (.t 49) (.c (.int .i64 2)), none⟩])
 (.cond (.t 50)
 (.seq
 (.reg false [
 ⟨some 51, .mv (.t 0), none⟩,
 ⟨some 52, .mv (.t 1), none⟩,
 ⟨some 53, .mv (.t 2), none⟩,
 ⟨some 54, .pcall (.c (.fn (.f 74) [] [])) [(.t 51), (.t 52), (.t 53)], none⟩])
 (.seq
 (.reg false [
 ⟨some 55, .mv (.t 2), none⟩,
 ⟨some 56, .bin .sub (.t 55) (.c (.int .i64 1)), none⟩,
 ⟨some 57, .mv (.t 11), none⟩,
 ⟨some 58, .mv (.t 1), none⟩,
 ⟨some 59, .bin .sub (.t 57) (.t 58), none⟩,
 ⟨some 60, .bin .sub (.t 56) (.t 59), none⟩,
 ⟨some 11, .mv (.t 60), none⟩])
 (.reg false [
 ⟨some 12, .mv (.c (.int .i64 1)), none⟩])))
 .skip))
 (.seq
 (.seq
 (.reg false [
 ⟨some 61, .mv (.t 8), none⟩,
 ⟨some 62, .mv (.t 61), none⟩,
 ⟨some 63, .mv (.t 9), some (62, true)⟩,
 ⟨some 64, .pick (.t 62) (.t 63) (.c (.bool false)), none⟩,
 ⟨some 65, .mv (.t 64), none⟩,
 ⟨some 66, .mv (.t 12), some (65, true)⟩,
 ⟨some 67, .bin .eql (.t 66) (.c (.int .i64 1)), some (65, true)⟩,
 ⟨some 68, .pick (.t 65) (.t 67) (.c (.bool false)), none⟩])
 (.cond (.t 68)
 (.seq
 (.reg false [
 ⟨some 69, .mv (.t 0), none⟩,
 ⟨some 70, .mv (.t 1), none⟩,
 ⟨some 71, .mv (.t 2), none⟩,
 ⟨some 72, .pcall (.c (.fn (.f 75) [] [])) [(.t 69), (.t 70), (.t 71)], none⟩])
 (.cond (.t 72)
 .ret
 .skip))
 .skip))
 (.seq
 (.seq
 (.reg true [
 ⟨some 73, .mv (.t 1), none⟩,
 ⟨some 74, .bin .gtr (.t 73) (.c (.int .i64 0)), none⟩,
 ⟨some 75, .mv (.t 74), none⟩,
 ⟨some 76, .mv (.t 0), some (75, true)⟩,
 ⟨some 77, .mv (.t 1), some (75, true)⟩,
 ⟨some 78, .bin .sub (.t 77) (.c (.int .i64 1)), some (75, true)⟩,
 ⟨some 79, .ia 1 (.t 76) (.t 78), some (75, true)⟩,
 ⟨some 80, .load false 1 (.t 79), some (75, true)⟩,
 ⟨some 81, .mv (.t 0), some (75, true)⟩,
 ⟨some 82, .mv (.t 11), some (75, true)⟩,
 ⟨some 83, .ia 1 (.t 81) (.t 82), some (75, true)⟩,
 ⟨some 84, .load false 1 (.t 83), some (75, true)⟩,
 ⟨some 85, .pcall (.c (.fn (.f 76) [] [])) [(.t 80), (.t 84)], some (75, true)⟩,
 ⟨some 86, .un .not (.t 85), some (75, true)⟩,
 ⟨some 87, .pick (.t 75) (.t 86) (.c (.bool false)), none⟩])
 (.cond (.t 87)
 (.seq
 (.reg false [
 ⟨some 88, .mv (.t 0), none⟩,
 ⟨some 89, .mv (.t 1), none⟩,
 ⟨some 90, .mv (.t 2), none⟩,
 ⟨some 91, .mv (.t 11), none⟩,
 ⟨some 92, .pcall (.c (.fn (.f 77) [] [])) [(.t 88), (.t 89), (.t 90), (.t 91)], none⟩,
 ⟨some 13, .mv (.t 92), none⟩])
 (.seq
 (.reg false [
 ⟨some 93, .mv (.t 13), none⟩,
 ⟨some 1, .mv (.t 93), none⟩])
 (.exit 1)))
 .skip))
 (.seq
 (.reg false [
 ⟨some 95, .mv (.t 0), none⟩,
 ⟨some 96, .mv (.t 1), none⟩,
 ⟨some 97, .mv (.t 2), none⟩,
 ⟨some 98, .mv (.t 11), none⟩,
 ⟨some 99, .pcall (.c (.fn (.f 78) [] [])) [(.t 95), (.t 96), (.t 97), (.t 98)], none⟩,
 ⟨some 94, .mv (.t 99), none⟩,
 ⟨some 100, .ext (.t 94) 0, none⟩,
 ⟨some 101, .ext (.t 94) 1, none⟩,
 ⟨some 14, .mv (.t 100), none⟩,
 ⟨some 15, .mv (.t 101), none⟩])
 (.seq
 (.reg false [
 ⟨some 102, .mv (.t 15), none⟩,
 ⟨some 9, .mv (.t 102), none⟩])
 (.seq
 (.reg false [
 ⟨some 103, .mv (.t 14), none⟩,
 ⟨some 104, .mv (.t 1), none⟩,
 ⟨some 105, .bin .sub (.t 103) (.t 104), none⟩,
 ⟨some 106, .mv (.t 2), none⟩,
 ⟨some 107, .mv (.t 14), none⟩,
 ⟨some 108, .bin .sub (.t 106) (.t 107), none⟩,
 ⟨some 16, .mv (.t 105), none⟩,
 ⟨some 17, .mv (.t 108), none⟩])
 (.seq
 (.reg false [
 ⟨some 109, .mv (.t 10), none⟩,
 ⟨some 110, .bin .quo (.t 109) (.c (.int .i64 8)), none⟩,
 ⟨some 18, .mv (.t 110), none⟩])
 (.seq
 (.reg false [
 ⟨some 111, .mv (.t 16), none⟩,
 ⟨some 112, .mv (.t 17), none⟩,
 ⟨some 113, .bin .lss (.t 111) (.t 112), none⟩])
 (.cond (.t 113)
 (.seq
 (.reg false [
 ⟨some 114, .mv (.t 16), none⟩,
 ⟨some 115, .mv (.t 18), none⟩,
 ⟨some 116, .bin .geq (.t 114) (.t 115), none⟩,
 ⟨some 8, .mv (.t 116), none⟩])
 (.seq
 (.reg false [
 ⟨some 117, .mv (.t 0), none⟩,
 ⟨some 118, .mv (.t 1), none⟩,
 ⟨some 119, .mv (.t 14), none⟩,
 ⟨some 120, .mv (.t 3), none⟩,
 ⟨some 121, .pcall (.c (.fn (.f 50) [] [])) [(.t 117), (.t 118), (.t 119), (.t 120)], none⟩])
 (.reg false [
 ⟨some 122, .mv (.t 14), none⟩,
 ⟨some 123, .bin .add (.t 122) (.c (.int .i64 1)), none⟩,
 ⟨some 1, .mv (.t 123), none⟩])))
 (.seq
 (.reg false [
 ⟨some 124, .mv (.t 17), none⟩,
 ⟨some 125, .mv (.t 18), none⟩,
 ⟨some 126, .bin .geq (.t 124) (.t 125), none⟩,
 ⟨some 8, .mv (.t 126), none⟩])
 (.seq
 (.reg false [
 ⟨some 127, .mv (.t 0), none⟩,
 ⟨some 128, .mv (.t 14), none⟩,
 ⟨some 129, .bin .add (.t 128) (.c (.int .i64 1)), none⟩,
 ⟨some 130, .mv (.t 2), none⟩,
 ⟨some 131, .mv (.t 3), none⟩,
 ⟨some 132, .pcall (.c (.fn (.f 50) [] [])) [(.t 127), (.t 129), (.t 130), (.t 131)], none⟩])
 (.reg false [
 ⟨some 133, .mv (.t 14), none⟩,
 ⟨some 2, .mv (.t 133), none⟩]))))))))))))))))))
 (.gh (.clr 783)))))))),
 []⟩

/-- bloomery/tree.Get -/
def i51 : IFun := ⟨2, 17,
 (.seq
 (.reg false [
 ⟨some 3, .boxv (.t 1), none⟩,
 ⟨some 4, .mv (.c (.str [])), none⟩,
 ⟨some 5, .mv (.c (.bool false)), none⟩])
 (.seq
 (.reg false [
 ⟨some 7, .mv (.t 0), none⟩,
 ⟨some 8, .mkfn 81 [] [(.t 3)], none⟩,
 ⟨some 9, .pcall (.c (.fn (.f 60) [] [])) [(.t 7), (.t 8)], none⟩,
 ⟨some 6, .mv (.t 9), none⟩])
 (.seq
 (.seq
 (.reg false [
 ⟨some 10, .mv (.t 6), none⟩,
 ⟨some 11, .bin .lss (.t 10) (.c (.int .i64 0)), none⟩])
 (.cond (.t 11)
 (.seq
 (.reg false [
 ⟨some 4, .mv (.c (.str [])), none⟩,
 ⟨some 5, .mv (.c (.bool false)), none⟩])
 .ret)
 .skip))
 (.seq
 (.reg false [
 ⟨some 12, .mv (.t 0), none⟩,
 ⟨some 13, .mv (.t 6), none⟩,
 ⟨some 14, .ia 2 (.t 12) (.t 13), none⟩,
 ⟨some 15, .fa (.t 14) 1, none⟩,
 ⟨some 16, .load false 1 (.t 15), none⟩,
 ⟨some 4, .mv (.t 16), none⟩,
 ⟨some 5, .mv (.c (.bool true)), none⟩])
 .ret)))),
 [.tmp 4, .tmp 5]⟩

/-- bloomery/box.New -/
def i52 : IFun := ⟨1, 31,
 (.seq
 (.reg false [
 ⟨some 1, .boxv (.t 0), none⟩,
 ⟨some 2, .mv (.c (.nilp)), none⟩,
 ⟨some 3, .mv (.c (.int .i64 0)), none⟩])
 (.seq
 (.reg true [
 ⟨some 8, .fa (.t 1) 2, none⟩,
 ⟨some 9, .loadv false 1 (.t 8), none⟩,
 ⟨some 10, .fa (.t 1) 3, none⟩,
 ⟨some 11, .loadv false 1 (.t 10), none⟩,
 ⟨some 12, .pcall (.c (.fn (.f 82) [] [])) [(.t 11)], none⟩,
 ⟨some 13, .call (.c (.fn (.f 83) [] [])) [(.t 9), (.t 12)], none⟩,
 ⟨some 7, .mv (.t 13), none⟩,
 ⟨some 14, .ext (.t 7) 0, none⟩,
 ⟨some 15, .ext (.t 7) 1, none⟩,
 ⟨some 4, .mv (.t 14), none⟩,
 ⟨some 5, .mv (.t 15), none⟩])
 (.seq
 (.seq
 (.reg false [
 ⟨some 16, .mv (.t 5), none⟩,
 ⟨some 17, .bin .neq (.t 16) (.c (.int .i64 0)), none⟩])
 (.cond (.t 17)
 (.seq
 (.reg false [
 ⟨some 18, .mv (.t 5), none⟩,
 ⟨some 2, .mv (.c (.nilp)), none⟩,
 ⟨some 3, .mv (.t 18), none⟩])
 .ret)
 .skip))
 (.seq
 (.reg true [
 ⟨some 19, .mv (.t 4), none⟩,
 ⟨some 20, .fa (.t 1) 6, none⟩,
 ⟨some 21, .loadv false 1 (.t 20), none⟩,
 ⟨some 22, .pcall (.c (.fn (.f 23) [] [])) [(.t 21)], none⟩,
 ⟨some 23, .loadv true 7 (.t 1), none⟩,
 ⟨some 24, .pcall (.c (.fn (.f 84) [] [])) [(.t 23)], none⟩,
 ⟨some 25, .mkmap, none⟩,
 ⟨some 26, .build [.nilp, .zsl true, .nilf, .nilm, .zsl true, .str [], .bool false, .int .i64 0] [(0, 1, (.t 19)), (1, 1, (.t 22)), (2, 1, (.t 24)), (3, 1, (.t 25))], none⟩,
 ⟨some 27, .boxr (.t 26), none⟩,
 ⟨some 6, .mv (.t 27), none⟩])
 (.seq
 (.reg false [
 ⟨some 28, .mv (.t 6), none⟩,
 ⟨some 29, .call (.c (.fn (.f 85) [] [])) [(.t 28)], none⟩])
 (.seq
 (.reg false [
 ⟨some 30, .mv (.t 6), none⟩,
 ⟨some 2, .mv (.t 30), none⟩,
 ⟨some 3, .mv (.c (.int .i64 0)), none⟩])
 .ret)))))),
 [.tmp 2, .tmp 3]⟩

/-- (*bloomery/box.Box).Asks -/
def i53 : IFun := ⟨1, 12,
 (.seq
 (.reg false [
 ⟨some 2, .mv (.c (.str [])), none⟩,
 ⟨some 3, .mv (.c (.bool false)), none⟩])
 (.seq
 (.seq
 (.reg false [
 ⟨some 4, .mv (.t 0), none⟩,
 ⟨some 5, .nchk (.t 4), none⟩,
 ⟨some 6, .fa (.t 5) 6, none⟩,
 ⟨some 7, .load false 1 (.t 6), none⟩])
 (.cond (.t 7)
 (.seq
 (.reg false [
 ⟨some 2, .mv (.c (.str [])), none⟩,
 ⟨some 3, .mv (.c (.bool false)), none⟩])
 .ret)
 .skip))
 (.seq
 (.reg false [
 ⟨some 8, .mv (.t 0), none⟩,
 ⟨some 9, .nchk (.t 8), none⟩,
 ⟨some 10, .fa (.t 9) 5, none⟩,
 ⟨some 11, .load false 1 (.t 10), none⟩,
 ⟨some 2, .mv (.t 11), none⟩,
 ⟨some 3, .mv (.c (.bool true)), none⟩])
 .ret))),
 [.tmp 2, .tmp 3]⟩

/-- (*bloomery/box.Box).Outcome -/
def i54 : IFun := ⟨1, 55,
 (.seq
 (.reg false [
 ⟨some 2, .alloc [.int .i64 0, .int .i64 0, .zsl true, .zsl true], none⟩,
 ⟨some 3, .mv (.c (.bool false)), none⟩])
 (.seq
 (.seq
 (.reg false [
 ⟨some 7, .mv (.t 0), none⟩,
 ⟨some 8, .nchk (.t 7), none⟩,
 ⟨some 9, .fa (.t 8) 6, none⟩,
 ⟨some 10, .load false 1 (.t 9), none⟩,
 ⟨some 11, .un .not (.t 10), none⟩])
 (.cond (.t 11)
 (.seq
 (.reg false [
 ⟨some 12, .build [.int .i64 0, .int .i64 0, .zsl true, .zsl true] [], none⟩,
 ⟨none, .store 4 (.t 2) (.t 12), none⟩,
 ⟨some 3, .mv (.c (.bool false)), none⟩])
 .ret)
 .skip))
 (.seq
 (.reg true [
 ⟨some 13, .mv (.t 0), none⟩,
 ⟨some 14, .nchk (.t 13), none⟩,
 ⟨some 15, .fa (.t 14) 7, none⟩,
 ⟨some 16, .load false 1 (.t 15), none⟩,
 ⟨some 17, .mv (.t 0), none⟩,
 ⟨some 18, .nchk (.t 17), none⟩,
 ⟨some 19, .fa (.t 18) 4, none⟩,
 ⟨some 20, .load false 1 (.t 19), none⟩,
 ⟨some 21, .pcall (.c (.fn (.f 86) [] [])) [(.t 20)], none⟩,
 ⟨some 22, .build [.int .i64 0, .int .i64 0, .zsl true, .zsl true] [(0, 1, (.c (.int .i64 2))), (1, 1, (.t 16)), (3, 1, (.t 21))], none⟩,
 ⟨some 4, .alloc [.int .i64 0, .int .i64 0, .zsl true, .zsl true], none⟩,
 ⟨none, .store 4 (.t 4) (.t 22), none⟩])
 (.seq
 (.seq
 (.reg false [
 ⟨some 23, .mv (.t 0), none⟩,
 ⟨some 24, .nchk (.t 23), none⟩,
 ⟨some 25, .fa (.t 24) 7, none⟩,
 ⟨some 26, .load false 1 (.t 25), none⟩,
 ⟨some 27, .bin .eql (.t 26) (.c (.int .i64 0)), none⟩])
 (.cond (.t 27)
 (.seq
 (.reg false [
 ⟨some 28, .fa (.t 4) 0, none⟩,
 ⟨none, .store 1 (.t 28) (.c (.int .i64 1)), none⟩])
 (.seq
 (.reg false [
 ⟨some 29, .mv (.t 0), none⟩,
 ⟨some 30, .nchk (.t 29), none⟩,
 ⟨some 31, .fa (.t 30) 3, none⟩,
 ⟨some 32, .load false 1 (.t 31), none⟩,
 ⟨some 33, .call (.c (.fn (.f 87) [] [])) [(.t 32)], none⟩,
 ⟨some 34, .pcall (.c (.fn (.f 88) [] [])) [(.t 33)], none⟩,
 ⟨some 35, .len false (.t 34), none⟩,
 ⟨some 36, .mv (.c (.int .i64 0)), none⟩])
 (.blk 0
 (.seq (.gh (.clr 120259084309)) (.loop (.seq
 (.seq
 (.reg false [
 ⟨some 37, .bin .lss (.t 36) (.t 35), none⟩])
 (.seq
 (.cond (.t 37)
 .skip
 (.exit 0))
 (.seq
 (.blk 1
 (.seq
 (.reg false [
 ⟨some 38, .ia 1 (.t 34) (.t 36), none⟩,
 ⟨some 39, .load false 1 (.t 38), none⟩,
 ⟨some 6, .mv (.t 39), none⟩])
 (.reg true [
 ⟨some 40, .fa (.t 4) 2, none⟩,
 ⟨some 41, .load false 1 (.t 40), none⟩,
 ⟨some 42, .mv (.t 6), none⟩,
 ⟨some 43, .mv (.t 0), none⟩,
 ⟨some 44, .nchk (.t 43), none⟩,
 ⟨some 45, .fa (.t 44) 3, none⟩,
 ⟨some 46, .load false 1 (.t 45), none⟩,
 ⟨some 47, .mv (.t 6), none⟩,
 ⟨some 48, .look false [2] (.t 46) (.t 47) (.str []) false, none⟩,
 ⟨some 49, .build [.str [], .str []] [(0, 1, (.t 42)), (1, 1, (.t 48))], none⟩,
 ⟨some 50, .bsl 2 [(.t 49)], none⟩,
 ⟨some 51, .app 2 32 (.t 41) (.t 50), none⟩,
 ⟨some 52, .fa (.t 4) 2, none⟩,
 ⟨none, .store 1 (.t 52) (.t 51), none⟩])))
 (.reg false [
 ⟨some 53, .bin .add (.t 36) (.c (.int .i64 1)), none⟩,
 ⟨some 36, .mv (.t 53), none⟩]))))
 (.gh (.clr 120259084309))))))))
 .skip))
 (.seq
 (.reg false [
 ⟨some 54, .load true 4 (.t 4), none⟩,
 ⟨none, .store 4 (.t 2) (.t 54), none⟩,
 ⟨some 3, .mv (.c (.bool true)), none⟩])
 .ret))))),
 [.cell 2 true 4, .tmp 3]⟩

/-- bloomery/scratch.read -/
def i55 : IFun := ⟨1, 16,
 (.seq
 (.reg false [
 ⟨some 1, .boxv (.t 0), none⟩,
 ⟨some 2, .alloc [.str [], .bool false, .int .u8 0, .int .u8 0, .int .u8 0, .int .u8 0, .int .u8 0, .int .u8 0, .int .u8 0, .int .u8 0, .int .u8 0, .int .u8 0, .int .u8 0, .int .u8 0, .int .u8 0, .int .u8 0, .int .u8 0, .int .u8 0, .int .u8 0, .int .u8 0, .int .u8 0, .int .u8 0, .int .u8 0, .int .u8 0, .int .u8 0, .int .u8 0, .int .u8 0, .int .u8 0, .int .u8 0, .int .u8 0, .int .u8 0, .int .u8 0, .int .u8 0, .int .u8 0], none⟩])
 (.seq
 (.seq
 (.reg false [
 ⟨some 3, .fa (.t 1) 1, none⟩,
 ⟨some 4, .loadv false 1 (.t 3), none⟩,
 ⟨some 5, .un .not (.t 4), none⟩])
 (.cond (.t 5)
 (.seq
 (.reg false [
 ⟨some 6, .fa (.t 1) 0, none⟩,
 ⟨some 7, .loadv false 1 (.t 6), none⟩,
 ⟨some 8, .build [.str [], .bool false, .int .u8 0, .int .u8 0, .int .u8 0, .int .u8 0, .int .u8 0, .int .u8 0, .int .u8 0, .int .u8 0, .int .u8 0, .int .u8 0, .int .u8 0, .int .u8 0, .int .u8 0, .int .u8 0, .int .u8 0, .int .u8 0, .int .u8 0, .int .u8 0, .int .u8 0, .int .u8 0, .int .u8 0, .int .u8 0, .int .u8 0, .int .u8 0, .int .u8 0, .int .u8 0, .int .u8 0, .int .u8 0, .int .u8 0, .int .u8 0, .int .u8 0, .int .u8 0] [(0, 1, (.t 7))], none⟩,
 ⟨none, .store 34 (.t 2) (.t 8), none⟩])
 .ret)
 .skip))
 (.seq
 (.reg true [
 ⟨some 9, .fa (.t 1) 0, none⟩,
 ⟨some 10, .loadv false 1 (.t 9), none⟩,
 ⟨some 11, .fa (.t 1) 2, none⟩,
 ⟨some 12, .loadv false 1 (.t 11), none⟩,
 ⟨some 13, .bsl 1 [(.t 12)], none⟩,
 ⟨some 14, .pcall (.c (.fn (.f 89) [] [])) [(.t 13)], none⟩,
 ⟨some 15, .build [.str [], .bool false, .int .u8 0, .int .u8 0, .int .u8 0, .int .u8 0, .int .u8 0, .int .u8 0, .int .u8 0, .int .u8 0, .int .u8 0, .int .u8 0, .int .u8 0, .int .u8 0, .int .u8 0, .int .u8 0, .int .u8 0, .int .u8 0, .int .u8 0, .int .u8 0, .int .u8 0, .int .u8 0, .int .u8 0, .int .u8 0, .int .u8 0, .int .u8 0, .int .u8 0, .int .u8 0, .int .u8 0, .int .u8 0, .int .u8 0, .int .u8 0, .int .u8 0, .int .u8 0] [(0, 1, (.t 10)), (1, 1, (.c (.bool true))), (2, 32, (.t 14))], none⟩,
 ⟨none, .store 34 (.t 2) (.t 15), none⟩])
 .ret))),
 [.cell 2 true 34]⟩

/-- (*bloomery/box.Box).Give -/
def i56 : IFun := ⟨2, 64,
 (.seq
 (.reg false [
 ⟨some 3, .boxv (.t 1), none⟩,
 ⟨some 4, .mv (.c (.int .i64 0)), none⟩])
 (.seq
 (.blk 0
 (.seq
 (.reg false [
 ⟨some 8, .mv (.t 0), none⟩,
 ⟨some 9, .nchk (.t 8), none⟩,
 ⟨some 10, .fa (.t 9) 6, none⟩,
 ⟨some 11, .load false 1 (.t 10), none⟩,
 ⟨some 7, .mv (.t 11), none⟩])
 (.cond (.t 7)
 (.seq
 (.reg false [
 ⟨some 4, .mv (.c (.int .i64 19)), none⟩])
 .ret)
 (.seq
 (.reg true [
 ⟨some 13, .fa (.t 3) 0, none⟩,
 ⟨some 14, .loadv false 1 (.t 13), none⟩,
 ⟨some 15, .mv (.t 0), none⟩,
 ⟨some 16, .nchk (.t 15), none⟩,
 ⟨some 17, .fa (.t 16) 5, none⟩,
 ⟨some 18, .load false 1 (.t 17), none⟩,
 ⟨some 19, .bin .neq (.t 14) (.t 18), none⟩,
 ⟨some 12, .mv (.t 19), none⟩])
 (.cond (.t 12)
 (.seq
 (.reg false [
 ⟨some 4, .mv (.c (.int .i64 1)), none⟩])
 .ret)
 (.seq
 (.reg false [
 ⟨some 21, .fa (.t 3) 1, none⟩,
 ⟨some 22, .loadv false 1 (.t 21), none⟩,
 ⟨some 23, .mv (.t 22), none⟩,
 ⟨some 24, .fa (.t 3) 2, some (23, true)⟩,
 ⟨some 25, .loadv false 1 (.t 24), some (23, true)⟩,
 ⟨some 26, .len true (.t 25), some (23, true)⟩,
 ⟨some 27, .bin .gtr (.t 26) (.c (.int .i64 65536)), some (23, true)⟩,
 ⟨some 28, .pick (.t 23) (.t 27) (.c (.bool false)), none⟩,
 ⟨some 20, .mv (.t 28), none⟩])
 (.cond (.t 20)
 (.seq
 (.reg false [
 ⟨some 4, .mv (.c (.int .i64 6)), none⟩])
 .ret)
 .skip)))))))
 (.seq
 (.reg false [
 ⟨some 29, .fa (.t 3) 0, none⟩,
 ⟨some 30, .loadv false 1 (.t 29), none⟩,
 ⟨some 31, .fa (.t 3) 1, none⟩,
 ⟨some 32, .loadv false 1 (.t 31), none⟩,
 ⟨some 33, .build [.str [], .bool false, .int .u8 0, .int .u8 0, .int .u8 0, .int .u8 0, .int .u8 0, .int .u8 0, .int .u8 0, .int .u8 0, .int .u8 0, .int .u8 0, .int .u8 0, .int .u8 0, .int .u8 0, .int .u8 0, .int .u8 0, .int .u8 0, .int .u8 0, .int .u8 0, .int .u8 0, .int .u8 0, .int .u8 0, .int .u8 0, .int .u8 0, .int .u8 0, .int .u8 0, .int .u8 0, .int .u8 0, .int .u8 0, .int .u8 0, .int .u8 0, .int .u8 0, .int .u8 0] [(0, 1, (.t 30)), (1, 1, (.t 32))], none⟩,
 ⟨some 5, .alloc [.str [], .bool false, .int .u8 0, .int .u8 0, .int .u8 0, .int .u8 0, .int .u8 0, .int .u8 0, .int .u8 0, .int .u8 0, .int .u8 0, .int .u8 0, .int .u8 0, .int .u8 0, .int .u8 0, .int .u8 0, .int .u8 0, .int .u8 0, .int .u8 0, .int .u8 0, .int .u8 0, .int .u8 0, .int .u8 0, .int .u8 0, .int .u8 0, .int .u8 0, .int .u8 0, .int .u8 0, .int .u8 0, .int .u8 0, .int .u8 0, .int .u8 0, .int .u8 0, .int .u8 0], none⟩,
 ⟨none, .store 34 (.t 5) (.t 33), none⟩])
 (.seq
 (.seq
 (.reg false [
 ⟨some 34, .fa (.t 3) 1, none⟩,
 ⟨some 35, .loadv false 1 (.t 34), none⟩])
 (.cond (.t 35)
 (.reg false [
 ⟨some 36, .fa (.t 3) 2, none⟩,
 ⟨some 37, .loadv false 1 (.t 36), none⟩,
 ⟨some 38, .bsl 1 [(.t 37)], none⟩,
 ⟨some 39, .pcall (.c (.fn (.f 89) [] [])) [(.t 38)], none⟩,
 ⟨some 40, .fa (.t 5) 2, none⟩,
 ⟨none, .store 32 (.t 40) (.t 39), none⟩])
 .skip))
 (.seq
 (.reg true [
 ⟨some 41, .mv (.t 0), none⟩,
 ⟨some 42, .mv (.t 0), none⟩,
 ⟨some 43, .nchk (.t 42), none⟩,
 ⟨some 44, .fa (.t 43) 4, none⟩,
 ⟨some 45, .load false 1 (.t 44), none⟩,
 ⟨some 46, .load true 34 (.t 5), none⟩,
 ⟨some 47, .bsl 34 [(.t 46)], none⟩,
 ⟨some 48, .app 34 56 (.t 45) (.t 47), none⟩,
 ⟨some 49, .nchk (.t 41), none⟩,
 ⟨some 50, .fa (.t 49) 4, none⟩,
 ⟨none, .store 1 (.t 50) (.t 48), none⟩])
 (.seq
 (.seq
 (.reg true [
 ⟨some 51, .mv (.t 0), none⟩,
 ⟨some 52, .nchk (.t 51), none⟩,
 ⟨some 53, .fa (.t 52) 0, none⟩,
 ⟨some 54, .load false 1 (.t 53), none⟩,
 ⟨some 55, .loadv true 3 (.t 3), none⟩,
 ⟨some 56, .call (.c (.fn (.f 90) [] [])) [(.t 54), (.t 55)], none⟩,
 ⟨some 6, .mv (.t 56), none⟩])
 (.seq
 (.reg false [
 ⟨some 57, .mv (.t 6), none⟩,
 ⟨some 58, .bin .neq (.t 57) (.c (.int .i64 0)), none⟩])
 (.cond (.t 58)
 (.seq
 (.reg false [
 ⟨some 59, .mv (.t 0), none⟩,
 ⟨some 60, .mv (.t 6), none⟩,
 ⟨some 61, .call (.c (.fn (.f 91) [] [])) [(.t 59), (.t 60)], none⟩])
 (.seq
 (.reg false [
 ⟨some 4, .mv (.c (.int .i64 0)), none⟩])
 .ret))
 .skip)))
 (.seq
 (.reg false [
 ⟨some 62, .mv (.t 0), none⟩,
 ⟨some 63, .call (.c (.fn (.f 85) [] [])) [(.t 62)], none⟩])
 (.seq
 (.reg false [
 ⟨some 4, .mv (.c (.int .i64 0)), none⟩])
 .ret)))))))),
 [.tmp 4]⟩

/-- bloomery/analyse.Maker$1 -/
def i57 : IFun := ⟨2, 8,
 (.seq
 (.reg false [
 ⟨some 2, .boxv (.t 0), none⟩,
 ⟨some 3, .mv (.c (.bool false)), none⟩])
 (.seq
 (.reg false [
 ⟨some 4, .fa (.t 2) 6, none⟩,
 ⟨some 5, .loadv false 1 (.t 4), none⟩,
 ⟨some 6, .loadv false 1 (.t 1), none⟩,
 ⟨some 7, .pcall (.c (.fn (.f 92) [] [])) [(.t 5), (.t 6)], none⟩,
 ⟨some 3, .mv (.t 7), none⟩])
 .ret)),
 [.tmp 3]⟩

/-- slices.IndexFunc[[]bloomery/api.Action,bloomery/api.Action] -/
def i58 : IFun := ⟨2, 19,
 (.seq
 (.reg false [
 ⟨some 4, .mv (.c (.int .i64 0)), none⟩])
 (.seq
 (.seq
 (.reg false [
 ⟨some 6, .mv (.t 0), none⟩,
 ⟨some 7, .len false (.t 6), none⟩,
 ⟨some 8, .mv (.c (.int .i64 0)), none⟩])
 (.blk 0
 (.seq (.gh (.clr 387)) (.loop (.seq
 (.seq
 (.reg false [
 ⟨some 9, .bin .lss (.t 8) (.t 7), none⟩])
 (.seq
 (.cond (.t 9)
 .skip
 (.exit 0))
 (.seq
 (.blk 1
 (.seq
 (.reg false [
 ⟨some 10, .mv (.t 8), none⟩,
 ⟨some 5, .mv (.t 10), none⟩])
 (.seq
 (.reg false [
 ⟨some 11, .mv (.t 1), none⟩,
 ⟨some 12, .mv (.t 0), none⟩,
 ⟨some 13, .mv (.t 5), none⟩,
 ⟨some 14, .ia 7 (.t 12) (.t 13), none⟩,
 ⟨some 15, .load true 7 (.t 14), none⟩,
 ⟨some 16, .call (.t 11) [(.t 15)], none⟩])
 (.cond (.t 16)
 (.seq
 (.reg false [
 ⟨some 17, .mv (.t 5), none⟩,
 ⟨some 4, .mv (.t 17), none⟩])
 .ret)
 .skip))))
 (.reg false [
 ⟨some 18, .bin .add (.t 8) (.c (.int .i64 1)), none⟩,
 ⟨some 8, .mv (.t 18), none⟩]))))
 (.gh (.clr 387)))))))
 (.seq
 (.reg false [
 ⟨some 4, .mv (.c (.int .i64 (-1))), none⟩])
 .ret))),
 [.tmp 4]⟩

/-- slices.Equal[[]bloomery/api.Read,bloomery/api.Read] -/
def i59 : IFun := ⟨2, 26,
 (.seq
 (.reg false [
 ⟨some 4, .mv (.c (.bool false)), none⟩])
 (.seq
 (.seq
 (.reg false [
 ⟨some 6, .mv (.t 0), none⟩,
 ⟨some 7, .len false (.t 6), none⟩,
 ⟨some 8, .mv (.t 1), none⟩,
 ⟨some 9, .len false (.t 8), none⟩,
 ⟨some 10, .bin .neq (.t 7) (.t 9), none⟩])
 (.cond (.t 10)
 (.seq
 (.reg false [
 ⟨some 4, .mv (.c (.bool false)), none⟩])
 .ret)
 .skip))
 (.seq
 (.seq
 (.reg false [
 ⟨some 11, .mv (.t 0), none⟩,
 ⟨some 12, .len false (.t 11), none⟩,
 ⟨some 13, .mv (.c (.int .i64 0)), none⟩])
 (.blk 0
 (.seq (.gh (.clr 12291)) (.loop (.seq
 (.seq
 (.reg false [
 ⟨some 14, .bin .lss (.t 13) (.t 12), none⟩])
 (.seq
 (.cond (.t 14)
 .skip
 (.exit 0))
 (.seq
 (.blk 1
 (.seq
 (.reg false [
 ⟨some 15, .mv (.t 13), none⟩,
 ⟨some 5, .mv (.t 15), none⟩])
 (.seq
 (.reg true [
 ⟨some 16, .mv (.t 0), none⟩,
 ⟨some 17, .mv (.t 5), none⟩,
 ⟨some 18, .ia 34 (.t 16) (.t 17), none⟩,
 ⟨some 19, .load true 34 (.t 18), none⟩,
 ⟨some 20, .mv (.t 1), none⟩,
 ⟨some 21, .mv (.t 5), none⟩,
 ⟨some 22, .ia 34 (.t 20) (.t 21), none⟩,
 ⟨some 23, .load true 34 (.t 22), none⟩,
 ⟨some 24, .aeq [2, 0, 1, 1, 1, 1, 1, 1, 1, 1, 1, 1, 1, 1, 1, 1, 1, 1, 1, 1, 1, 1, 1, 1, 1, 1, 1, 1, 1, 1, 1, 1, 1, 1] true (.t 19) (.t 23), none⟩])
 (.cond (.t 24)
 (.seq
 (.reg false [
 ⟨some 4, .mv (.c (.bool false)), none⟩])
 .ret)
 .skip))))
 (.reg false [
 ⟨some 25, .bin .add (.t 13) (.c (.int .i64 1)), none⟩,
 ⟨some 13, .mv (.t 25), none⟩]))))
 (.gh (.clr 12291)))))))
 (.seq
 (.reg false [
 ⟨some 4, .mv (.c (.bool true)), none⟩])
 .ret)))),
 [.tmp 4]⟩

/-- slices.IndexFunc[[]bloomery/api.File,bloomery/api.File] -/
def i60 : IFun := ⟨2, 19,
 (.seq
 (.reg false [
 ⟨some 4, .mv (.c (.int .i64 0)), none⟩])
 (.seq
 (.seq
 (.reg false [
 ⟨some 6, .mv (.t 0), none⟩,
 ⟨some 7, .len false (.t 6), none⟩,
 ⟨some 8, .mv (.c (.int .i64 0)), none⟩])
 (.blk 0
 (.seq (.gh (.clr 387)) (.loop (.seq
 (.seq
 (.reg false [
 ⟨some 9, .bin .lss (.t 8) (.t 7), none⟩])
 (.seq
 (.cond (.t 9)
 .skip
 (.exit 0))
 (.seq
 (.blk 1
 (.seq
 (.reg false [
 ⟨some 10, .mv (.t 8), none⟩,
 ⟨some 5, .mv (.t 10), none⟩])
 (.seq
 (.reg false [
 ⟨some 11, .mv (.t 1), none⟩,
 ⟨some 12, .mv (.t 0), none⟩,
 ⟨some 13, .mv (.t 5), none⟩,
 ⟨some 14, .ia 2 (.t 12) (.t 13), none⟩,
 ⟨some 15, .load true 2 (.t 14), none⟩,
 ⟨some 16, .call (.t 11) [(.t 15)], none⟩])
 (.cond (.t 16)
 (.seq
 (.reg false [
 ⟨some 17, .mv (.t 5), none⟩,
 ⟨some 4, .mv (.t 17), none⟩])
 .ret)
 .skip))))
 (.reg false [
 ⟨some 18, .bin .add (.t 8) (.c (.int .i64 1)), none⟩,
 ⟨some 8, .mv (.t 18), none⟩]))))
 (.gh (.clr 387)))))))
 (.seq
 (.reg false [
 ⟨some 4, .mv (.c (.int .i64 (-1))), none⟩])
 .ret))),
 [.tmp 4]⟩

/-- bloomery/tree.look -/
def i66 : IFun := ⟨3, 45,
 (.seq
 (.reg false [
 ⟨some 3, .boxv (.t 0), none⟩,
 ⟨some 6, .mv (.c (.int .i64 0)), none⟩])
 (.seq
 (.blk 0
 (.seq
 (.reg false [
 ⟨some 8, .fa (.t 3) 0, none⟩,
 ⟨some 9, .loadv false 1 (.t 8), none⟩,
 ⟨some 10, .pcall (.c (.fn (.f 48) [] [])) [(.t 9)], none⟩,
 ⟨some 11, .un .not (.t 10), none⟩,
 ⟨some 12, .mv (.t 11), none⟩,
 ⟨some 13, .fa (.t 3) 0, some (12, false)⟩,
 ⟨some 14, .loadv false 1 (.t 13), some (12, false)⟩,
 ⟨some 15, .bin .eql (.t 14) (.c (.str [111, 117, 116])), some (12, false)⟩,
 ⟨some 16, .pick (.t 12) (.c (.bool true)) (.t 15), none⟩,
 ⟨some 17, .mv (.t 16), none⟩,
 ⟨some 18, .fa (.t 3) 0, some (17, false)⟩,
 ⟨some 19, .loadv false 1 (.t 18), some (17, false)⟩,
 ⟨some 20, .pcall (.c (.fn (.f 100) [] [])) [(.t 19), (.c (.str [111, 117, 116]))], some (17, false)⟩,
 ⟨some 21, .pick (.t 17) (.c (.bool true)) (.t 20), none⟩,
 ⟨some 7, .mv (.t 21), none⟩])
 (.cond (.t 7)
 (.seq
 (.reg false [
 ⟨some 6, .mv (.c (.int .i64 7)), none⟩])
 .ret)
 (.seq
 (.reg false [
 ⟨some 23, .mv (.t 2), none⟩,
 ⟨some 24, .un .not (.t 23), none⟩,
 ⟨some 25, .mv (.t 24), none⟩,
 ⟨some 26, .fa (.t 3) 0, some (25, true)⟩,
 ⟨some 27, .loadv false 1 (.t 26), some (25, true)⟩,
 ⟨some 28, .mv (.t 1), some (25, true)⟩,
 ⟨some 29, .bin .eql (.t 27) (.t 28), some (25, true)⟩,
 ⟨some 30, .pick (.t 25) (.t 29) (.c (.bool false)), none⟩,
 ⟨some 22, .mv (.t 30), none⟩])
 (.cond (.t 22)
 (.seq
 (.reg false [
 ⟨some 6, .mv (.c (.int .i64 8)), none⟩])
 .ret)
 (.seq
 (.reg false [
 ⟨some 32, .mv (.t 2), none⟩,
 ⟨some 33, .un .not (.t 32), none⟩,
 ⟨some 34, .mv (.t 33), none⟩,
 ⟨some 35, .fa (.t 3) 0, some (34, true)⟩,
 ⟨some 36, .loadv false 1 (.t 35), some (34, true)⟩,
 ⟨some 37, .mv (.t 1), some (34, true)⟩,
 ⟨some 38, .bin .lss (.t 36) (.t 37), some (34, true)⟩,
 ⟨some 39, .pick (.t 34) (.t 38) (.c (.bool false)), none⟩,
 ⟨some 31, .mv (.t 39), none⟩])
 (.cond (.t 31)
 (.seq
 (.reg false [
 ⟨some 6, .mv (.c (.int .i64 2)), none⟩])
 .ret)
 (.seq
 (.reg false [
 ⟨some 41, .fa (.t 3) 1, none⟩,
 ⟨some 42, .loadv false 1 (.t 41), none⟩,
 ⟨some 43, .len true (.t 42), none⟩,
 ⟨some 44, .bin .gtr (.t 43) (.c (.int .i64 65536)), none⟩,
 ⟨some 40, .mv (.t 44), none⟩])
 (.cond (.t 40)
 (.seq
 (.reg false [
 ⟨some 6, .mv (.c (.int .i64 6)), none⟩])
 .ret)
 .skip)))))))))
 (.seq
 (.reg false [
 ⟨some 6, .mv (.c (.int .i64 0)), none⟩])
 .ret))),
 [.tmp 6]⟩

/-- bloomery/analyse.look -/
def i67 : IFun := ⟨2, 56,
 (.seq
 (.reg false [
 ⟨some 2, .boxv (.t 0), none⟩,
 ⟨some 4, .mv (.c (.int .i64 0)), none⟩])
 (.seq
 (.seq
 (.reg false [
 ⟨some 13, .fa (.t 2) 2, none⟩,
 ⟨some 14, .loadv false 1 (.t 13), none⟩,
 ⟨some 15, .pcall (.c (.fn (.f 101) [] [])) [(.t 14)], none⟩,
 ⟨some 12, .mv (.t 15), none⟩,
 ⟨some 16, .ext (.t 12) 0, none⟩,
 ⟨some 17, .ext (.t 12) 1, none⟩,
 ⟨some 5, .mv (.t 16), none⟩,
 ⟨some 6, .mv (.t 17), none⟩])
 (.seq
 (.reg false [
 ⟨some 18, .mv (.t 5), none⟩,
 ⟨some 19, .bin .neq (.t 18) (.c (.int .i64 0)), none⟩])
 (.cond (.t 19)
 (.seq
 (.reg false [
 ⟨some 20, .mv (.t 5), none⟩,
 ⟨some 4, .mv (.t 20), none⟩])
 .ret)
 .skip)))
 (.seq
 (.reg false [
 ⟨some 7, .mv (.c (.fn (.f 102) [] [])), none⟩])
 (.seq
 (.reg false [
 ⟨some 8, .mv (.c (.fn (.f 103) [] [])), none⟩])
 (.seq
 (.reg false [
 ⟨some 9, .mv (.c (.fn (.f 104) [] [])), none⟩])
 (.seq
 (.seq
 (.reg false [
 ⟨some 21, .fa (.t 2) 6, none⟩,
 ⟨some 22, .loadv false 1 (.t 21), none⟩,
 ⟨some 23, .len false (.t 22), none⟩,
 ⟨some 24, .bin .eql (.t 23) (.c (.int .i64 0)), none⟩,
 ⟨some 25, .mv (.t 24), none⟩,
 ⟨some 26, .fa (.t 2) 6, some (25, false)⟩,
 ⟨some 27, .loadv false 1 (.t 26), some (25, false)⟩,
 ⟨some 28, .mv (.t 7), some (25, false)⟩,
 ⟨some 29, .pcall (.c (.fn (.f 105) [] [])) [(.t 27), (.t 28)], some (25, false)⟩,
 ⟨some 30, .pick (.t 25) (.c (.bool true)) (.t 29), none⟩,
 ⟨some 31, .mv (.t 30), none⟩,
 ⟨some 32, .fa (.t 2) 4, some (31, false)⟩,
 ⟨some 33, .loadv false 1 (.t 32), some (31, false)⟩,
 ⟨some 34, .mv (.t 8), some (31, false)⟩,
 ⟨some 35, .pcall (.c (.fn (.f 105) [] [])) [(.t 33), (.t 34)], some (31, false)⟩,
 ⟨some 36, .pick (.t 31) (.c (.bool true)) (.t 35), none⟩,
 ⟨some 37, .mv (.t 36), none⟩,
 ⟨some 38, .fa (.t 2) 5, some (37, false)⟩,
 ⟨some 39, .loadv false 1 (.t 38), some (37, false)⟩,
 ⟨some 40, .mv (.t 9), some (37, false)⟩,
 ⟨some 41, .pcall (.c (.fn (.f 105) [] [])) [(.t 39), (.t 40)], some (37, false)⟩,
 ⟨some 42, .pick (.t 37) (.c (.bool true)) (.t 41), none⟩])
 (.cond (.t 42)
 (.seq
 (.reg false [
 ⟨some 4, .mv (.c (.int .i64 1)), none⟩])
 .ret)
 .skip))
 (.seq
 (.seq
 (.reg false [
 ⟨some 43, .fa (.t 2) 6, none⟩,
 ⟨some 44, .loadv false 1 (.t 43), none⟩,
 ⟨some 45, .len false (.t 44), none⟩,
 ⟨some 46, .mv (.c (.int .i64 0)), none⟩])
 (.blk 0
 (.seq (.gh (.clr 123145302310914)) (.loop (.seq
 (.seq
 (.reg false [
 ⟨some 47, .bin .lss (.t 46) (.t 45), none⟩])
 (.seq
 (.cond (.t 47)
 .skip
 (.exit 0))
 (.seq
 (.blk 1
 (.seq
 (.reg false [
 ⟨some 48, .ia 1 (.t 44) (.t 46), none⟩,
 ⟨some 49, .load false 1 (.t 48), none⟩,
 ⟨some 11, .mv (.t 49), none⟩])
 (.seq
 (.seq
 (.reg false [
 ⟨some 50, .mv (.t 1), none⟩,
 ⟨some 51, .mv (.t 11), none⟩,
 ⟨some 52, .look false [2] (.t 50) (.t 51) (.bool false) false, none⟩])
 (.cond (.t 52)
 (.seq
 (.reg false [
 ⟨some 4, .mv (.c (.int .i64 8)), none⟩])
 .ret)
 .skip))
 (.reg false [
 ⟨some 53, .mv (.t 1), none⟩,
 ⟨some 54, .mv (.t 11), none⟩,
 ⟨none, .mset false [2] (.t 53) (.t 54) (.c (.bool true)), none⟩]))))
 (.reg false [
 ⟨some 55, .bin .add (.t 46) (.c (.int .i64 1)), none⟩,
 ⟨some 46, .mv (.t 55), none⟩]))))
 (.gh (.clr 123145302310914)))))))
 (.seq
 (.reg false [
 ⟨some 4, .mv (.c (.int .i64 0)), none⟩])
 .ret)))))))),
 [.tmp 4]⟩

/-- strings.SplitSeq -/
def i68 : IFun := ⟨2, 8,
 (.seq
 (.reg false [
 ⟨some 4, .mv (.c (.nilf)), none⟩])
 (.seq
 (.reg false [
 ⟨some 5, .mv (.t 0), none⟩,
 ⟨some 6, .mv (.t 1), none⟩,
 ⟨some 7, .call (.c (.fn (.f 106) [] [])) [(.t 5), (.t 6), (.c (.int .i64 0))], none⟩,
 ⟨some 4, .mv (.t 7), none⟩])
 .ret)),
 [.tmp 4]⟩

/-- bloomery/path.part -/
def i69 : IFun := ⟨1, 23,
 (.seq
 (.reg false [
 ⟨some 2, .mv (.c (.bool false)), none⟩])
 (.seq
 (.reg false [
 ⟨some 3, .mv (.t 0), none⟩,
 ⟨some 4, .bin .neq (.t 3) (.c (.str [])), none⟩,
 ⟨some 5, .mv (.t 4), none⟩,
 ⟨some 6, .mv (.t 0), some (5, true)⟩,
 ⟨some 7, .len true (.t 6), some (5, true)⟩,
 ⟨some 8, .bin .leq (.t 7) (.c (.int .i64 64)), some (5, true)⟩,
 ⟨some 9, .pick (.t 5) (.t 8) (.c (.bool false)), none⟩,
 ⟨some 10, .mv (.t 9), none⟩,
 ⟨some 11, .mv (.t 0), some (10, true)⟩,
 ⟨some 12, .bin .neq (.t 11) (.c (.str [46])), some (10, true)⟩,
 ⟨some 13, .pick (.t 10) (.t 12) (.c (.bool false)), none⟩,
 ⟨some 14, .mv (.t 13), none⟩,
 ⟨some 15, .mv (.t 0), some (14, true)⟩,
 ⟨some 16, .bin .neq (.t 15) (.c (.str [46, 46])), some (14, true)⟩,
 ⟨some 17, .pick (.t 14) (.t 16) (.c (.bool false)), none⟩,
 ⟨some 18, .mv (.t 17), none⟩,
 ⟨some 19, .mv (.t 0), some (18, true)⟩,
 ⟨some 20, .pcall (.c (.fn (.f 107) [] [])) [(.t 19), (.c (.fn (.f 108) [] []))], some (18, true)⟩,
 ⟨some 21, .un .not (.t 20), some (18, true)⟩,
 ⟨some 22, .pick (.t 18) (.t 21) (.c (.bool false)), none⟩,
 ⟨some 2, .mv (.t 22), none⟩])
 .ret)),
 [.tmp 2]⟩

/-- slices.insertionSortOrdered[string] -/
def i70 : IFun := ⟨3, 49,
 (.seq
 (.reg false [
 ⟨some 8, .mv (.t 1), none⟩,
 ⟨some 9, .bin .add (.t 8) (.c (.int .i64 1)), none⟩,
 ⟨some 6, .mv (.t 9), none⟩])
 (.blk 0
 (.seq (.gh (.clr 71)) (.loop (.seq
 (.seq
 (.seq
 (.reg false [
 ⟨some 10, .mv (.t 6), none⟩,
 ⟨some 11, .mv (.t 2), none⟩,
 ⟨some 12, .bin .lss (.t 10) (.t 11), none⟩])
 (.cond (.t 12)
 .skip
 (.exit 0)))
 (.seq
 (.blk 1
 (.seq
 (.reg false [
 ⟨some 15, .mv (.t 6), none⟩,
 ⟨some 7, .mv (.t 15), none⟩])
 (.blk 2
 (.seq (.gh (.clr 199)) (.loop (.seq
 (.seq
 (.seq
 (.reg true [
 ⟨some 16, .mv (.t 7), none⟩,
 ⟨some 17, .mv (.t 1), none⟩,
 ⟨some 18, .bin .gtr (.t 16) (.t 17), none⟩,
 ⟨some 19, .mv (.t 18), none⟩,
 ⟨some 20, .mv (.t 0), some (19, true)⟩,
 ⟨some 21, .mv (.t 7), some (19, true)⟩,
 ⟨some 22, .ia 1 (.t 20) (.t 21), some (19, true)⟩,
 ⟨some 23, .load false 1 (.t 22), some (19, true)⟩,
 ⟨some 24, .mv (.t 0), some (19, true)⟩,
 ⟨some 25, .mv (.t 7), some (19, true)⟩,
 ⟨some 26, .bin .sub (.t 25) (.c (.int .i64 1)), some (19, true)⟩,
 ⟨some 27, .ia 1 (.t 24) (.t 26), some (19, true)⟩,
 ⟨some 28, .load false 1 (.t 27), some (19, true)⟩,
 ⟨some 29, .pcall (.c (.fn (.f 76) [] [])) [(.t 23), (.t 28)], some (19, true)⟩,
 ⟨some 30, .pick (.t 19) (.t 29) (.c (.bool false)), none⟩])
 (.cond (.t 30)
 .skip
 (.exit 2)))
 (.seq
 (.blk 3
 (.reg true [
 ⟨some 33, .mv (.t 0), none⟩,
 ⟨some 34, .mv (.t 7), none⟩,
 ⟨some 35, .mv (.t 0), none⟩,
 ⟨some 36, .mv (.t 7), none⟩,
 ⟨some 37, .bin .sub (.t 36) (.c (.int .i64 1)), none⟩,
 ⟨some 38, .mv (.t 0), none⟩,
 ⟨some 39, .mv (.t 7), none⟩,
 ⟨some 40, .bin .sub (.t 39) (.c (.int .i64 1)), none⟩,
 ⟨some 41, .ia 1 (.t 38) (.t 40), none⟩,
 ⟨some 42, .load false 1 (.t 41), none⟩,
 ⟨some 43, .mv (.t 0), none⟩,
 ⟨some 44, .mv (.t 7), none⟩,
 ⟨some 45, .ia 1 (.t 43) (.t 44), none⟩,
 ⟨some 46, .load false 1 (.t 45), none⟩,
 ⟨some 47, .ia 1 (.t 33) (.t 34), none⟩,
 ⟨none, .store 1 (.t 47) (.t 42), none⟩,
 ⟨some 48, .ia 1 (.t 35) (.t 37), none⟩,
 ⟨none, .store 1 (.t 48) (.t 46), none⟩]))
 (.reg false [
 ⟨some 31, .mv (.t 7), none⟩,
 ⟨some 32, .bin .sub (.t 31) (.c (.int .i64 1)), none⟩,
 ⟨some 7, .mv (.t 32), none⟩])))
 (.gh (.clr 199))))))))
 (.reg false [
 ⟨some 13, .mv (.t 6), none⟩,
 ⟨some 14, .bin .add (.t 13) (.c (.int .i64 1)), none⟩,
 ⟨some 6, .mv (.t 14), none⟩])))
 (.gh (.clr 71))))))),
 []⟩

/-- slices.heapSortOrdered[string] -/
def i71 : IFun := ⟨3, 56,
 (.seq
 (.reg false [
 ⟨some 11, .mv (.t 1), none⟩,
 ⟨some 6, .mv (.t 11), none⟩])
 (.seq
 (.reg false [
 ⟨some 7, .mv (.c (.int .i64 0)), none⟩])
 (.seq
 (.reg false [
 ⟨some 12, .mv (.t 2), none⟩,
 ⟨some 13, .mv (.t 1), none⟩,
 ⟨some 14, .bin .sub (.t 12) (.t 13), none⟩,
 ⟨some 8, .mv (.t 14), none⟩])
 (.seq
 (.seq
 (.reg false [
 ⟨some 15, .mv (.t 8), none⟩,
 ⟨some 16, .bin .sub (.t 15) (.c (.int .i64 1)), none⟩,
 ⟨some 17, .bin .quo (.t 16) (.c (.int .i64 2)), none⟩,
 ⟨some 9, .mv (.t 17), none⟩])
 (.blk 0
 (.seq (.gh (.clr 961)) (.loop (.seq
 (.seq
 (.seq
 (.reg false [
 ⟨some 18, .mv (.t 9), none⟩,
 ⟨some 19, .bin .geq (.t 18) (.c (.int .i64 0)), none⟩])
 (.cond (.t 19)
 .skip
 (.exit 0)))
 (.seq
 (.blk 1
 (.reg false [
 ⟨some 22, .mv (.t 0), none⟩,
 ⟨some 23, .mv (.t 9), none⟩,
 ⟨some 24, .mv (.t 8), none⟩,
 ⟨some 25, .mv (.t 6), none⟩,
 ⟨some 26, .pcall (.c (.fn (.f 109) [] [])) [(.t 22), (.t 23), (.t 24), (.t 25)], none⟩]))
 (.reg false [
 ⟨some 20, .mv (.t 9), none⟩,
 ⟨some 21, .bin .sub (.t 20) (.c (.int .i64 1)), none⟩,
 ⟨some 9, .mv (.t 21), none⟩])))
 (.gh (.clr 961)))))))
 (.seq
 (.reg false [
 ⟨some 27, .mv (.t 8), none⟩,
 ⟨some 28, .bin .sub (.t 27) (.c (.int .i64 1)), none⟩,
 ⟨some 10, .mv (.t 28), none⟩])
 (.blk 2
 (.seq (.gh (.clr 1217)) (.loop (.seq
 (.seq
 (.seq
 (.reg false [
 ⟨some 29, .mv (.t 10), none⟩,
 ⟨some 30, .bin .geq (.t 29) (.c (.int .i64 0)), none⟩])
 (.cond (.t 30)
 .skip
 (.exit 2)))
 (.seq
 (.blk 3
 (.seq
 (.reg true [
 ⟨some 33, .mv (.t 0), none⟩,
 ⟨some 34, .mv (.t 6), none⟩,
 ⟨some 35, .mv (.t 0), none⟩,
 ⟨some 36, .mv (.t 6), none⟩,
 ⟨some 37, .mv (.t 10), none⟩,
 ⟨some 38, .bin .add (.t 36) (.t 37), none⟩,
 ⟨some 39, .mv (.t 0), none⟩,
 ⟨some 40, .mv (.t 6), none⟩,
 ⟨some 41, .mv (.t 10), none⟩,
 ⟨some 42, .bin .add (.t 40) (.t 41), none⟩,
 ⟨some 43, .ia 1 (.t 39) (.t 42), none⟩,
 ⟨some 44, .load false 1 (.t 43), none⟩,
 ⟨some 45, .mv (.t 0), none⟩,
 ⟨some 46, .mv (.t 6), none⟩,
 ⟨some 47, .ia 1 (.t 45) (.t 46), none⟩,
 ⟨some 48, .load false 1 (.t 47), none⟩,
 ⟨some 49, .ia 1 (.t 33) (.t 34), none⟩,
 ⟨none, .store 1 (.t 49) (.t 44), none⟩,
 ⟨some 50, .ia 1 (.t 35) (.t 38), none⟩,
 ⟨none, .store 1 (.t 50) (.t 48), none⟩])
 (.reg false [
 ⟨some 51, .mv (.t 0), none⟩,
 ⟨some 52, .mv (.t 7), none⟩,
 ⟨some 53, .mv (.t 10), none⟩,
 ⟨some 54, .mv (.t 6), none⟩,
 ⟨some 55, .pcall (.c (.fn (.f 109) [] [])) [(.t 51), (.t 52), (.t 53), (.t 54)], none⟩])))
 (.reg false [
 ⟨some 31, .mv (.t 10), none⟩,
 ⟨some 32, .bin .sub (.t 31) (.c (.int .i64 1)), none⟩,
 ⟨some 10, .mv (.t 32), none⟩])))
 (.gh (.clr 1217))))))))))),
 []⟩

/-- slices.breakPatternsOrdered[string] -/
def i72 : IFun := ⟨3, 65,
 (.seq
 (.reg false [
 ⟨some 11, .mv (.t 2), none⟩,
 ⟨some 12, .mv (.t 1), none⟩,
 ⟨some 13, .bin .sub (.t 11) (.t 12), none⟩,
 ⟨some 6, .mv (.t 13), none⟩])
 (.seq
 (.reg false [
 ⟨some 14, .mv (.t 6), none⟩,
 ⟨some 15, .bin .geq (.t 14) (.c (.int .i64 8)), none⟩])
 (.cond (.t 15)
 (.seq
 (.reg false [
 ⟨some 16, .mv (.t 6), none⟩,
 ⟨some 17, .conv .u64 (.t 16), none⟩,
 ⟨some 7, .alloc [.int .u64 0], none⟩,
 ⟨none, .store 1 (.t 7) (.t 17), none⟩])
 (.seq
 (.reg false [
 ⟨some 18, .mv (.t 6), none⟩,
 ⟨some 19, .pcall (.c (.fn (.f 110) [] [])) [(.t 18)], none⟩,
 ⟨some 8, .mv (.t 19), none⟩])
 (.seq
 (.reg false [
 ⟨some 20, .mv (.t 1), none⟩,
 ⟨some 21, .mv (.t 6), none⟩,
 ⟨some 22, .bin .quo (.t 21) (.c (.int .i64 4)), none⟩,
 ⟨some 23, .bin .mul (.t 22) (.c (.int .i64 2)), none⟩,
 ⟨some 24, .bin .add (.t 20) (.t 23), none⟩,
 ⟨some 25, .bin .sub (.t 24) (.c (.int .i64 1)), none⟩,
 ⟨some 9, .mv (.t 25), none⟩])
 (.blk 0
 (.seq (.gh (.clr 963)) (.loop (.seq
 (.seq
 (.seq
 (.reg false [
 ⟨some 26, .mv (.t 9), none⟩,
 ⟨some 27, .mv (.t 1), none⟩,
 ⟨some 28, .mv (.t 6), none⟩,
 ⟨some 29, .bin .quo (.t 28) (.c (.int .i64 4)), none⟩,
 ⟨some 30, .bin .mul (.t 29) (.c (.int .i64 2)), none⟩,
 ⟨some 31, .bin .add (.t 27) (.t 30), none⟩,
 ⟨some 32, .bin .add (.t 31) (.c (.int .i64 1)), none⟩,
 ⟨some 33, .bin .leq (.t 26) (.t 32), none⟩])
 (.cond (.t 33)
 .skip
 (.exit 0)))
 (.seq
 (.blk 1
 (.seq
 (.reg false [
 ⟨some 36, .call (.c (.fn (.f 111) [] [])) [(.t 7)], none⟩,
 ⟨some 37, .mv (.t 8), none⟩,
 ⟨some 38, .bin .sub (.t 37) (.c (.int .u64 1)), none⟩,
 ⟨some 39, .bin .and (.t 36) (.t 38), none⟩,
 ⟨some 40, .conv .i64 (.t 39), none⟩,
 ⟨some 10, .mv (.t 40), none⟩])
 (.seq
 (.seq
 (.reg false [
 ⟨some 41, .mv (.t 10), none⟩,
 ⟨some 42, .mv (.t 6), none⟩,
 ⟨some 43, .bin .geq (.t 41) (.t 42), none⟩])
 (.cond (.t 43)
 (.reg false [
 ⟨some 44, .mv (.t 10), none⟩,
 ⟨some 45, .mv (.t 6), none⟩,
 ⟨some 46, .bin .sub (.t 44) (.t 45), none⟩,
 ⟨some 10, .mv (.t 46), none⟩])
 .skip))
 (.reg true [
 ⟨some 47, .mv (.t 0), none⟩,
 ⟨some 48, .mv (.t 9), none⟩,
 ⟨some 49, .mv (.t 0), none⟩,
 ⟨some 50, .mv (.t 1), none⟩,
 ⟨some 51, .mv (.t 10), none⟩,
 ⟨some 52, .bin .add (.t 50) (.t 51), none⟩,
 ⟨some 53, .mv (.t 0), none⟩,
 ⟨some 54, .mv (.t 1), none⟩,
 ⟨some 55, .mv (.t 10), none⟩,
 ⟨some 56, .bin .add (.t 54) (.t 55), none⟩,
 ⟨some 57, .ia 1 (.t 53) (.t 56), none⟩,
 ⟨some 58, .load false 1 (.t 57), none⟩,
 ⟨some 59, .mv (.t 0), none⟩,
 ⟨some 60, .mv (.t 9), none⟩,
 ⟨some 61, .ia 1 (.t 59) (.t 60), none⟩,
 ⟨some 62, .load false 1 (.t 61), none⟩,
 ⟨some 63, .ia 1 (.t 47) (.t 48), none⟩,
 ⟨none, .store 1 (.t 63) (.t 58), none⟩,
 ⟨some 64, .ia 1 (.t 49) (.t 52), none⟩,
 ⟨none, .store 1 (.t 64) (.t 62), none⟩]))))
 (.reg false [
 ⟨some 34, .mv (.t 9), none⟩,
 ⟨some 35, .bin .add (.t 34) (.c (.int .i64 1)), none⟩,
 ⟨some 9, .mv (.t 35), none⟩])))
 (.gh (.clr 963)))))))))
 .skip))),
 []⟩

/-- slices.choosePivotOrdered[string] -/
def i73 : IFun := ⟨3, 57,
 (.seq
 (.reg false [
 ⟨some 6, .mv (.c (.int .i64 0)), none⟩,
 ⟨some 7, .mv (.c (.int .i64 0)), none⟩])
 (.seq
 (.reg false [
 ⟨some 13, .mv (.t 2), none⟩,
 ⟨some 14, .mv (.t 1), none⟩,
 ⟨some 15, .bin .sub (.t 13) (.t 14), none⟩,
 ⟨some 8, .mv (.t 15), none⟩])
 (.seq
 (.reg false [
 ⟨some 9, .alloc [.int .i64 0], none⟩])
 (.seq
 (.reg false [
 ⟨some 16, .mv (.t 1), none⟩,
 ⟨some 17, .mv (.t 8), none⟩,
 ⟨some 18, .bin .quo (.t 17) (.c (.int .i64 4)), none⟩,
 ⟨some 19, .bin .mul (.t 18) (.c (.int .i64 1)), none⟩,
 ⟨some 20, .bin .add (.t 16) (.t 19), none⟩,
 ⟨some 10, .mv (.t 20), none⟩])
 (.seq
 (.reg false [
 ⟨some 21, .mv (.t 1), none⟩,
 ⟨some 22, .mv (.t 8), none⟩,
 ⟨some 23, .bin .quo (.t 22) (.c (.int .i64 4)), none⟩,
 ⟨some 24, .bin .mul (.t 23) (.c (.int .i64 2)), none⟩,
 ⟨some 25, .bin .add (.t 21) (.t 24), none⟩,
 ⟨some 11, .mv (.t 25), none⟩])
 (.seq
 (.reg false [
 ⟨some 26, .mv (.t 1), none⟩,
 ⟨some 27, .mv (.t 8), none⟩,
 ⟨some 28, .bin .quo (.t 27) (.c (.int .i64 4)), none⟩,
 ⟨some 29, .bin .mul (.t 28) (.c (.int .i64 3)), none⟩,
 ⟨some 30, .bin .add (.t 26) (.t 29), none⟩,
 ⟨some 12, .mv (.t 30), none⟩])
 (.seq
 (.seq
 (.reg false [
 ⟨some 31, .mv (.t 8), none⟩,
 ⟨some 32, .bin .geq (.t 31) (.c (.int .i64 8)), none⟩])
 (.cond (.t 32)
 (.seq
 (.seq
 (.reg false [
 ⟨some 33, .mv (.t 8), none⟩,
 ⟨some 34, .bin .geq (.t 33) (.c (.int .i64 50)), none⟩])
 (.cond (.t 34)
 (.seq
 (.reg false [
 ⟨some 35, .mv (.t 0), none⟩,
 ⟨some 36, .mv (.t 10), none⟩,
 ⟨some 37, .call (.c (.fn (.f 112) [] [])) [(.t 35), (.t 36), (.t 9)], none⟩,
 ⟨some 10, .mv (.t 37), none⟩])
 (.seq
 (.reg false [
 ⟨some 38, .mv (.t 0), none⟩,
 ⟨some 39, .mv (.t 11), none⟩,
 ⟨some 40, .call (.c (.fn (.f 112) [] [])) [(.t 38), (.t 39), (.t 9)], none⟩,
 ⟨some 11, .mv (.t 40), none⟩])
 (.reg false [
 ⟨some 41, .mv (.t 0), none⟩,
 ⟨some 42, .mv (.t 12), none⟩,
 ⟨some 43, .call (.c (.fn (.f 112) [] [])) [(.t 41), (.t 42), (.t 9)], none⟩,
 ⟨some 12, .mv (.t 43), none⟩])))
 .skip))
 (.reg false [
 ⟨some 44, .mv (.t 0), none⟩,
 ⟨some 45, .mv (.t 10), none⟩,
 ⟨some 46, .mv (.t 11), none⟩,
 ⟨some 47, .mv (.t 12), none⟩,
 ⟨some 48, .call (.c (.fn (.f 113) [] [])) [(.t 44), (.t 45), (.t 46), (.t 47), (.t 9)], none⟩,
 ⟨some 11, .mv (.t 48), none⟩]))
 .skip))
 (.seq
 (.reg false [
 ⟨some 49, .load false 1 (.t 9), none⟩])
 (.blk 0
 (.seq
 (.reg false [
 ⟨some 52, .bin .eql (.t 49) (.c (.int .i64 0)), none⟩,
 ⟨some 51, .mv (.t 52), none⟩])
 (.cond (.t 51)
 (.seq
 (.reg false [
 ⟨some 53, .mv (.t 11), none⟩,
 ⟨some 6, .mv (.t 53), none⟩,
 ⟨some 7, .mv (.c (.int .i64 1)), none⟩])
 .ret)
 (.seq
 (.reg false [
 ⟨some 55, .bin .eql (.t 49) (.c (.int .i64 12)), none⟩,
 ⟨some 54, .mv (.t 55), none⟩])
 (.cond (.t 54)
 (.seq
 (.reg false [
 ⟨some 56, .mv (.t 11), none⟩,
 ⟨some 6, .mv (.t 56), none⟩,
 ⟨some 7, .mv (.c (.int .i64 2)), none⟩])
 .ret)
 (.seq
 (.reg false [
 ⟨some 50, .mv (.t 11), none⟩,
 ⟨some 6, .mv (.t 50), none⟩,
 ⟨some 7, .mv (.c (.int .i64 0)), none⟩])
 .ret)))))))))))))),
 [.tmp 6, .tmp 7]⟩

/-- slices.reverseRangeOrdered[string] -/
def i74 : IFun := ⟨3, 32,
 (.seq
 (.reg false [
 ⟨some 8, .mv (.t 1), none⟩,
 ⟨some 6, .mv (.t 8), none⟩])
 (.seq
 (.reg false [
 ⟨some 9, .mv (.t 2), none⟩,
 ⟨some 10, .bin .sub (.t 9) (.c (.int .i64 1)), none⟩,
 ⟨some 7, .mv (.t 10), none⟩])
 (.blk 0
 (.seq (.gh (.clr 193)) (.loop (.seq
 (.seq
 (.seq
 (.reg false [
 ⟨some 11, .mv (.t 6), none⟩,
 ⟨some 12, .mv (.t 7), none⟩,
 ⟨some 13, .bin .lss (.t 11) (.t 12), none⟩])
 (.cond (.t 13)
 .skip
 (.exit 0)))
 (.blk 1
 (.seq
 (.reg true [
 ⟨some 14, .mv (.t 0), none⟩,
 ⟨some 15, .mv (.t 6), none⟩,
 ⟨some 16, .mv (.t 0), none⟩,
 ⟨some 17, .mv (.t 7), none⟩,
 ⟨some 18, .mv (.t 0), none⟩,
 ⟨some 19, .mv (.t 7), none⟩,
 ⟨some 20, .ia 1 (.t 18) (.t 19), none⟩,
 ⟨some 21, .load false 1 (.t 20), none⟩,
 ⟨some 22, .mv (.t 0), none⟩,
 ⟨some 23, .mv (.t 6), none⟩,
 ⟨some 24, .ia 1 (.t 22) (.t 23), none⟩,
 ⟨some 25, .load false 1 (.t 24), none⟩,
 ⟨some 26, .ia 1 (.t 14) (.t 15), none⟩,
 ⟨none, .store 1 (.t 26) (.t 21), none⟩,
 ⟨some 27, .ia 1 (.t 16) (.t 17), none⟩,
 ⟨none, .store 1 (.t 27) (.t 25), none⟩])
 (.seq
 (.reg false [
 ⟨some 28, .mv (.t 6), none⟩,
 ⟨some 29, .bin .add (.t 28) (.c (.int .i64 1)), none⟩,
 ⟨some 6, .mv (.t 29), none⟩])
 (.reg false [
 ⟨some 30, .mv (.t 7), none⟩,
 ⟨some 31, .bin .sub (.t 30) (.c (.int .i64 1)), none⟩,
 ⟨some 7, .mv (.t 31), none⟩])))))
 (.gh (.clr 193)))))))),
 []⟩

/-- slices.partialInsertionSortOrdered[string] -/
def i75 : IFun := ⟨3, 133,
 (.seq
 (.reg false [
 ⟨some 6, .mv (.c (.bool false)), none⟩])
 (.seq
 (.reg false [
 ⟨some 11, .mv (.t 1), none⟩,
 ⟨some 12, .bin .add (.t 11) (.c (.int .i64 1)), none⟩,
 ⟨some 7, .mv (.t 12), none⟩])
 (.seq
 (.seq
 (.reg false [
 ⟨some 8, .mv (.c (.int .i64 0)), none⟩])
 (.blk 0
 (.seq (.gh (.clr 391)) (.loop (.seq
 (.seq
 (.seq
 (.reg false [
 ⟨some 13, .mv (.t 8), none⟩,
 ⟨some 14, .bin .lss (.t 13) (.c (.int .i64 5)), none⟩])
 (.cond (.t 14)
 .skip
 (.exit 0)))
 (.seq
 (.blk 1
 (.seq
 (.blk 2
 (.seq (.gh (.clr 391)) (.loop (.seq
 (.seq
 (.seq
 (.reg true [
 ⟨some 17, .mv (.t 7), none⟩,
 ⟨some 18, .mv (.t 2), none⟩,
 ⟨some 19, .bin .lss (.t 17) (.t 18), none⟩,
 ⟨some 20, .mv (.t 19), none⟩,
 ⟨some 21, .mv (.t 0), some (20, true)⟩,
 ⟨some 22, .mv (.t 7), some (20, true)⟩,
 ⟨some 23, .ia 1 (.t 21) (.t 22), some (20, true)⟩,
 ⟨some 24, .load false 1 (.t 23), some (20, true)⟩,
 ⟨some 25, .mv (.t 0), some (20, true)⟩,
 ⟨some 26, .mv (.t 7), some (20, true)⟩,
 ⟨some 27, .bin .sub (.t 26) (.c (.int .i64 1)), some (20, true)⟩,
 ⟨some 28, .ia 1 (.t 25) (.t 27), some (20, true)⟩,
 ⟨some 29, .load false 1 (.t 28), some (20, true)⟩,
 ⟨some 30, .pcall (.c (.fn (.f 76) [] [])) [(.t 24), (.t 29)], some (20, true)⟩,
 ⟨some 31, .un .not (.t 30), some (20, true)⟩,
 ⟨some 32, .pick (.t 20) (.t 31) (.c (.bool false)), none⟩])
 (.cond (.t 32)
 .skip
 (.exit 2)))
 (.blk 3
 (.reg false [
 ⟨some 33, .mv (.t 7), none⟩,
 ⟨some 34, .bin .add (.t 33) (.c (.int .i64 1)), none⟩,
 ⟨some 7, .mv (.t 34), none⟩])))
 (.gh (.clr 391))))))
 (.seq
 (.seq
 (.reg false [
 ⟨some 35, .mv (.t 7), none⟩,
 ⟨some 36, .mv (.t 2), none⟩,
 ⟨some 37, .bin .eql (.t 35) (.t 36), none⟩])
 (.cond (.t 37)
 (.seq
 (.reg false [
 ⟨some 6, .mv (.c (.bool true)), none⟩])
 .ret)
 .skip))
 (.seq
 (.seq
 (.reg false [
 ⟨some 38, .mv (.t 2), none⟩,
 ⟨some 39, .mv (.t 1), none⟩,
 ⟨some 40, .bin .sub (.t 38) (.t 39), none⟩,
 ⟨some 41, .bin .lss (.t 40) (.c (.int .i64 50)), none⟩])
 (.cond (.t 41)
 (.seq
 (.reg false [
 ⟨some 6, .mv (.c (.bool false)), none⟩])
 .ret)
 .skip))
 (.seq
 (.reg true [
 ⟨some 42, .mv (.t 0), none⟩,
 ⟨some 43, .mv (.t 7), none⟩,
 ⟨some 44, .mv (.t 0), none⟩,
 ⟨some 45, .mv (.t 7), none⟩,
 ⟨some 46, .bin .sub (.t 45) (.c (.int .i64 1)), none⟩,
 ⟨some 47, .mv (.t 0), none⟩,
 ⟨some 48, .mv (.t 7), none⟩,
 ⟨some 49, .bin .sub (.t 48) (.c (.int .i64 1)), none⟩,
 ⟨some 50, .ia 1 (.t 47) (.t 49), none⟩,
 ⟨some 51, .load false 1 (.t 50), none⟩,
 ⟨some 52, .mv (.t 0), none⟩,
 ⟨some 53, .mv (.t 7), none⟩,
 ⟨some 54, .ia 1 (.t 52) (.t 53), none⟩,
 ⟨some 55, .load false 1 (.t 54), none⟩,
 ⟨some 56, .ia 1 (.t 42) (.t 43), none⟩,
 ⟨none, .store 1 (.t 56) (.t 51), none⟩,
 ⟨some 57, .ia 1 (.t 44) (.t 46), none⟩,
 ⟨none, .store 1 (.t 57) (.t 55), none⟩])
 (.seq
 (.seq
 (.reg false [
 ⟨some 58, .mv (.t 7), none⟩,
 ⟨some 59, .mv (.t 1), none⟩,
 ⟨some 60, .bin .sub (.t 58) (.t 59), none⟩,
 ⟨some 61, .bin .geq (.t 60) (.c (.int .i64 2)), none⟩])
 (.cond (.t 61)
 (.seq
 (.reg false [
 ⟨some 62, .mv (.t 7), none⟩,
 ⟨some 63, .bin .sub (.t 62) (.c (.int .i64 1)), none⟩,
 ⟨some 9, .mv (.t 63), none⟩])
 (.blk 4
 (.seq (.gh (.clr 903)) (.loop (.seq
 (.seq
 (.seq
 (.reg false [
 ⟨some 64, .mv (.t 9), none⟩,
 ⟨some 65, .bin .geq (.t 64) (.c (.int .i64 1)), none⟩])
 (.cond (.t 65)
 .skip
 (.exit 4)))
 (.seq
 (.blk 5
 (.seq
 (.seq
 (.reg true [
 ⟨some 68, .mv (.t 0), none⟩,
 ⟨some 69, .mv (.t 9), none⟩,
 ⟨some 70, .ia 1 (.t 68) (.t 69), none⟩,
 ⟨some 71, .load false 1 (.t 70), none⟩,
 ⟨some 72, .mv (.t 0), none⟩,
 ⟨some 73, .mv (.t 9), none⟩,
 ⟨some 74, .bin .sub (.t 73) (.c (.int .i64 1)), none⟩,
 ⟨some 75, .ia 1 (.t 72) (.t 74), none⟩,
 ⟨some 76, .load false 1 (.t 75), none⟩,
 ⟨some 77, .pcall (.c (.fn (.f 76) [] [])) [(.t 71), (.t 76)], none⟩,
 ⟨some 78, .un .not (.t 77), none⟩])
 (.cond (.t 78)
 (.exit 4)
 .skip))
 (.reg true [
 ⟨some 79, .mv (.t 0), none⟩,
 ⟨some 80, .mv (.t 9), none⟩,
 ⟨some 81, .mv (.t 0), none⟩,
 ⟨some 82, .mv (.t 9), none⟩,
 ⟨some 83, .bin .sub (.t 82) (.c (.int .i64 1)), none⟩,
 ⟨some 84, .mv (.t 0), none⟩,
 ⟨some 85, .mv (.t 9), none⟩,
 ⟨some 86, .bin .sub (.t 85) (.c (.int .i64 1)), none⟩,
 ⟨some 87, .ia 1 (.t 84) (.t 86), none⟩,
 ⟨some 88, .load false 1 (.t 87), none⟩,
 ⟨some 89, .mv (.t 0), none⟩,
 ⟨some 90, .mv (.t 9), none⟩,
 ⟨some 91, .ia 1 (.t 89) (.t 90), none⟩,
 ⟨some 92, .load false 1 (.t 91), none⟩,
 ⟨some 93, .ia 1 (.t 79) (.t 80), none⟩,
 ⟨none, .store 1 (.t 93) (.t 88), none⟩,
 ⟨some 94, .ia 1 (.t 81) (.t 83), none⟩,
 ⟨none, .store 1 (.t 94) (.t 92), none⟩])))
 (.reg false [
 ⟨some 66, .mv (.t 9), none⟩,
 ⟨some 67, .bin .sub (.t 66) (.c (.int .i64 1)), none⟩,
 ⟨some 9, .mv (.t 67), none⟩])))
 (.gh (.clr 903)))))))
 .skip))
 (.seq
 (.reg false [
 ⟨some 95, .mv (.t 2), none⟩,
 ⟨some 96, .mv (.t 7), none⟩,
 ⟨some 97, .bin .sub (.t 95) (.t 96), none⟩,
 ⟨some 98, .bin .geq (.t 97) (.c (.int .i64 2)), none⟩])
 (.cond (.t 98)
 (.seq
 (.reg false [
 ⟨some 99, .mv (.t 7), none⟩,
 ⟨some 100, .bin .add (.t 99) (.c (.int .i64 1)), none⟩,
 ⟨some 10, .mv (.t 100), none⟩])
 (.blk 6
 (.seq (.gh (.clr 1415)) (.loop (.seq
 (.seq
 (.seq
 (.reg false [
 ⟨some 101, .mv (.t 10), none⟩,
 ⟨some 102, .mv (.t 2), none⟩,
 ⟨some 103, .bin .lss (.t 101) (.t 102), none⟩])
 (.cond (.t 103)
 .skip
 (.exit 6)))
 (.seq
 (.blk 7
 (.seq
 (.seq
 (.reg true [
 ⟨some 106, .mv (.t 0), none⟩,
 ⟨some 107, .mv (.t 10), none⟩,
 ⟨some 108, .ia 1 (.t 106) (.t 107), none⟩,
 ⟨some 109, .load false 1 (.t 108), none⟩,
 ⟨some 110, .mv (.t 0), none⟩,
 ⟨some 111, .mv (.t 10), none⟩,
 ⟨some 112, .bin .sub (.t 111) (.c (.int .i64 1)), none⟩,
 ⟨some 113, .ia 1 (.t 110) (.t 112), none⟩,
 ⟨some 114, .load false 1 (.t 113), none⟩,
 ⟨some 115, .pcall (.c (.fn (.f 76) [] [])) [(.t 109), (.t 114)], none⟩,
 ⟨some 116, .un .not (.t 115), none⟩])
 (.cond (.t 116)
 (.exit 6)
 .skip))
 (.reg true [
 ⟨some 117, .mv (.t 0), none⟩,
 ⟨some 118, .mv (.t 10), none⟩,
 ⟨some 119, .mv (.t 0), none⟩,
 ⟨some 120, .mv (.t 10), none⟩,
 ⟨some 121, .bin .sub (.t 120) (.c (.int .i64 1)), none⟩,
 ⟨some 122, .mv (.t 0), none⟩,
 ⟨some 123, .mv (.t 10), none⟩,
 ⟨some 124, .bin .sub (.t 123) (.c (.int .i64 1)), none⟩,
 ⟨some 125, .ia 1 (.t 122) (.t 124), none⟩,
 ⟨some 126, .load false 1 (.t 125), none⟩,
 ⟨some 127, .mv (.t 0), none⟩,
 ⟨some 128, .mv (.t 10), none⟩,
 ⟨some 129, .ia 1 (.t 127) (.t 128), none⟩,
 ⟨some 130, .load false 1 (.t 129), none⟩,
 ⟨some 131, .ia 1 (.t 117) (.t 118), none⟩,
 ⟨none, .store 1 (.t 131) (.t 126), none⟩,
 ⟨some 132, .ia 1 (.t 119) (.t 121), none⟩,
 ⟨none, .store 1 (.t 132) (.t 130), none⟩])))
 (.reg false [
 ⟨some 104, .mv (.t 10), none⟩,
 ⟨some 105, .bin .add (.t 104) (.c (.int .i64 1)), none⟩,
 ⟨some 10, .mv (.t 105), none⟩])))
 (.gh (.clr 1415)))))))
 .skip))))))))
 (.reg false [
 ⟨some 15, .mv (.t 8), none⟩,
 ⟨some 16, .bin .add (.t 15) (.c (.int .i64 1)), none⟩,
 ⟨some 8, .mv (.t 16), none⟩])))
 (.gh (.clr 391)))))))
 (.seq
 (.reg false [
 ⟨some 6, .mv (.c (.bool false)), none⟩])
 .ret)))),
 [.tmp 6]⟩

/-- cmp.Less[string] -/
def i76 : IFun := ⟨2, 17,
 (.seq
 (.reg false [
 ⟨some 4, .mv (.c (.bool false)), none⟩])
 (.seq
 (.reg false [
 ⟨some 5, .mv (.t 0), none⟩,
 ⟨some 6, .pcall (.c (.fn (.f 114) [] [])) [(.t 5)], none⟩,
 ⟨some 7, .mv (.t 6), none⟩,
 ⟨some 8, .mv (.t 1), some (7, true)⟩,
 ⟨some 9, .pcall (.c (.fn (.f 114) [] [])) [(.t 8)], some (7, true)⟩,
 ⟨some 10, .un .not (.t 9), some (7, true)⟩,
 ⟨some 11, .pick (.t 7) (.t 10) (.c (.bool false)), none⟩,
 ⟨some 12, .mv (.t 11), none⟩,
 ⟨some 13, .mv (.t 0), some (12, false)⟩,
 ⟨some 14, .mv (.t 1), some (12, false)⟩,
 ⟨some 15, .bin .lss (.t 13) (.t 14), some (12, false)⟩,
 ⟨some 16, .pick (.t 12) (.c (.bool true)) (.t 15), none⟩,
 ⟨some 4, .mv (.t 16), none⟩])
 .ret)),
 [.tmp 4]⟩

/-- slices.partitionEqualOrdered[string] -/
def i77 : IFun := ⟨4, 84,
 (.seq
 (.reg false [
 ⟨some 8, .mv (.c (.int .i64 0)), none⟩])
 (.seq
 (.reg true [
 ⟨some 11, .mv (.t 0), none⟩,
 ⟨some 12, .mv (.t 1), none⟩,
 ⟨some 13, .mv (.t 0), none⟩,
 ⟨some 14, .mv (.t 3), none⟩,
 ⟨some 15, .mv (.t 0), none⟩,
 ⟨some 16, .mv (.t 3), none⟩,
 ⟨some 17, .ia 1 (.t 15) (.t 16), none⟩,
 ⟨some 18, .load false 1 (.t 17), none⟩,
 ⟨some 19, .mv (.t 0), none⟩,
 ⟨some 20, .mv (.t 1), none⟩,
 ⟨some 21, .ia 1 (.t 19) (.t 20), none⟩,
 ⟨some 22, .load false 1 (.t 21), none⟩,
 ⟨some 23, .ia 1 (.t 11) (.t 12), none⟩,
 ⟨none, .store 1 (.t 23) (.t 18), none⟩,
 ⟨some 24, .ia 1 (.t 13) (.t 14), none⟩,
 ⟨none, .store 1 (.t 24) (.t 22), none⟩])
 (.seq
 (.reg false [
 ⟨some 25, .mv (.t 1), none⟩,
 ⟨some 26, .bin .add (.t 25) (.c (.int .i64 1)), none⟩,
 ⟨some 27, .mv (.t 2), none⟩,
 ⟨some 28, .bin .sub (.t 27) (.c (.int .i64 1)), none⟩,
 ⟨some 9, .mv (.t 26), none⟩,
 ⟨some 10, .mv (.t 28), none⟩])
 (.seq
 (.blk 0
 (.seq (.gh (.clr 1539)) (.loop (.seq
 (.blk 1
 (.seq
 (.blk 2
 (.seq (.gh (.clr 1539)) (.loop (.seq
 (.seq
 (.seq
 (.reg true [
 ⟨some 29, .mv (.t 9), none⟩,
 ⟨some 30, .mv (.t 10), none⟩,
 ⟨some 31, .bin .leq (.t 29) (.t 30), none⟩,
 ⟨some 32, .mv (.t 31), none⟩,
 ⟨some 33, .mv (.t 0), some (32, true)⟩,
 ⟨some 34, .mv (.t 1), some (32, true)⟩,
 ⟨some 35, .ia 1 (.t 33) (.t 34), some (32, true)⟩,
 ⟨some 36, .load false 1 (.t 35), some (32, true)⟩,
 ⟨some 37, .mv (.t 0), some (32, true)⟩,
 ⟨some 38, .mv (.t 9), some (32, true)⟩,
 ⟨some 39, .ia 1 (.t 37) (.t 38), some (32, true)⟩,
 ⟨some 40, .load false 1 (.t 39), some (32, true)⟩,
 ⟨some 41, .pcall (.c (.fn (.f 76) [] [])) [(.t 36), (.t 40)], some (32, true)⟩,
 ⟨some 42, .un .not (.t 41), some (32, true)⟩,
 ⟨some 43, .pick (.t 32) (.t 42) (.c (.bool false)), none⟩])
 (.cond (.t 43)
 .skip
 (.exit 2)))
 (.blk 3
 (.reg false [
 ⟨some 44, .mv (.t 9), none⟩,
 ⟨some 45, .bin .add (.t 44) (.c (.int .i64 1)), none⟩,
 ⟨some 9, .mv (.t 45), none⟩])))
 (.gh (.clr 1539))))))
 (.seq
 (.blk 4
 (.seq (.gh (.clr 1539)) (.loop (.seq
 (.seq
 (.seq
 (.reg true [
 ⟨some 46, .mv (.t 9), none⟩,
 ⟨some 47, .mv (.t 10), none⟩,
 ⟨some 48, .bin .leq (.t 46) (.t 47), none⟩,
 ⟨some 49, .mv (.t 48), none⟩,
 ⟨some 50, .mv (.t 0), some (49, true)⟩,
 ⟨some 51, .mv (.t 1), some (49, true)⟩,
 ⟨some 52, .ia 1 (.t 50) (.t 51), some (49, true)⟩,
 ⟨some 53, .load false 1 (.t 52), some (49, true)⟩,
 ⟨some 54, .mv (.t 0), some (49, true)⟩,
 ⟨some 55, .mv (.t 10), some (49, true)⟩,
 ⟨some 56, .ia 1 (.t 54) (.t 55), some (49, true)⟩,
 ⟨some 57, .load false 1 (.t 56), some (49, true)⟩,
 ⟨some 58, .pcall (.c (.fn (.f 76) [] [])) [(.t 53), (.t 57)], some (49, true)⟩,
 ⟨some 59, .pick (.t 49) (.t 58) (.c (.bool false)), none⟩])
 (.cond (.t 59)
 .skip
 (.exit 4)))
 (.blk 5
 (.reg false [
 ⟨some 60, .mv (.t 10), none⟩,
 ⟨some 61, .bin .sub (.t 60) (.c (.int .i64 1)), none⟩,
 ⟨some 10, .mv (.t 61), none⟩])))
 (.gh (.clr 1539))))))
 (.seq
 (.seq
 (.reg false [
 ⟨some 62, .mv (.t 9), none⟩,
 ⟨some 63, .mv (.t 10), none⟩,
 ⟨some 64, .bin .gtr (.t 62) (.t 63), none⟩])
 (.cond (.t 64)
 (.exit 0)
 .skip))
 (.seq
 (.reg true [
 ⟨some 65, .mv (.t 0), none⟩,
 ⟨some 66, .mv (.t 9), none⟩,
 ⟨some 67, .mv (.t 0), none⟩,
 ⟨some 68, .mv (.t 10), none⟩,
 ⟨some 69, .mv (.t 0), none⟩,
 ⟨some 70, .mv (.t 10), none⟩,
 ⟨some 71, .ia 1 (.t 69) (.t 70), none⟩,
 ⟨some 72, .load false 1 (.t 71), none⟩,
 ⟨some 73, .mv (.t 0), none⟩,
 ⟨some 74, .mv (.t 9), none⟩,
 ⟨some 75, .ia 1 (.t 73) (.t 74), none⟩,
 ⟨some 76, .load false 1 (.t 75), none⟩,
 ⟨some 77, .ia 1 (.t 65) (.t 66), none⟩,
 ⟨none, .store 1 (.t 77) (.t 72), none⟩,
 ⟨some 78, .ia 1 (.t 67) (.t 68), none⟩,
 ⟨none, .store 1 (.t 78) (.t 76), none⟩])
 (.seq
 (.reg false [
 ⟨some 79, .mv (.t 9), none⟩,
 ⟨some 80, .bin .add (.t 79) (.c (.int .i64 1)), none⟩,
 ⟨some 9, .mv (.t 80), none⟩])
 (.reg false [
 ⟨some 81, .mv (.t 10), none⟩,
 ⟨some 82, .bin .sub (.t 81) (.c (.int .i64 1)), none⟩,
 ⟨some 10, .mv (.t 82), none⟩])))))))
 (.gh (.clr 1539))))))
 (.seq
 (.reg false [
 ⟨some 83, .mv (.t 9), none⟩,
 ⟨some 8, .mv (.t 83), none⟩])
 .ret))))),
 [.tmp 8]⟩

/-- slices.partitionOrdered[string] -/
def i78 : IFun := ⟨4, 168,
 (.seq
 (.reg false [
 ⟨some 8, .mv (.c (.int .i64 0)), none⟩,
 ⟨some 9, .mv (.c (.bool false)), none⟩])
 (.seq
 (.reg true [
 ⟨some 12, .mv (.t 0), none⟩,
 ⟨some 13, .mv (.t 1), none⟩,
 ⟨some 14, .mv (.t 0), none⟩,
 ⟨some 15, .mv (.t 3), none⟩,
 ⟨some 16, .mv (.t 0), none⟩,
 ⟨some 17, .mv (.t 3), none⟩,
 ⟨some 18, .ia 1 (.t 16) (.t 17), none⟩,
 ⟨some 19, .load false 1 (.t 18), none⟩,
 ⟨some 20, .mv (.t 0), none⟩,
 ⟨some 21, .mv (.t 1), none⟩,
 ⟨some 22, .ia 1 (.t 20) (.t 21), none⟩,
 ⟨some 23, .load false 1 (.t 22), none⟩,
 ⟨some 24, .ia 1 (.t 12) (.t 13), none⟩,
 ⟨none, .store 1 (.t 24) (.t 19), none⟩,
 ⟨some 25, .ia 1 (.t 14) (.t 15), none⟩,
 ⟨none, .store 1 (.t 25) (.t 23), none⟩])
 (.seq
 (.reg false [
 ⟨some 26, .mv (.t 1), none⟩,
 ⟨some 27, .bin .add (.t 26) (.c (.int .i64 1)), none⟩,
 ⟨some 28, .mv (.t 2), none⟩,
 ⟨some 29, .bin .sub (.t 28) (.c (.int .i64 1)), none⟩,
 ⟨some 10, .mv (.t 27), none⟩,
 ⟨some 11, .mv (.t 29), none⟩])
 (.seq
 (.blk 0
 (.seq (.gh (.clr 3075)) (.loop (.seq
 (.seq
 (.seq
 (.reg true [
 ⟨some 30, .mv (.t 10), none⟩,
 ⟨some 31, .mv (.t 11), none⟩,
 ⟨some 32, .bin .leq (.t 30) (.t 31), none⟩,
 ⟨some 33, .mv (.t 32), none⟩,
 ⟨some 34, .mv (.t 0), some (33, true)⟩,
 ⟨some 35, .mv (.t 10), some (33, true)⟩,
 ⟨some 36, .ia 1 (.t 34) (.t 35), some (33, true)⟩,
 ⟨some 37, .load false 1 (.t 36), some (33, true)⟩,
 ⟨some 38, .mv (.t 0), some (33, true)⟩,
 ⟨some 39, .mv (.t 1), some (33, true)⟩,
 ⟨some 40, .ia 1 (.t 38) (.t 39), some (33, true)⟩,
 ⟨some 41, .load false 1 (.t 40), some (33, true)⟩,
 ⟨some 42, .pcall (.c (.fn (.f 76) [] [])) [(.t 37), (.t 41)], some (33, true)⟩,
 ⟨some 43, .pick (.t 33) (.t 42) (.c (.bool false)), none⟩])
 (.cond (.t 43)
 .skip
 (.exit 0)))
 (.blk 1
 (.reg false [
 ⟨some 44, .mv (.t 10), none⟩,
 ⟨some 45, .bin .add (.t 44) (.c (.int .i64 1)), none⟩,
 ⟨some 10, .mv (.t 45), none⟩])))
 (.gh (.clr 3075))))))
 (.seq
 (.blk 2
 (.seq (.gh (.clr 3075)) (.loop (.seq
 (.seq
 (.seq
 (.reg true [
 ⟨some 46, .mv (.t 10), none⟩,
 ⟨some 47, .mv (.t 11), none⟩,
 ⟨some 48, .bin .leq (.t 46) (.t 47), none⟩,
 ⟨some 49, .mv (.t 48), none⟩,
 ⟨some 50, .mv (.t 0), some (49, true)⟩,
 ⟨some 51, .mv (.t 11), some (49, true)⟩,
 ⟨some 52, .ia 1 (.t 50) (.t 51), some (49, true)⟩,
 ⟨some 53, .load false 1 (.t 52), some (49, true)⟩,
 ⟨some 54, .mv (.t 0), some (49, true)⟩,
 ⟨some 55, .mv (.t 1), some (49, true)⟩,
 ⟨some 56, .ia 1 (.t 54) (.t 55), some (49, true)⟩,
 ⟨some 57, .load false 1 (.t 56), some (49, true)⟩,
 ⟨some 58, .pcall (.c (.fn (.f 76) [] [])) [(.t 53), (.t 57)], some (49, true)⟩,
 ⟨some 59, .un .not (.t 58), some (49, true)⟩,
 ⟨some 60, .pick (.t 49) (.t 59) (.c (.bool false)), none⟩])
 (.cond (.t 60)
 .skip
 (.exit 2)))
 (.blk 3
 (.reg false [
 ⟨some 61, .mv (.t 11), none⟩,
 ⟨some 62, .bin .sub (.t 61) (.c (.int .i64 1)), none⟩,
 ⟨some 11, .mv (.t 62), none⟩])))
 (.gh (.clr 3075))))))
 (.seq
 (.seq
 (.reg false [
 ⟨some 63, .mv (.t 10), none⟩,
 ⟨some 64, .mv (.t 11), none⟩,
 ⟨some 65, .bin .gtr (.t 63) (.t 64), none⟩])
 (.cond (.t 65)
 (.seq
 (.reg true [
 ⟨some 66, .mv (.t 0), none⟩,
 ⟨some 67, .mv (.t 11), none⟩,
 ⟨some 68, .mv (.t 0), none⟩,
 ⟨some 69, .mv (.t 1), none⟩,
 ⟨some 70, .mv (.t 0), none⟩,
 ⟨some 71, .mv (.t 1), none⟩,
 ⟨some 72, .ia 1 (.t 70) (.t 71), none⟩,
 ⟨some 73, .load false 1 (.t 72), none⟩,
 ⟨some 74, .mv (.t 0), none⟩,
 ⟨some 75, .mv (.t 11), none⟩,
 ⟨some 76, .ia 1 (.t 74) (.t 75), none⟩,
 ⟨some 77, .load false 1 (.t 76), none⟩,
 ⟨some 78, .ia 1 (.t 66) (.t 67), none⟩,
 ⟨none, .store 1 (.t 78) (.t 73), none⟩,
 ⟨some 79, .ia 1 (.t 68) (.t 69), none⟩,
 ⟨none, .store 1 (.t 79) (.t 77), none⟩])
 (.seq
 (.reg false [
 ⟨some 80, .mv (.t 11), none⟩,
 ⟨some 8, .mv (.t 80), none⟩,
 ⟨some 9, .mv (.c (.bool true)), none⟩])
 .ret))
 .skip))
 (.seq
 (.reg true [
 ⟨some 81, .mv (.t 0), none⟩,
 ⟨some 82, .mv (.t 10), none⟩,
 ⟨some 83, .mv (.t 0), none⟩,
 ⟨some 84, .mv (.t 11), none⟩,
 ⟨some 85, .mv (.t 0), none⟩,
 ⟨some 86, .mv (.t 11), none⟩,
 ⟨some 87, .ia 1 (.t 85) (.t 86), none⟩,
 ⟨some 88, .load false 1 (.t 87), none⟩,
 ⟨some 89, .mv (.t 0), none⟩,
 ⟨some 90, .mv (.t 10), none⟩,
 ⟨some 91, .ia 1 (.t 89) (.t 90), none⟩,
 ⟨some 92, .load false 1 (.t 91), none⟩,
 ⟨some 93, .ia 1 (.t 81) (.t 82), none⟩,
 ⟨none, .store 1 (.t 93) (.t 88), none⟩,
 ⟨some 94, .ia 1 (.t 83) (.t 84), none⟩,
 ⟨none, .store 1 (.t 94) (.t 92), none⟩])
 (.seq
 (.reg false [
 ⟨some 95, .mv (.t 10), none⟩,
 ⟨some 96, .bin .add (.t 95) (.c (.int .i64 1)), none⟩,
 ⟨some 10, .mv (.t 96), none⟩])
 (.seq
 (.reg false [
 ⟨some 97, .mv (.t 11), none⟩,
 ⟨some 98, .bin .sub (.t 97) (.c (.int .i64 1)), none⟩,
 ⟨some 11, .mv (.t 98), none⟩])
 (.seq
 (.blk 4
 (.seq (.gh (.clr 3075)) (.loop (.seq
 (.blk 5
 (.seq
 (.blk 6
 (.seq (.gh (.clr 3075)) (.loop (.seq
 (.seq
 (.seq
 (.reg true [
 ⟨some 99, .mv (.t 10), none⟩,
 ⟨some 100, .mv (.t 11), none⟩,
 ⟨some 101, .bin .leq (.t 99) (.t 100), none⟩,
 ⟨some 102, .mv (.t 101), none⟩,
 ⟨some 103, .mv (.t 0), some (102, true)⟩,
 ⟨some 104, .mv (.t 10), some (102, true)⟩,
 ⟨some 105, .ia 1 (.t 103) (.t 104), some (102, true)⟩,
 ⟨some 106, .load false 1 (.t 105), some (102, true)⟩,
 ⟨some 107, .mv (.t 0), some (102, true)⟩,
 ⟨some 108, .mv (.t 1), some (102, true)⟩,
 ⟨some 109, .ia 1 (.t 107) (.t 108), some (102, true)⟩,
 ⟨some 110, .load false 1 (.t 109), some (102, true)⟩,
 ⟨some 111, .pcall (.c (.fn (.f 76) [] [])) [(.t 106), (.t 110)], some (102, true)⟩,
 ⟨some 112, .pick (.t 102) (.t 111) (.c (.bool false)), none⟩])
 (.cond (.t 112)
 .skip
 (.exit 6)))
 (.blk 7
 (.reg false [
 ⟨some 113, .mv (.t 10), none⟩,
 ⟨some 114, .bin .add (.t 113) (.c (.int .i64 1)), none⟩,
 ⟨some 10, .mv (.t 114), none⟩])))
 (.gh (.clr 3075))))))
 (.seq
 (.blk 8
 (.seq (.gh (.clr 3075)) (.loop (.seq
 (.seq
 (.seq
 (.reg true [
 ⟨some 115, .mv (.t 10), none⟩,
 ⟨some 116, .mv (.t 11), none⟩,
 ⟨some 117, .bin .leq (.t 115) (.t 116), none⟩,
 ⟨some 118, .mv (.t 117), none⟩,
 ⟨some 119, .mv (.t 0), some (118, true)⟩,
 ⟨some 120, .mv (.t 11), some (118, true)⟩,
 ⟨some 121, .ia 1 (.t 119) (.t 120), some (118, true)⟩,
 ⟨some 122, .load false 1 (.t 121), some (118, true)⟩,
 ⟨some 123, .mv (.t 0), some (118, true)⟩,
 ⟨some 124, .mv (.t 1), some (118, true)⟩,
 ⟨some 125, .ia 1 (.t 123) (.t 124), some (118, true)⟩,
 ⟨some 126, .load false 1 (.t 125), some (118, true)⟩,
 ⟨some 127, .pcall (.c (.fn (.f 76) [] [])) [(.t 122), (.t 126)], some (118, true)⟩,
 ⟨some 128, .un .not (.t 127), some (118, true)⟩,
 ⟨some 129, .pick (.t 118) (.t 128) (.c (.bool false)), none⟩])
 (.cond (.t 129)
 .skip
 (.exit 8)))
 (.blk 9
 (.reg false [
 ⟨some 130, .mv (.t 11), none⟩,
 ⟨some 131, .bin .sub (.t 130) (.c (.int .i64 1)), none⟩,
 ⟨some 11, .mv (.t 131), none⟩])))
 (.gh (.clr 3075))))))
 (.seq
 (.seq
 (.reg false [
 ⟨some 132, .mv (.t 10), none⟩,
 ⟨some 133, .mv (.t 11), none⟩,
 ⟨some 134, .bin .gtr (.t 132) (.t 133), none⟩])
 (.cond (.t 134)
 (.exit 4)
 .skip))
 (.seq
 (.reg true [
 ⟨some 135, .mv (.t 0), none⟩,
 ⟨some 136, .mv (.t 10), none⟩,
 ⟨some 137, .mv (.t 0), none⟩,
 ⟨some 138, .mv (.t 11), none⟩,
 ⟨some 139, .mv (.t 0), none⟩,
 ⟨some 140, .mv (.t 11), none⟩,
 ⟨some 141, .ia 1 (.t 139) (.t 140), none⟩,
 ⟨some 142, .load false 1 (.t 141), none⟩,
 ⟨some 143, .mv (.t 0), none⟩,
 ⟨some 144, .mv (.t 10), none⟩,
 ⟨some 145, .ia 1 (.t 143) (.t 144), none⟩,
 ⟨some 146, .load false 1 (.t 145), none⟩,
 ⟨some 147, .ia 1 (.t 135) (.t 136), none⟩,
 ⟨none, .store 1 (.t 147) (.t 142), none⟩,
 ⟨some 148, .ia 1 (.t 137) (.t 138), none⟩,
 ⟨none, .store 1 (.t 148) (.t 146), none⟩])
 (.seq
 (.reg false [
 ⟨some 149, .mv (.t 10), none⟩,
 ⟨some 150, .bin .add (.t 149) (.c (.int .i64 1)), none⟩,
 ⟨some 10, .mv (.t 150), none⟩])
 (.reg false [
 ⟨some 151, .mv (.t 11), none⟩,
 ⟨some 152, .bin .sub (.t 151) (.c (.int .i64 1)), none⟩,
 ⟨some 11, .mv (.t 152), none⟩])))))))
 (.gh (.clr 3075))))))
 (.seq
 (.reg true [
 ⟨some 153, .mv (.t 0), none⟩,
 ⟨some 154, .mv (.t 11), none⟩,
 ⟨some 155, .mv (.t 0), none⟩,
 ⟨some 156, .mv (.t 1), none⟩,
 ⟨some 157, .mv (.t 0), none⟩,
 ⟨some 158, .mv (.t 1), none⟩,
 ⟨some 159, .ia 1 (.t 157) (.t 158), none⟩,
 ⟨some 160, .load false 1 (.t 159), none⟩,
 ⟨some 161, .mv (.t 0), none⟩,
 ⟨some 162, .mv (.t 11), none⟩,
 ⟨some 163, .ia 1 (.t 161) (.t 162), none⟩,
 ⟨some 164, .load false 1 (.t 163), none⟩,
 ⟨some 165, .ia 1 (.t 153) (.t 154), none⟩,
 ⟨none, .store 1 (.t 165) (.t 160), none⟩,
 ⟨some 166, .ia 1 (.t 155) (.t 156), none⟩,
 ⟨none, .store 1 (.t 166) (.t 164), none⟩])
 (.seq
 (.reg false [
 ⟨some 167, .mv (.t 11), none⟩,
 ⟨some 8, .mv (.t 167), none⟩,
 ⟨some 9, .mv (.c (.bool false)), none⟩])
 .ret)))))))))))),
 [.tmp 8, .tmp 9]⟩

/-- math/bits.Len32 -/
def i79 : IFun := ⟨1, 19,
 (.seq
 (.reg false [
 ⟨some 2, .mv (.c (.int .i64 0)), none⟩])
 (.seq
 (.seq
 (.reg false [
 ⟨some 3, .mv (.t 0), none⟩,
 ⟨some 4, .bin .geq (.t 3) (.c (.int .u32 65536)), none⟩])
 (.cond (.t 4)
 (.seq
 (.reg false [
 ⟨some 5, .mv (.t 0), none⟩,
 ⟨some 6, .bin .shr (.t 5) (.c (.int .u64 16)), none⟩,
 ⟨some 0, .mv (.t 6), none⟩])
 (.reg false [
 ⟨some 2, .mv (.c (.int .i64 16)), none⟩]))
 .skip))
 (.seq
 (.seq
 (.reg false [
 ⟨some 7, .mv (.t 0), none⟩,
 ⟨some 8, .bin .geq (.t 7) (.c (.int .u32 256)), none⟩])
 (.cond (.t 8)
 (.seq
 (.reg false [
 ⟨some 9, .mv (.t 0), none⟩,
 ⟨some 10, .bin .shr (.t 9) (.c (.int .u64 8)), none⟩,
 ⟨some 0, .mv (.t 10), none⟩])
 (.reg false [
 ⟨some 11, .mv (.t 2), none⟩,
 ⟨some 12, .bin .add (.t 11) (.c (.int .i64 8)), none⟩,
 ⟨some 2, .mv (.t 12), none⟩]))
 .skip))
 (.seq
 (.reg false [
 ⟨some 13, .mv (.t 2), none⟩,
 ⟨some 14, .mv (.t 0), none⟩,
 ⟨some 15, .conv .u8 (.t 14), none⟩,
 ⟨some 16, .ixs (.c (.str [0, 1, 2, 2, 3, 3, 3, 3, 4, 4, 4, 4, 4, 4, 4, 4, 5, 5, 5, 5, 5, 5, 5, 5, 5, 5, 5, 5, 5, 5, 5, 5, 6, 6, 6, 6, 6, 6, 6, 6, 6, 6, 6, 6, 6, 6, 6, 6, 6, 6, 6, 6, 6, 6, 6, 6, 6, 6, 6, 6, 6, 6, 6, 6, 7, 7, 7, 7, 7, 7, 7, 7, 7, 7, 7, 7, 7, 7, 7, 7, 7, 7, 7, 7, 7, 7, 7, 7, 7, 7, 7, 7, 7, 7, 7, 7, 7, 7, 7, 7, 7, 7, 7, 7, 7, 7, 7, 7, 7, 7, 7, 7, 7, 7, 7, 7, 7, 7, 7, 7, 7, 7, 7, 7, 7, 7, 7, 7, 8, 8, 8, 8, 8, 8, 8, 8, 8, 8, 8, 8, 8, 8, 8, 8, 8, 8, 8, 8, 8, 8, 8, 8, 8, 8, 8, 8, 8, 8, 8, 8, 8, 8, 8, 8, 8, 8, 8, 8, 8, 8, 8, 8, 8, 8, 8, 8, 8, 8, 8, 8, 8, 8, 8, 8, 8, 8, 8, 8, 8, 8, 8, 8, 8, 8, 8, 8, 8, 8, 8, 8, 8, 8, 8, 8, 8, 8, 8, 8, 8, 8, 8, 8, 8, 8, 8, 8, 8, 8, 8, 8, 8, 8, 8, 8, 8, 8, 8, 8, 8, 8, 8, 8, 8, 8, 8, 8, 8, 8, 8, 8, 8, 8, 8, 8, 8, 8, 8, 8, 8, 8, 8, 8, 8, 8, 8, 8])) (.t 15), none⟩,
 ⟨some 17, .conv .i64 (.t 16), none⟩,
 ⟨some 18, .bin .add (.t 13) (.t 17), none⟩,
 ⟨some 2, .mv (.t 18), none⟩])
 .ret)))),
 [.tmp 2]⟩

/-- math/bits.Len64 -/
def i80 : IFun := ⟨1, 25,
 (.seq
 (.reg false [
 ⟨some 2, .mv (.c (.int .i64 0)), none⟩])
 (.seq
 (.seq
 (.reg false [
 ⟨some 3, .mv (.t 0), none⟩,
 ⟨some 4, .bin .geq (.t 3) (.c (.int .u64 4294967296)), none⟩])
 (.cond (.t 4)
 (.seq
 (.reg false [
 ⟨some 5, .mv (.t 0), none⟩,
 ⟨some 6, .bin .shr (.t 5) (.c (.int .u64 32)), none⟩,
 ⟨some 0, .mv (.t 6), none⟩])
 (.reg false [
 ⟨some 2, .mv (.c (.int .i64 32)), none⟩]))
 .skip))
 (.seq
 (.seq
 (.reg false [
 ⟨some 7, .mv (.t 0), none⟩,
 ⟨some 8, .bin .geq (.t 7) (.c (.int .u64 65536)), none⟩])
 (.cond (.t 8)
 (.seq
 (.reg false [
 ⟨some 9, .mv (.t 0), none⟩,
 ⟨some 10, .bin .shr (.t 9) (.c (.int .u64 16)), none⟩,
 ⟨some 0, .mv (.t 10), none⟩])
 (.reg false [
 ⟨some 11, .mv (.t 2), none⟩,
 ⟨some 12, .bin .add (.t 11) (.c (.int .i64 16)), none⟩,
 ⟨some 2, .mv (.t 12), none⟩]))
 .skip))
 (.seq
 (.seq
 (.reg false [
 ⟨some 13, .mv (.t 0), none⟩,
 ⟨some 14, .bin .geq (.t 13) (.c (.int .u64 256)), none⟩])
 (.cond (.t 14)
 (.seq
 (.reg false [
 ⟨some 15, .mv (.t 0), none⟩,
 ⟨some 16, .bin .shr (.t 15) (.c (.int .u64 8)), none⟩,
 ⟨some 0, .mv (.t 16), none⟩])
 (.reg false [
 ⟨some 17, .mv (.t 2), none⟩,
 ⟨some 18, .bin .add (.t 17) (.c (.int .i64 8)), none⟩,
 ⟨some 2, .mv (.t 18), none⟩]))
 .skip))
 (.seq
 (.reg false [
 ⟨some 19, .mv (.t 2), none⟩,
 ⟨some 20, .mv (.t 0), none⟩,
 ⟨some 21, .conv .u8 (.t 20), none⟩,
 ⟨some 22, .ixs (.c (.str [0, 1, 2, 2, 3, 3, 3, 3, 4, 4, 4, 4, 4, 4, 4, 4, 5, 5, 5, 5, 5, 5, 5, 5, 5, 5, 5, 5, 5, 5, 5, 5, 6, 6, 6, 6, 6, 6, 6, 6, 6, 6, 6, 6, 6, 6, 6, 6, 6, 6, 6, 6, 6, 6, 6, 6, 6, 6, 6, 6, 6, 6, 6, 6, 7, 7, 7, 7, 7, 7, 7, 7, 7, 7, 7, 7, 7, 7, 7, 7, 7, 7, 7, 7, 7, 7, 7, 7, 7, 7, 7, 7, 7, 7, 7, 7, 7, 7, 7, 7, 7, 7, 7, 7, 7, 7, 7, 7, 7, 7, 7, 7, 7, 7, 7, 7, 7, 7, 7, 7, 7, 7, 7, 7, 7, 7, 7, 7, 8, 8, 8, 8, 8, 8, 8, 8, 8, 8, 8, 8, 8, 8, 8, 8, 8, 8, 8, 8, 8, 8, 8, 8, 8, 8, 8, 8, 8, 8, 8, 8, 8, 8, 8, 8, 8, 8, 8, 8, 8, 8, 8, 8, 8, 8, 8, 8, 8, 8, 8, 8, 8, 8, 8, 8, 8, 8, 8, 8, 8, 8, 8, 8, 8, 8, 8, 8, 8, 8, 8, 8, 8, 8, 8, 8, 8, 8, 8, 8, 8, 8, 8, 8, 8, 8, 8, 8, 8, 8, 8, 8, 8, 8, 8, 8, 8, 8, 8, 8, 8, 8, 8, 8, 8, 8, 8, 8, 8, 8, 8, 8, 8, 8, 8, 8, 8, 8, 8, 8, 8, 8, 8, 8, 8, 8, 8, 8])) (.t 21), none⟩,
 ⟨some 23, .conv .i64 (.t 22), none⟩,
 ⟨some 24, .bin .add (.t 19) (.t 23), none⟩,
 ⟨some 2, .mv (.t 24), none⟩])
 .ret))))),
 [.tmp 2]⟩

/-- bloomery/tree.Get$1 -/
def i81 : IFun := ⟨2, 8,
 (.seq
 (.reg false [
 ⟨some 2, .boxv (.t 0), none⟩,
 ⟨some 3, .mv (.c (.bool false)), none⟩])
 (.seq
 (.reg false [
 ⟨some 4, .fa (.t 2) 0, none⟩,
 ⟨some 5, .loadv false 1 (.t 4), none⟩,
 ⟨some 6, .loadv false 1 (.t 1), none⟩,
 ⟨some 7, .bin .eql (.t 5) (.t 6), none⟩,
 ⟨some 3, .mv (.t 7), none⟩])
 .ret)),
 [.tmp 3]⟩

/-- slices.Clone[[]bloomery/api.Setting,bloomery/api.Setting] -/
def i82 : IFun := ⟨1, 8,
 (.seq
 (.reg false [
 ⟨some 2, .mv (.c (.zsl true)), none⟩])
 (.seq
 (.seq
 (.reg false [
 ⟨some 3, .mv (.t 0), none⟩,
 ⟨some 4, .nileq 4 false (.t 3), none⟩])
 (.cond (.t 4)
 (.seq
 (.reg false [
 ⟨some 2, .mv (.c (.zsl true)), none⟩])
 .ret)
 .skip))
 (.seq
 (.reg false [
 ⟨some 5, .bsl 2 [], none⟩,
 ⟨some 6, .mv (.t 0), none⟩,
 ⟨some 7, .app 2 32 (.t 5) (.t 6), none⟩,
 ⟨some 2, .mv (.t 7), none⟩])
 .ret))),
 [.tmp 2]⟩

/-- bloomery/tool.Start -/
def i83 : IFun := ⟨2, 41,
 (.seq
 (.reg false [
 ⟨some 4, .mv (.c (.nilp)), none⟩,
 ⟨some 5, .mv (.c (.int .i64 0)), none⟩])
 (.seq
 (.reg false [
 ⟨some 13, .mv (.t 0), none⟩,
 ⟨some 14, .pcall (.c (.fn (.f 115) [] [])) [(.t 13)], none⟩,
 ⟨some 12, .mv (.t 14), none⟩,
 ⟨some 15, .ext (.t 12) 0, none⟩,
 ⟨some 16, .ext (.t 12) 1, none⟩,
 ⟨some 17, .ext (.t 12) 2, none⟩,
 ⟨some 6, .mv (.t 15), none⟩,
 ⟨some 7, .mv (.t 16), none⟩,
 ⟨some 8, .mv (.t 17), none⟩])
 (.seq
 (.seq
 (.reg false [
 ⟨some 18, .mv (.t 7), none⟩,
 ⟨some 19, .bin .neq (.t 18) (.c (.int .i64 0)), none⟩])
 (.cond (.t 19)
 (.seq
 (.reg false [
 ⟨some 20, .mv (.t 7), none⟩,
 ⟨some 4, .mv (.c (.nilp)), none⟩,
 ⟨some 5, .mv (.t 20), none⟩])
 .ret)
 .skip))
 (.seq
 (.seq
 (.reg false [
 ⟨some 21, .mv (.t 1), none⟩,
 ⟨some 22, .pcall (.c (.fn (.f 82) [] [])) [(.t 21)], none⟩,
 ⟨some 23, .mkmap, none⟩,
 ⟨some 24, .build [.zsl true, .zsl true, .str [], .nilm, .str [], .bool false, .int .i64 0, .str [], .str [], .int .i64 0] [(1, 1, (.t 22)), (3, 1, (.t 23))], none⟩,
 ⟨some 25, .boxr (.t 24), none⟩,
 ⟨some 9, .alloc [.nilp], none⟩,
 ⟨none, .store 1 (.t 9) (.t 25), none⟩])
 (.gh (.frz 9)))
 (.seq
 (.seq
 (.reg false [
 ⟨some 26, .mv (.t 6), none⟩,
 ⟨some 27, .call (.c (.fn (.f 116) [] [])) [(.t 26)], none⟩])
 (.blk 0
 (.rf (.t 27) [28, 29]
 (.seq
 (.reg false [
 ⟨some 11, .alloc [.zsl true, .str []], none⟩,
 ⟨none, .store 2 (.t 11) (.t 29), none⟩])
 (.gh (.frz 11)))
 (.blk 1
 (.reg true [
 ⟨some 30, .loadv false 1 (.t 9), none⟩,
 ⟨some 31, .loadv false 1 (.t 9), none⟩,
 ⟨some 32, .nchk (.t 31), none⟩,
 ⟨some 33, .fa (.t 32) 0, none⟩,
 ⟨some 34, .load false 1 (.t 33), none⟩,
 ⟨some 35, .mkfn 117 [] [(.t 9), (.t 11)], none⟩,
 ⟨some 36, .bsl 1 [(.t 35)], none⟩,
 ⟨some 37, .app 1 8 (.t 34) (.t 36), none⟩,
 ⟨some 38, .nchk (.t 30), none⟩,
 ⟨some 39, .fa (.t 38) 0, none⟩,
 ⟨none, .store 1 (.t 39) (.t 37), none⟩])))))
 (.seq
 (.reg false [
 ⟨some 40, .loadv false 1 (.t 9), none⟩,
 ⟨some 4, .mv (.t 40), none⟩,
 ⟨some 5, .mv (.c (.int .i64 0)), none⟩])
 .ret)))))),
 [.tmp 4, .tmp 5]⟩

/-- bloomery/box.reader -/
def i84 : IFun := ⟨1, 16,
 (.seq
 (.reg false [
 ⟨some 1, .boxv (.t 0), none⟩,
 ⟨some 2, .mv (.c (.nilf)), none⟩])
 (.seq
 (.seq
 (.seq
 (.seq
 (.seq
 (.seq
 (.seq
 (.reg true [
 ⟨some 6, .fa (.t 1) 4, none⟩,
 ⟨some 7, .loadv false 1 (.t 6), none⟩,
 ⟨some 8, .pcall (.c (.fn (.f 23) [] [])) [(.t 7)], none⟩,
 ⟨some 9, .fa (.t 1) 5, none⟩,
 ⟨some 10, .loadv false 1 (.t 9), none⟩,
 ⟨some 11, .pcall (.c (.fn (.f 23) [] [])) [(.t 10)], none⟩,
 ⟨some 12, .fa (.t 1) 6, none⟩,
 ⟨some 13, .loadv false 1 (.t 12), none⟩,
 ⟨some 14, .pcall (.c (.fn (.f 23) [] [])) [(.t 13)], none⟩,
 ⟨some 3, .alloc [.zsl true], none⟩,
 ⟨some 4, .alloc [.zsl true], none⟩,
 ⟨some 5, .alloc [.zsl true], none⟩,
 ⟨none, .store 1 (.t 3) (.t 8), none⟩,
 ⟨none, .store 1 (.t 4) (.t 11), none⟩,
 ⟨none, .store 1 (.t 5) (.t 14), none⟩])
 (.gh (.frz 3)))
 (.gh (.frz 4)))
 (.gh (.frz 5)))
 (.gh .pop))
 (.gh .pop))
 (.gh .pop))
 (.seq
 (.reg false [
 ⟨some 15, .mkfn 118 [] [(.t 5), (.t 3), (.t 4)], none⟩,
 ⟨some 2, .mv (.t 15), none⟩])
 .ret))),
 [.tmp 2]⟩

/-- (*bloomery/box.Box).goOn -/
def i85 : IFun := ⟨1, 56,
 (.seq
 (.reg false [
 ⟨some 1, .boxv (.t 0), none⟩])
 (.blk 0
 (.seq (.gh (.clr 2)) (.loop (.seq
 (.seq
 (.seq
 (.reg false [
 ⟨some 3, .loadv false 1 (.t 1), none⟩,
 ⟨some 4, .nchk (.t 3), none⟩,
 ⟨some 5, .fa (.t 4) 6, none⟩,
 ⟨some 6, .load false 1 (.t 5), none⟩,
 ⟨some 7, .un .not (.t 6), none⟩])
 (.cond (.t 7)
 .skip
 (.exit 0)))
 (.blk 1
 (.seq
 (.seq
 (.reg false [
 ⟨some 8, .loadv false 1 (.t 1), none⟩,
 ⟨some 9, .nchk (.t 8), none⟩,
 ⟨some 10, .fa (.t 9) 0, none⟩,
 ⟨some 11, .load false 1 (.t 10), none⟩,
 ⟨some 12, .call (.c (.fn (.f 119) [] [])) [(.t 11)], none⟩,
 ⟨some 2, .alloc [.int .i64 0, .str [], .str [], .int .i64 0], none⟩,
 ⟨none, .store 4 (.t 2) (.t 12), none⟩])
 (.gh (.frz 2)))
 (.seq
 (.reg false [
 ⟨some 13, .fa (.t 2) 0, none⟩,
 ⟨some 14, .loadv false 1 (.t 13), none⟩])
 (.blk 2
 (.seq
 (.reg false [
 ⟨some 20, .bin .eql (.t 14) (.c (.int .i64 1)), none⟩,
 ⟨some 19, .mv (.t 20), none⟩])
 (.cond (.t 19)
 (.seq
 (.seq
 (.reg true [
 ⟨some 21, .loadv false 1 (.t 1), none⟩,
 ⟨some 22, .nchk (.t 21), none⟩,
 ⟨some 23, .fa (.t 22) 2, none⟩,
 ⟨some 24, .load false 1 (.t 23), none⟩,
 ⟨some 25, .fa (.t 2) 1, none⟩,
 ⟨some 26, .loadv false 1 (.t 25), none⟩,
 ⟨some 27, .call (.t 24) [(.t 26)], none⟩])
 (.cond (.t 27)
 (.seq
 (.reg false [
 ⟨some 28, .loadv false 1 (.t 1), none⟩,
 ⟨some 29, .fa (.t 2) 1, none⟩,
 ⟨some 30, .loadv false 1 (.t 29), none⟩,
 ⟨some 31, .nchk (.t 28), none⟩,
 ⟨some 32, .fa (.t 31) 5, none⟩,
 ⟨none, .store 1 (.t 32) (.t 30), none⟩])
 .ret)
 .skip))
 (.reg false [
 ⟨some 33, .loadv false 1 (.t 1), none⟩,
 ⟨some 34, .call (.c (.fn (.f 91) [] [])) [(.t 33), (.c (.int .i64 13))], none⟩]))
 (.seq
 (.reg false [
 ⟨some 36, .bin .eql (.t 14) (.c (.int .i64 2)), none⟩,
 ⟨some 35, .mv (.t 36), none⟩])
 (.cond (.t 35)
 (.reg false [
 ⟨some 37, .loadv false 1 (.t 1), none⟩,
 ⟨some 38, .fa (.t 2) 1, none⟩,
 ⟨some 39, .loadv false 1 (.t 38), none⟩,
 ⟨some 40, .fa (.t 2) 2, none⟩,
 ⟨some 41, .loadv false 1 (.t 40), none⟩,
 ⟨some 42, .call (.c (.fn (.f 120) [] [])) [(.t 37), (.t 39), (.t 41)], none⟩])
 (.seq
 (.reg false [
 ⟨some 44, .bin .eql (.t 14) (.c (.int .i64 3)), none⟩,
 ⟨some 43, .mv (.t 44), none⟩])
 (.cond (.t 43)
 (.seq
 (.reg false [
 ⟨some 45, .loadv false 1 (.t 1), none⟩,
 ⟨some 46, .nchk (.t 45), none⟩,
 ⟨some 47, .fa (.t 46) 6, none⟩,
 ⟨none, .store 1 (.t 47) (.c (.bool true)), none⟩])
 (.seq
 (.reg false [
 ⟨some 48, .loadv false 1 (.t 1), none⟩,
 ⟨some 49, .nchk (.t 48), none⟩,
 ⟨some 50, .fa (.t 49) 1, none⟩,
 ⟨some 51, .load false 1 (.t 50), none⟩,
 ⟨some 52, .mkfn 121 [] [(.t 1)], none⟩,
 ⟨some 53, .pcall (.c (.fn (.f 105) [] [])) [(.t 51), (.t 52)], none⟩])
 (.cond (.t 53)
 (.reg false [
 ⟨some 54, .loadv false 1 (.t 1), none⟩,
 ⟨some 55, .call (.c (.fn (.f 91) [] [])) [(.t 54), (.c (.int .i64 14))], none⟩])
 .skip)))
 (.reg false [
 ⟨some 15, .loadv false 1 (.t 1), none⟩,
 ⟨some 16, .fa (.t 2) 3, none⟩,
 ⟨some 17, .loadv false 1 (.t 16), none⟩,
 ⟨some 18, .call (.c (.fn (.f 91) [] [])) [(.t 15), (.t 17)], none⟩]))))))))))))
 (.gh (.clr 2))))))),
 []⟩

/-- slices.Clone[[]bloomery/api.Read,bloomery/api.Read] -/
def i86 : IFun := ⟨1, 8,
 (.seq
 (.reg false [
 ⟨some 2, .mv (.c (.zsl true)), none⟩])
 (.seq
 (.seq
 (.reg false [
 ⟨some 3, .mv (.t 0), none⟩,
 ⟨some 4, .nileq 4 false (.t 3), none⟩])
 (.cond (.t 4)
 (.seq
 (.reg false [
 ⟨some 2, .mv (.c (.zsl true)), none⟩])
 .ret)
 .skip))
 (.seq
 (.reg false [
 ⟨some 5, .bsl 34 [], none⟩,
 ⟨some 6, .mv (.t 0), none⟩,
 ⟨some 7, .app 34 56 (.t 5) (.t 6), none⟩,
 ⟨some 2, .mv (.t 7), none⟩])
 .ret))),
 [.tmp 2]⟩

/-- maps.Keys[map[string]string,string,string] -/
def i87 : IFun := ⟨1, 4,
 (.seq
 (.reg false [
 ⟨some 1, .boxv (.t 0), none⟩,
 ⟨some 2, .mv (.c (.nilf)), none⟩])
 (.seq
 (.reg false [
 ⟨some 3, .mkfn 123 [] [(.t 1)], none⟩,
 ⟨some 2, .mv (.t 3), none⟩])
 .ret)),
 [.tmp 2]⟩

/-- slices.Sorted[string] -/
def i88 : IFun := ⟨1, 9,
 (.seq
 (.reg false [
 ⟨some 2, .mv (.c (.zsl true)), none⟩])
 (.seq
 (.reg false [
 ⟨some 4, .mv (.t 0), none⟩,
 ⟨some 5, .pcall (.c (.fn (.f 122) [] [])) [(.t 4)], none⟩,
 ⟨some 3, .mv (.t 5), none⟩])
 (.seq
 (.reg false [
 ⟨some 6, .mv (.t 3), none⟩,
 ⟨some 7, .pcall (.c (.fn (.f 24) [] [])) [(.t 6)], none⟩])
 (.seq
 (.reg false [
 ⟨some 8, .mv (.t 3), none⟩,
 ⟨some 2, .mv (.t 8), none⟩])
 .ret)))),
 [.tmp 2]⟩

/-- bloomery/sha.Sum -/
def i89 : IFun := ⟨1, 19,
 (.seq
 (.reg false [
 ⟨some 2, .alloc [.int .u8 0, .int .u8 0, .int .u8 0, .int .u8 0, .int .u8 0, .int .u8 0, .int .u8 0, .int .u8 0, .int .u8 0, .int .u8 0, .int .u8 0, .int .u8 0, .int .u8 0, .int .u8 0, .int .u8 0, .int .u8 0, .int .u8 0, .int .u8 0, .int .u8 0, .int .u8 0, .int .u8 0, .int .u8 0, .int .u8 0, .int .u8 0, .int .u8 0, .int .u8 0, .int .u8 0, .int .u8 0, .int .u8 0, .int .u8 0, .int .u8 0, .int .u8 0], none⟩])
 (.seq
 (.reg false [
 ⟨some 6, .call (.c (.fn (.f 124) [] [])) [], none⟩,
 ⟨some 3, .mv (.t 6), none⟩])
 (.seq
 (.seq
 (.reg false [
 ⟨some 7, .mv (.t 0), none⟩,
 ⟨some 8, .len false (.t 7), none⟩,
 ⟨some 9, .mv (.c (.int .i64 0)), none⟩])
 (.blk 0
 (.seq (.gh (.clr 908)) (.loop (.seq
 (.seq
 (.reg false [
 ⟨some 10, .bin .lss (.t 9) (.t 8), none⟩])
 (.seq
 (.cond (.t 10)
 .skip
 (.exit 0))
 (.seq
 (.blk 1
 (.seq
 (.reg false [
 ⟨some 11, .ia 1 (.t 7) (.t 9), none⟩,
 ⟨some 12, .load false 1 (.t 11), none⟩,
 ⟨some 5, .mv (.t 12), none⟩])
 (.reg false [
 ⟨some 13, .mv (.t 3), none⟩,
 ⟨some 14, .mv (.t 5), none⟩,
 ⟨some 15, .call (.c (.fn (.f 125) [] [])) [(.t 13), (.t 14)], none⟩])))
 (.reg false [
 ⟨some 16, .bin .add (.t 9) (.c (.int .i64 1)), none⟩,
 ⟨some 9, .mv (.t 16), none⟩]))))
 (.gh (.clr 908)))))))
 (.seq
 (.reg false [
 ⟨some 17, .mv (.t 3), none⟩,
 ⟨some 18, .call (.c (.fn (.f 126) [] [])) [(.t 17)], none⟩,
 ⟨none, .store 32 (.t 2) (.t 18), none⟩])
 .ret)))),
 [.cell 2 true 32]⟩

/-- (*bloomery/tool.Run).Give -/
def i90 : IFun := ⟨2, 47,
 (.seq
 (.reg false [
 ⟨some 3, .boxv (.t 1), none⟩,
 ⟨some 4, .mv (.c (.int .i64 0)), none⟩])
 (.seq
 (.seq
 (.reg false [
 ⟨some 5, .mv (.t 0), none⟩,
 ⟨some 6, .nileq 0 false (.t 5), none⟩])
 (.cond (.t 6)
 (.seq
 (.reg false [
 ⟨some 4, .mv (.c (.int .i64 1)), none⟩])
 .ret)
 .skip))
 (.seq
 (.seq
 (.reg false [
 ⟨some 7, .mv (.t 0), none⟩,
 ⟨some 8, .call (.c (.fn (.f 127) [] [])) [(.t 7)], none⟩])
 (.blk 0
 (.seq
 (.reg false [
 ⟨some 10, .mv (.t 0), none⟩,
 ⟨some 11, .nchk (.t 10), none⟩,
 ⟨some 12, .fa (.t 11) 5, none⟩,
 ⟨some 13, .load false 1 (.t 12), none⟩,
 ⟨some 14, .un .not (.t 13), none⟩,
 ⟨some 9, .mv (.t 14), none⟩])
 (.cond (.t 9)
 (.seq
 (.reg false [
 ⟨some 4, .mv (.c (.int .i64 19)), none⟩])
 .ret)
 (.seq
 (.reg true [
 ⟨some 16, .fa (.t 3) 0, none⟩,
 ⟨some 17, .loadv false 1 (.t 16), none⟩,
 ⟨some 18, .mv (.t 0), none⟩,
 ⟨some 19, .nchk (.t 18), none⟩,
 ⟨some 20, .fa (.t 19) 4, none⟩,
 ⟨some 21, .load false 1 (.t 20), none⟩,
 ⟨some 22, .bin .neq (.t 17) (.t 21), none⟩,
 ⟨some 15, .mv (.t 22), none⟩])
 (.cond (.t 15)
 (.seq
 (.reg false [
 ⟨some 4, .mv (.c (.int .i64 1)), none⟩])
 .ret)
 (.seq
 (.reg false [
 ⟨some 24, .fa (.t 3) 1, none⟩,
 ⟨some 25, .loadv false 1 (.t 24), none⟩,
 ⟨some 26, .mv (.t 25), none⟩,
 ⟨some 27, .fa (.t 3) 2, some (26, true)⟩,
 ⟨some 28, .loadv false 1 (.t 27), some (26, true)⟩,
 ⟨some 29, .len true (.t 28), some (26, true)⟩,
 ⟨some 30, .bin .gtr (.t 29) (.c (.int .i64 65536)), some (26, true)⟩,
 ⟨some 31, .pick (.t 26) (.t 30) (.c (.bool false)), none⟩,
 ⟨some 23, .mv (.t 31), none⟩])
 (.cond (.t 23)
 (.seq
 (.reg false [
 ⟨some 4, .mv (.c (.int .i64 6)), none⟩])
 .ret)
 .skip))))))))
 (.seq
 (.reg true [
 ⟨some 32, .mv (.t 0), none⟩,
 ⟨some 33, .nchk (.t 32), none⟩,
 ⟨some 34, .fa (.t 33) 3, none⟩,
 ⟨some 35, .load false 1 (.t 34), none⟩,
 ⟨some 36, .mv (.t 0), none⟩,
 ⟨some 37, .nchk (.t 36), none⟩,
 ⟨some 38, .fa (.t 37) 4, none⟩,
 ⟨some 39, .load false 1 (.t 38), none⟩,
 ⟨some 40, .loadv true 3 (.t 3), none⟩,
 ⟨none, .mset false [2] (.t 35) (.t 39) (.t 40), none⟩])
 (.seq
 (.reg false [
 ⟨some 41, .mv (.t 0), none⟩,
 ⟨some 42, .mv (.t 0), none⟩,
 ⟨some 43, .nchk (.t 41), none⟩,
 ⟨some 44, .fa (.t 43) 4, none⟩,
 ⟨none, .store 1 (.t 44) (.c (.str [])), none⟩,
 ⟨some 45, .nchk (.t 42), none⟩,
 ⟨some 46, .fa (.t 45) 5, none⟩,
 ⟨none, .store 1 (.t 46) (.c (.bool false)), none⟩])
 (.seq
 (.reg false [
 ⟨some 4, .mv (.c (.int .i64 0)), none⟩])
 .ret)))))),
 [.tmp 4]⟩

/-- (*bloomery/box.Box).fail -/
def i91 : IFun := ⟨2, 11,
 (.reg false [
 ⟨some 4, .mv (.t 0), none⟩,
 ⟨some 5, .mv (.t 0), none⟩,
 ⟨some 6, .mv (.t 1), none⟩,
 ⟨some 7, .nchk (.t 4), none⟩,
 ⟨some 8, .fa (.t 7) 6, none⟩,
 ⟨none, .store 1 (.t 8) (.c (.bool true)), none⟩,
 ⟨some 9, .nchk (.t 5), none⟩,
 ⟨some 10, .fa (.t 9) 7, none⟩,
 ⟨none, .store 1 (.t 10) (.t 6), none⟩]),
 []⟩

/-- slices.Contains[[]string,string] -/
def i92 : IFun := ⟨2, 9,
 (.seq
 (.reg false [
 ⟨some 4, .mv (.c (.bool false)), none⟩])
 (.seq
 (.reg false [
 ⟨some 5, .mv (.t 0), none⟩,
 ⟨some 6, .mv (.t 1), none⟩,
 ⟨some 7, .pcall (.c (.fn (.f 93) [] [])) [(.t 5), (.t 6)], none⟩,
 ⟨some 8, .bin .geq (.t 7) (.c (.int .i64 0)), none⟩,
 ⟨some 4, .mv (.t 8), none⟩])
 .ret)),
 [.tmp 4]⟩

/-- slices.Index[[]string,string] -/
def i93 : IFun := ⟨2, 19,
 (.seq
 (.reg false [
 ⟨some 4, .mv (.c (.int .i64 0)), none⟩])
 (.seq
 (.seq
 (.reg false [
 ⟨some 6, .mv (.t 0), none⟩,
 ⟨some 7, .len false (.t 6), none⟩,
 ⟨some 8, .mv (.c (.int .i64 0)), none⟩])
 (.blk 0
 (.seq (.gh (.clr 387)) (.loop (.seq
 (.seq
 (.reg false [
 ⟨some 9, .bin .lss (.t 8) (.t 7), none⟩])
 (.seq
 (.cond (.t 9)
 .skip
 (.exit 0))
 (.seq
 (.blk 1
 (.seq
 (.reg false [
 ⟨some 10, .mv (.t 8), none⟩,
 ⟨some 5, .mv (.t 10), none⟩])
 (.seq
 (.reg false [
 ⟨some 11, .mv (.t 1), none⟩,
 ⟨some 12, .mv (.t 0), none⟩,
 ⟨some 13, .mv (.t 5), none⟩,
 ⟨some 14, .ia 1 (.t 12) (.t 13), none⟩,
 ⟨some 15, .load false 1 (.t 14), none⟩,
 ⟨some 16, .bin .eql (.t 11) (.t 15), none⟩])
 (.cond (.t 16)
 (.seq
 (.reg false [
 ⟨some 17, .mv (.t 5), none⟩,
 ⟨some 4, .mv (.t 17), none⟩])
 .ret)
 .skip))))
 (.reg false [
 ⟨some 18, .bin .add (.t 8) (.c (.int .i64 1)), none⟩,
 ⟨some 8, .mv (.t 18), none⟩]))))
 (.gh (.clr 387)))))))
 (.seq
 (.reg false [
 ⟨some 4, .mv (.c (.int .i64 (-1))), none⟩])
 .ret))),
 [.tmp 4]⟩

/-- slices.Grow[[]int,int] -/
def i94 : IFun := ⟨2, 27,
 (.seq
 (.reg false [
 ⟨some 4, .mv (.c (.zsl true)), none⟩])
 (.seq
 (.seq
 (.reg false [
 ⟨some 5, .mv (.t 1), none⟩,
 ⟨some 6, .bin .lss (.t 5) (.c (.int .i64 0)), none⟩])
 (.cond (.t 6)
 .never
 .skip))
 (.seq
 (.seq
 (.reg false [
 ⟨some 8, .mv (.t 1), none⟩,
 ⟨some 9, .mv (.t 0), none⟩,
 ⟨some 10, .capz (.t 9), none⟩,
 ⟨some 11, .mv (.t 0), none⟩,
 ⟨some 12, .len false (.t 11), none⟩,
 ⟨some 13, .bin .sub (.t 10) (.t 12), none⟩,
 ⟨some 14, .bin .sub (.t 8) (.t 13), none⟩,
 ⟨some 1, .mv (.t 14), none⟩])
 (.seq
 (.reg false [
 ⟨some 15, .mv (.t 1), none⟩,
 ⟨some 16, .bin .gtr (.t 15) (.c (.int .i64 0)), none⟩])
 (.cond (.t 16)
 (.reg false [
 ⟨some 17, .mv (.t 0), none⟩,
 ⟨some 18, .mv (.t 0), none⟩,
 ⟨some 19, .capz (.t 18), none⟩,
 ⟨some 20, .slv 1 (.t 17) none (some (.t 19)) none, none⟩,
 ⟨some 21, .mv (.t 1), none⟩,
 ⟨some 22, .appn [.int .i64 0] 8 (.t 20) (.t 21), none⟩,
 ⟨some 23, .mv (.t 0), none⟩,
 ⟨some 24, .len false (.t 23), none⟩,
 ⟨some 25, .slv 1 (.t 22) none (some (.t 24)) none, none⟩,
 ⟨some 0, .mv (.t 25), none⟩])
 .skip)))
 (.seq
 (.reg false [
 ⟨some 26, .mv (.t 0), none⟩,
 ⟨some 4, .mv (.t 26), none⟩])
 .ret)))),
 [.tmp 4]⟩

/-- bloomery/path.Under -/
def i100 : IFun := ⟨2, 25,
 (.seq
 (.reg false [
 ⟨some 4, .mv (.c (.bool false)), none⟩])
 (.seq
 (.seq
 (.reg false [
 ⟨some 5, .mv (.t 0), none⟩,
 ⟨some 6, .pcall (.c (.fn (.f 48) [] [])) [(.t 5)], none⟩,
 ⟨some 7, .un .not (.t 6), none⟩,
 ⟨some 8, .mv (.t 7), none⟩,
 ⟨some 9, .mv (.t 1), some (8, false)⟩,
 ⟨some 10, .bin .neq (.t 9) (.c (.str [])), some (8, false)⟩,
 ⟨some 11, .mv (.t 10), some (8, false)⟩,
 ⟨some 12, .mv (.t 1), some (11, true)⟩,
 ⟨some 13, .pcall (.c (.fn (.f 48) [] [])) [(.t 12)], some (11, true)⟩,
 ⟨some 14, .un .not (.t 13), some (11, true)⟩,
 ⟨some 15, .pick (.t 11) (.t 14) (.c (.bool false)), some (8, false)⟩,
 ⟨some 16, .pick (.t 8) (.c (.bool true)) (.t 15), none⟩])
 (.cond (.t 16)
 (.seq
 (.reg false [
 ⟨some 4, .mv (.c (.bool false)), none⟩])
 .ret)
 .skip))
 (.seq
 (.reg false [
 ⟨some 17, .mv (.t 1), none⟩,
 ⟨some 18, .bin .eql (.t 17) (.c (.str [])), none⟩,
 ⟨some 19, .mv (.t 18), none⟩,
 ⟨some 20, .mv (.t 0), some (19, false)⟩,
 ⟨some 21, .mv (.t 1), some (19, false)⟩,
 ⟨some 22, .bin .add (.t 21) (.c (.str [47])), some (19, false)⟩,
 ⟨some 23, .pcall (.c (.fn (.f 128) [] [])) [(.t 20), (.t 22)], some (19, false)⟩,
 ⟨some 24, .pick (.t 19) (.c (.bool true)) (.t 23), none⟩,
 ⟨some 4, .mv (.t 24), none⟩])
 .ret))),
 [.tmp 4]⟩

/-- bloomery/tool.Check -/
def i101 : IFun := ⟨1, 15,
 (.seq
 (.reg false [
 ⟨some 2, .mv (.c (.int .i64 0)), none⟩,
 ⟨some 3, .mv (.c (.int .i64 0)), none⟩])
 (.seq
 (.reg false [
 ⟨some 8, .mv (.t 0), none⟩,
 ⟨some 9, .pcall (.c (.fn (.f 115) [] [])) [(.t 8)], none⟩,
 ⟨some 7, .mv (.t 9), none⟩,
 ⟨some 10, .ext (.t 7) 0, none⟩,
 ⟨some 11, .ext (.t 7) 1, none⟩,
 ⟨some 12, .ext (.t 7) 2, none⟩,
 ⟨some 4, .mv (.t 10), none⟩,
 ⟨some 5, .mv (.t 11), none⟩,
 ⟨some 6, .mv (.t 12), none⟩])
 (.seq
 (.reg false [
 ⟨some 13, .mv (.t 5), none⟩,
 ⟨some 14, .mv (.t 6), none⟩,
 ⟨some 2, .mv (.t 13), none⟩,
 ⟨some 3, .mv (.t 14), none⟩])
 .ret))),
 [.tmp 2, .tmp 3]⟩

/-- bloomery/analyse.look$1 -/
def i102 : IFun := ⟨1, 6,
 (.seq
 (.reg false [
 ⟨some 2, .mv (.c (.bool false)), none⟩])
 (.seq
 (.reg false [
 ⟨some 3, .mv (.t 0), none⟩,
 ⟨some 4, .pcall (.c (.fn (.f 100) [] [])) [(.t 3), (.c (.str [111, 117, 116]))], none⟩,
 ⟨some 5, .un .not (.t 4), none⟩,
 ⟨some 2, .mv (.t 5), none⟩])
 .ret)),
 [.tmp 2]⟩

/-- bloomery/analyse.look$2 -/
def i103 : IFun := ⟨1, 6,
 (.seq
 (.reg false [
 ⟨some 2, .mv (.c (.bool false)), none⟩])
 (.seq
 (.reg false [
 ⟨some 3, .mv (.t 0), none⟩,
 ⟨some 4, .pcall (.c (.fn (.f 48) [] [])) [(.t 3)], none⟩,
 ⟨some 5, .un .not (.t 4), none⟩,
 ⟨some 2, .mv (.t 5), none⟩])
 .ret)),
 [.tmp 2]⟩

/-- bloomery/analyse.look$3 -/
def i104 : IFun := ⟨1, 6,
 (.seq
 (.reg false [
 ⟨some 2, .mv (.c (.bool false)), none⟩])
 (.seq
 (.reg false [
 ⟨some 3, .mv (.t 0), none⟩,
 ⟨some 4, .pcall (.c (.fn (.f 129) [] [])) [(.t 3)], none⟩,
 ⟨some 5, .un .not (.t 4), none⟩,
 ⟨some 2, .mv (.t 5), none⟩])
 .ret)),
 [.tmp 2]⟩

/-- slices.ContainsFunc[[]string,string] -/
def i105 : IFun := ⟨2, 9,
 (.seq
 (.reg false [
 ⟨some 4, .mv (.c (.bool false)), none⟩])
 (.seq
 (.reg false [
 ⟨some 5, .mv (.t 0), none⟩,
 ⟨some 6, .mv (.t 1), none⟩,
 ⟨some 7, .pcall (.c (.fn (.f 132) [] [])) [(.t 5), (.t 6)], none⟩,
 ⟨some 8, .bin .geq (.t 7) (.c (.int .i64 0)), none⟩,
 ⟨some 4, .mv (.t 8), none⟩])
 .ret)),
 [.tmp 4]⟩

/-- strings.splitSeq -/
def i106 : IFun := ⟨3, 8,
 (.seq
 (.reg false [
 ⟨some 3, .boxr (.t 0), none⟩,
 ⟨some 4, .boxv (.t 1), none⟩,
 ⟨some 5, .boxv (.t 2), none⟩,
 ⟨some 6, .mv (.c (.nilf)), none⟩])
 (.seq
 (.reg false [
 ⟨some 7, .mkfn 133 [] [(.t 4), (.t 3), (.t 5)], none⟩,
 ⟨some 6, .mv (.t 7), none⟩])
 .ret)),
 [.tmp 6]⟩

/-- strings.ContainsFunc -/
def i107 : IFun := ⟨2, 9,
 (.seq
 (.reg false [
 ⟨some 4, .mv (.c (.bool false)), none⟩])
 (.seq
 (.reg false [
 ⟨some 5, .mv (.t 0), none⟩,
 ⟨some 6, .mv (.t 1), none⟩,
 ⟨some 7, .pcall (.c (.fn (.f 134) [] [])) [(.t 5), (.t 6)], none⟩,
 ⟨some 8, .bin .geq (.t 7) (.c (.int .i64 0)), none⟩,
 ⟨some 4, .mv (.t 8), none⟩])
 .ret)),
 [.tmp 4]⟩

/-- bloomery/path.part$1 -/
def i108 : IFun := ⟨1, 6,
 (.seq
 (.reg false [
 ⟨some 2, .mv (.c (.bool false)), none⟩])
 (.seq
 (.reg false [
 ⟨some 3, .mv (.t 0), none⟩,
 ⟨some 4, .pcall (.c (.fn (.f 135) [] [])) [(.t 3)], none⟩,
 ⟨some 5, .un .not (.t 4), none⟩,
 ⟨some 2, .mv (.t 5), none⟩])
 .ret)),
 [.tmp 2]⟩

/-- slices.siftDownOrdered[string] -/
def i109 : IFun := ⟨4, 76,
 (.seq
 (.reg false [
 ⟨some 10, .mv (.t 1), none⟩,
 ⟨some 8, .mv (.t 10), none⟩])
 (.blk 0
 (.seq (.gh (.clr 269)) (.loop (.seq
 (.blk 1
 (.seq
 (.reg false [
 ⟨some 11, .mv (.t 8), none⟩,
 ⟨some 12, .bin .mul (.c (.int .i64 2)) (.t 11), none⟩,
 ⟨some 13, .bin .add (.t 12) (.c (.int .i64 1)), none⟩,
 ⟨some 9, .mv (.t 13), none⟩])
 (.seq
 (.seq
 (.reg false [
 ⟨some 14, .mv (.t 9), none⟩,
 ⟨some 15, .mv (.t 2), none⟩,
 ⟨some 16, .bin .geq (.t 14) (.t 15), none⟩])
 (.cond (.t 16)
 (.exit 0)
 .skip))
 (.seq
 (.seq
 (.reg true [
 ⟨some 17, .mv (.t 9), none⟩,
 ⟨some 18, .bin .add (.t 17) (.c (.int .i64 1)), none⟩,
 ⟨some 19, .mv (.t 2), none⟩,
 ⟨some 20, .bin .lss (.t 18) (.t 19), none⟩,
 ⟨some 21, .mv (.t 20), none⟩,
 ⟨some 22, .mv (.t 0), some (21, true)⟩,
 ⟨some 23, .mv (.t 3), some (21, true)⟩,
 ⟨some 24, .mv (.t 9), some (21, true)⟩,
 ⟨some 25, .bin .add (.t 23) (.t 24), some (21, true)⟩,
 ⟨some 26, .ia 1 (.t 22) (.t 25), some (21, true)⟩,
 ⟨some 27, .load false 1 (.t 26), some (21, true)⟩,
 ⟨some 28, .mv (.t 0), some (21, true)⟩,
 ⟨some 29, .mv (.t 3), some (21, true)⟩,
 ⟨some 30, .mv (.t 9), some (21, true)⟩,
 ⟨some 31, .bin .add (.t 29) (.t 30), some (21, true)⟩,
 ⟨some 32, .bin .add (.t 31) (.c (.int .i64 1)), some (21, true)⟩,
 ⟨some 33, .ia 1 (.t 28) (.t 32), some (21, true)⟩,
 ⟨some 34, .load false 1 (.t 33), some (21, true)⟩,
 ⟨some 35, .pcall (.c (.fn (.f 76) [] [])) [(.t 27), (.t 34)], some (21, true)⟩,
 ⟨some 36, .pick (.t 21) (.t 35) (.c (.bool false)), none⟩])
 (.cond (.t 36)
 (.reg false [
 ⟨some 37, .mv (.t 9), none⟩,
 ⟨some 38, .bin .add (.t 37) (.c (.int .i64 1)), none⟩,
 ⟨some 9, .mv (.t 38), none⟩])
 .skip))
 (.seq
 (.seq
 (.reg true [
 ⟨some 39, .mv (.t 0), none⟩,
 ⟨some 40, .mv (.t 3), none⟩,
 ⟨some 41, .mv (.t 8), none⟩,
 ⟨some 42, .bin .add (.t 40) (.t 41), none⟩,
 ⟨some 43, .ia 1 (.t 39) (.t 42), none⟩,
 ⟨some 44, .load false 1 (.t 43), none⟩,
 ⟨some 45, .mv (.t 0), none⟩,
 ⟨some 46, .mv (.t 3), none⟩,
 ⟨some 47, .mv (.t 9), none⟩,
 ⟨some 48, .bin .add (.t 46) (.t 47), none⟩,
 ⟨some 49, .ia 1 (.t 45) (.t 48), none⟩,
 ⟨some 50, .load false 1 (.t 49), none⟩,
 ⟨some 51, .pcall (.c (.fn (.f 76) [] [])) [(.t 44), (.t 50)], none⟩,
 ⟨some 52, .un .not (.t 51), none⟩])
 (.cond (.t 52)
 .ret
 .skip))
 (.seq
 (.reg true [
 ⟨some 53, .mv (.t 0), none⟩,
 ⟨some 54, .mv (.t 3), none⟩,
 ⟨some 55, .mv (.t 8), none⟩,
 ⟨some 56, .bin .add (.t 54) (.t 55), none⟩,
 ⟨some 57, .mv (.t 0), none⟩,
 ⟨some 58, .mv (.t 3), none⟩,
 ⟨some 59, .mv (.t 9), none⟩,
 ⟨some 60, .bin .add (.t 58) (.t 59), none⟩,
 ⟨some 61, .mv (.t 0), none⟩,
 ⟨some 62, .mv (.t 3), none⟩,
 ⟨some 63, .mv (.t 9), none⟩,
 ⟨some 64, .bin .add (.t 62) (.t 63), none⟩,
 ⟨some 65, .ia 1 (.t 61) (.t 64), none⟩,
 ⟨some 66, .load false 1 (.t 65), none⟩,
 ⟨some 67, .mv (.t 0), none⟩,
 ⟨some 68, .mv (.t 3), none⟩,
 ⟨some 69, .mv (.t 8), none⟩,
 ⟨some 70, .bin .add (.t 68) (.t 69), none⟩,
 ⟨some 71, .ia 1 (.t 67) (.t 70), none⟩,
 ⟨some 72, .load false 1 (.t 71), none⟩,
 ⟨some 73, .ia 1 (.t 53) (.t 56), none⟩,
 ⟨none, .store 1 (.t 73) (.t 66), none⟩,
 ⟨some 74, .ia 1 (.t 57) (.t 60), none⟩,
 ⟨none, .store 1 (.t 74) (.t 72), none⟩])
 (.reg false [
 ⟨some 75, .mv (.t 9), none⟩,
 ⟨some 8, .mv (.t 75), none⟩])))))))
 (.gh (.clr 269))))))),
 []⟩

/-- slices.nextPowerOfTwo -/
def i110 : IFun := ⟨1, 7,
 (.seq
 (.reg false [
 ⟨some 2, .mv (.c (.int .u64 0)), none⟩])
 (.seq
 (.reg false [
 ⟨some 3, .mv (.t 0), none⟩,
 ⟨some 4, .conv .u64 (.t 3), none⟩,
 ⟨some 5, .pcall (.c (.fn (.f 49) [] [])) [(.t 4)], none⟩,
 ⟨some 6, .bin .shl (.c (.int .u64 1)) (.t 5), none⟩,
 ⟨some 2, .mv (.t 6), none⟩])
 .ret)),
 [.tmp 2]⟩

/-- (*slices.xorshift).Next -/
def i111 : IFun := ⟨1, 33,
 (.seq
 (.reg false [
 ⟨some 2, .mv (.c (.int .u64 0)), none⟩])
 (.seq
 (.reg true [
 ⟨some 3, .mv (.t 0), none⟩,
 ⟨some 4, .nchk (.t 3), none⟩,
 ⟨some 5, .load false 1 (.t 4), none⟩,
 ⟨some 6, .mv (.t 0), none⟩,
 ⟨some 7, .nchk (.t 6), none⟩,
 ⟨some 8, .load false 1 (.t 7), none⟩,
 ⟨some 9, .bin .shl (.t 8) (.c (.int .u64 13)), none⟩,
 ⟨some 10, .bin .xor (.t 5) (.t 9), none⟩,
 ⟨some 11, .nchk (.t 3), none⟩,
 ⟨none, .store 1 (.t 11) (.t 10), none⟩])
 (.seq
 (.reg true [
 ⟨some 12, .mv (.t 0), none⟩,
 ⟨some 13, .nchk (.t 12), none⟩,
 ⟨some 14, .load false 1 (.t 13), none⟩,
 ⟨some 15, .mv (.t 0), none⟩,
 ⟨some 16, .nchk (.t 15), none⟩,
 ⟨some 17, .load false 1 (.t 16), none⟩,
 ⟨some 18, .bin .shr (.t 17) (.c (.int .u64 7)), none⟩,
 ⟨some 19, .bin .xor (.t 14) (.t 18), none⟩,
 ⟨some 20, .nchk (.t 12), none⟩,
 ⟨none, .store 1 (.t 20) (.t 19), none⟩])
 (.seq
 (.reg true [
 ⟨some 21, .mv (.t 0), none⟩,
 ⟨some 22, .nchk (.t 21), none⟩,
 ⟨some 23, .load false 1 (.t 22), none⟩,
 ⟨some 24, .mv (.t 0), none⟩,
 ⟨some 25, .nchk (.t 24), none⟩,
 ⟨some 26, .load false 1 (.t 25), none⟩,
 ⟨some 27, .bin .shl (.t 26) (.c (.int .u64 17)), none⟩,
 ⟨some 28, .bin .xor (.t 23) (.t 27), none⟩,
 ⟨some 29, .nchk (.t 21), none⟩,
 ⟨none, .store 1 (.t 29) (.t 28), none⟩])
 (.seq
 (.reg false [
 ⟨some 30, .mv (.t 0), none⟩,
 ⟨some 31, .nchk (.t 30), none⟩,
 ⟨some 32, .load false 1 (.t 31), none⟩,
 ⟨some 2, .mv (.t 32), none⟩])
 .ret))))),
 [.tmp 2]⟩

/-- slices.medianAdjacentOrdered[string] -/
def i112 : IFun := ⟨3, 15,
 (.seq
 (.reg false [
 ⟨some 6, .mv (.c (.int .i64 0)), none⟩])
 (.seq
 (.reg false [
 ⟨some 7, .mv (.t 0), none⟩,
 ⟨some 8, .mv (.t 1), none⟩,
 ⟨some 9, .bin .sub (.t 8) (.c (.int .i64 1)), none⟩,
 ⟨some 10, .mv (.t 1), none⟩,
 ⟨some 11, .mv (.t 1), none⟩,
 ⟨some 12, .bin .add (.t 11) (.c (.int .i64 1)), none⟩,
 ⟨some 13, .mv (.t 2), none⟩,
 ⟨some 14, .call (.c (.fn (.f 113) [] [])) [(.t 7), (.t 9), (.t 10), (.t 12), (.t 13)], none⟩,
 ⟨some 6, .mv (.t 14), none⟩])
 .ret)),
 [.tmp 6]⟩

/-- slices.medianOrdered[string] -/
def i113 : IFun := ⟨5, 36,
 (.seq
 (.reg false [
 ⟨some 10, .mv (.c (.int .i64 0)), none⟩])
 (.seq
 (.reg false [
 ⟨some 12, .mv (.t 0), none⟩,
 ⟨some 13, .mv (.t 1), none⟩,
 ⟨some 14, .mv (.t 2), none⟩,
 ⟨some 15, .mv (.t 4), none⟩,
 ⟨some 16, .call (.c (.fn (.f 137) [] [])) [(.t 12), (.t 13), (.t 14), (.t 15)], none⟩,
 ⟨some 11, .mv (.t 16), none⟩,
 ⟨some 17, .ext (.t 11) 0, none⟩,
 ⟨some 18, .ext (.t 11) 1, none⟩,
 ⟨some 1, .mv (.t 17), none⟩,
 ⟨some 2, .mv (.t 18), none⟩])
 (.seq
 (.reg false [
 ⟨some 20, .mv (.t 0), none⟩,
 ⟨some 21, .mv (.t 2), none⟩,
 ⟨some 22, .mv (.t 3), none⟩,
 ⟨some 23, .mv (.t 4), none⟩,
 ⟨some 24, .call (.c (.fn (.f 137) [] [])) [(.t 20), (.t 21), (.t 22), (.t 23)], none⟩,
 ⟨some 19, .mv (.t 24), none⟩,
 ⟨some 25, .ext (.t 19) 0, none⟩,
 ⟨some 26, .ext (.t 19) 1, none⟩,
 ⟨some 2, .mv (.t 25), none⟩,
 ⟨some 3, .mv (.t 26), none⟩])
 (.seq
 (.reg false [
 ⟨some 28, .mv (.t 0), none⟩,
 ⟨some 29, .mv (.t 1), none⟩,
 ⟨some 30, .mv (.t 2), none⟩,
 ⟨some 31, .mv (.t 4), none⟩,
 ⟨some 32, .call (.c (.fn (.f 137) [] [])) [(.t 28), (.t 29), (.t 30), (.t 31)], none⟩,
 ⟨some 27, .mv (.t 32), none⟩,
 ⟨some 33, .ext (.t 27) 0, none⟩,
 ⟨some 34, .ext (.t 27) 1, none⟩,
 ⟨some 1, .mv (.t 33), none⟩,
 ⟨some 2, .mv (.t 34), none⟩])
 (.seq
 (.reg false [
 ⟨some 35, .mv (.t 2), none⟩,
 ⟨some 10, .mv (.t 35), none⟩])
 .ret))))),
 [.tmp 10]⟩

/-- cmp.isNaN[string] -/
def i114 : IFun := ⟨1, 6,
 (.seq
 (.reg false [
 ⟨some 2, .mv (.c (.bool false)), none⟩])
 (.seq
 (.reg false [
 ⟨some 3, .mv (.t 0), none⟩,
 ⟨some 4, .mv (.t 0), none⟩,
 ⟨some 5, .bin .neq (.t 3) (.t 4), none⟩,
 ⟨some 2, .mv (.t 5), none⟩])
 .ret)),
 [.tmp 2]⟩

/-- bloomery/tool.commands -/
def i115 : IFun := ⟨1, 47,
 (.seq
 (.reg false [
 ⟨some 2, .mv (.c (.zsl true)), none⟩,
 ⟨some 3, .mv (.c (.int .i64 0)), none⟩,
 ⟨some 4, .mv (.c (.int .i64 0)), none⟩])
 (.seq
 (.reg false [
 ⟨some 11, .mv (.t 0), none⟩,
 ⟨some 12, .pcall (.c (.fn (.f 138) [] [])) [(.t 11)], none⟩,
 ⟨some 5, .mv (.t 12), none⟩])
 (.seq
 (.seq
 (.reg false [
 ⟨some 13, .mv (.t 0), none⟩,
 ⟨some 14, .len true (.t 13), none⟩,
 ⟨some 15, .bin .gtr (.t 14) (.c (.int .i64 65536)), none⟩,
 ⟨some 16, .mv (.t 15), none⟩,
 ⟨some 17, .mv (.t 5), some (16, false)⟩,
 ⟨some 18, .len false (.t 17), some (16, false)⟩,
 ⟨some 19, .bin .gtr (.t 18) (.c (.int .i64 400)), some (16, false)⟩,
 ⟨some 20, .pick (.t 16) (.c (.bool true)) (.t 19), none⟩])
 (.cond (.t 20)
 (.seq
 (.reg false [
 ⟨some 2, .mv (.c (.zsl true)), none⟩,
 ⟨some 3, .mv (.c (.int .i64 6)), none⟩,
 ⟨some 4, .mv (.c (.int .i64 0)), none⟩])
 .ret)
 .skip))
 (.seq
 (.reg false [
 ⟨some 6, .mv (.c (.zsl true)), none⟩])
 (.seq
 (.seq
 (.reg false [
 ⟨some 21, .mv (.t 5), none⟩,
 ⟨some 22, .len false (.t 21), none⟩,
 ⟨some 23, .mv (.c (.int .i64 0)), none⟩])
 (.blk 0
 (.seq (.gh (.clr 14680128)) (.loop (.seq
 (.seq
 (.reg false [
 ⟨some 24, .bin .lss (.t 23) (.t 22), none⟩])
 (.seq
 (.cond (.t 24)
 .skip
 (.exit 0))
 (.seq
 (.blk 1
 (.seq
 (.reg false [
 ⟨some 25, .mv (.t 23), none⟩,
 ⟨some 26, .ia 1 (.t 21) (.t 23), none⟩,
 ⟨some 27, .load false 1 (.t 26), none⟩,
 ⟨some 7, .mv (.t 25), none⟩,
 ⟨some 8, .mv (.t 27), none⟩])
 (.seq
 (.reg false [
 ⟨some 29, .mv (.t 8), none⟩,
 ⟨some 30, .call (.c (.fn (.f 139) [] [])) [(.t 29)], none⟩,
 ⟨some 28, .mv (.t 30), none⟩,
 ⟨some 31, .ext (.t 28) 0, none⟩,
 ⟨some 32, .ext (.t 28) 1, none⟩,
 ⟨some 9, .mv (.t 31), none⟩,
 ⟨some 10, .mv (.t 32), none⟩])
 (.seq
 (.seq
 (.reg false [
 ⟨some 33, .mv (.t 10), none⟩,
 ⟨some 34, .un .not (.t 33), none⟩])
 (.cond (.t 34)
 (.seq
 (.reg false [
 ⟨some 35, .mv (.t 7), none⟩,
 ⟨some 36, .bin .add (.t 35) (.c (.int .i64 1)), none⟩,
 ⟨some 2, .mv (.c (.zsl true)), none⟩,
 ⟨some 3, .mv (.c (.int .i64 3)), none⟩,
 ⟨some 4, .mv (.t 36), none⟩])
 .ret)
 .skip))
 (.seq
 (.reg false [
 ⟨some 37, .mv (.t 9), none⟩,
 ⟨some 38, .nileq 0 true (.t 37), none⟩])
 (.cond (.t 38)
 (.reg false [
 ⟨some 39, .mv (.t 6), none⟩,
 ⟨some 40, .mv (.t 9), none⟩,
 ⟨some 41, .nchk (.t 40), none⟩,
 ⟨some 42, .load true 2 (.t 41), none⟩,
 ⟨some 43, .bsl 2 [(.t 42)], none⟩,
 ⟨some 44, .app 2 40 (.t 39) (.t 43), none⟩,
 ⟨some 6, .mv (.t 44), none⟩])
 .skip))))))
 (.reg false [
 ⟨some 45, .bin .add (.t 23) (.c (.int .i64 1)), none⟩,
 ⟨some 23, .mv (.t 45), none⟩]))))
 (.gh (.clr 14680128)))))))
 (.seq
 (.reg false [
 ⟨some 46, .mv (.t 6), none⟩,
 ⟨some 2, .mv (.t 46), none⟩,
 ⟨some 3, .mv (.c (.int .i64 0)), none⟩,
 ⟨some 4, .mv (.c (.int .i64 0)), none⟩])
 .ret)))))),
 [.tmp 2, .tmp 3, .tmp 4]⟩

/-- slices.Backward[[]bloomery/tool.command,bloomery/tool.command] -/
def i116 : IFun := ⟨1, 4,
 (.seq
 (.reg false [
 ⟨some 1, .boxv (.t 0), none⟩,
 ⟨some 2, .mv (.c (.nilf)), none⟩])
 (.seq
 (.reg false [
 ⟨some 3, .mkfn 140 [] [(.t 1)], none⟩,
 ⟨some 2, .mv (.t 3), none⟩])
 .ret)),
 [.tmp 2]⟩

/-- bloomery/tool.Start$1 -/
def i117 : IFun := ⟨2, 5,
 (.reg false [
 ⟨some 2, .loadv false 1 (.t 0), none⟩,
 ⟨some 3, .loadv true 2 (.t 1), none⟩,
 ⟨some 4, .call (.c (.fn (.f 141) [] [])) [(.t 2), (.t 3)], none⟩]),
 []⟩

/-- bloomery/box.reader$1 -/
def i118 : IFun := ⟨4, 17,
 (.seq
 (.reg false [
 ⟨some 4, .boxv (.t 0), none⟩,
 ⟨some 5, .mv (.c (.bool false)), none⟩])
 (.seq
 (.seq
 (.reg false [
 ⟨some 6, .loadv false 1 (.t 1), none⟩,
 ⟨some 7, .loadv false 1 (.t 4), none⟩,
 ⟨some 8, .pcall (.c (.fn (.f 92) [] [])) [(.t 6), (.t 7)], none⟩])
 (.cond (.t 8)
 (.seq
 (.reg false [
 ⟨some 5, .mv (.c (.bool false)), none⟩])
 .ret)
 .skip))
 (.seq
 (.reg false [
 ⟨some 9, .loadv false 1 (.t 2), none⟩,
 ⟨some 10, .loadv false 1 (.t 4), none⟩,
 ⟨some 11, .pcall (.c (.fn (.f 92) [] [])) [(.t 9), (.t 10)], none⟩,
 ⟨some 12, .mv (.t 11), none⟩,
 ⟨some 13, .loadv false 1 (.t 3), some (12, false)⟩,
 ⟨some 14, .mkfn 152 [] [(.t 4)], some (12, false)⟩,
 ⟨some 15, .pcall (.c (.fn (.f 105) [] [])) [(.t 13), (.t 14)], some (12, false)⟩,
 ⟨some 16, .pick (.t 12) (.c (.bool true)) (.t 15), none⟩,
 ⟨some 5, .mv (.t 16), none⟩])
 .ret))),
 [.tmp 5]⟩

/-- (*bloomery/tool.Run).Next -/
def i119 : IFun := ⟨1, 30,
 (.seq
 (.reg false [
 ⟨some 2, .alloc [.int .i64 0, .str [], .str [], .int .i64 0], none⟩])
 (.seq
 (.seq
 (.reg false [
 ⟨some 4, .mv (.t 0), none⟩,
 ⟨some 5, .nileq 0 false (.t 4), none⟩])
 (.cond (.t 5)
 (.seq
 (.reg false [
 ⟨some 6, .build [.int .i64 0, .str [], .str [], .int .i64 0] [(0, 1, (.c (.int .i64 4))), (3, 1, (.c (.int .i64 1)))], none⟩,
 ⟨none, .store 4 (.t 2) (.t 6), none⟩])
 .ret)
 .skip))
 (.seq
 (.reg false [
 ⟨some 7, .mv (.t 0), none⟩,
 ⟨some 8, .call (.c (.fn (.f 127) [] [])) [(.t 7)], none⟩])
 (.seq
 (.seq
 (.reg false [
 ⟨some 9, .mv (.t 0), none⟩,
 ⟨some 10, .nchk (.t 9), none⟩,
 ⟨some 11, .fa (.t 10) 5, none⟩,
 ⟨some 12, .load false 1 (.t 11), none⟩])
 (.cond (.t 12)
 (.seq
 (.reg false [
 ⟨some 13, .mv (.t 0), none⟩,
 ⟨some 14, .nchk (.t 13), none⟩,
 ⟨some 15, .fa (.t 14) 4, none⟩,
 ⟨some 16, .load false 1 (.t 15), none⟩,
 ⟨some 17, .build [.int .i64 0, .str [], .str [], .int .i64 0] [(0, 1, (.c (.int .i64 1))), (1, 1, (.t 16))], none⟩,
 ⟨none, .store 4 (.t 2) (.t 17), none⟩])
 .ret)
 .skip))
 (.seq
 (.seq
 (.reg false [
 ⟨some 18, .mv (.t 0), none⟩,
 ⟨some 19, .nchk (.t 18), none⟩,
 ⟨some 20, .fa (.t 19) 6, none⟩,
 ⟨some 21, .load true 4 (.t 20), none⟩,
 ⟨some 3, .alloc [.int .i64 0, .str [], .str [], .int .i64 0], none⟩,
 ⟨none, .store 4 (.t 3) (.t 21), none⟩])
 (.gh (.frz 3)))
 (.seq
 (.seq
 (.reg false [
 ⟨some 22, .fa (.t 3) 0, none⟩,
 ⟨some 23, .loadv false 1 (.t 22), none⟩,
 ⟨some 24, .bin .eql (.t 23) (.c (.int .i64 2)), none⟩])
 (.cond (.t 24)
 (.reg false [
 ⟨some 25, .mv (.t 0), none⟩,
 ⟨some 26, .build [.int .i64 0, .str [], .str [], .int .i64 0] [], none⟩,
 ⟨some 27, .nchk (.t 25), none⟩,
 ⟨some 28, .fa (.t 27) 6, none⟩,
 ⟨none, .store 4 (.t 28) (.t 26), none⟩])
 .skip))
 (.seq
 (.reg false [
 ⟨some 29, .loadv true 4 (.t 3), none⟩,
 ⟨none, .store 4 (.t 2) (.t 29), none⟩])
 .ret))))))),
 [.cell 2 true 4]⟩

/-- (*bloomery/box.Box).write -/
def i120 : IFun := ⟨3, 35,
 (.seq
 (.seq
 (.reg false [
 ⟨some 9, .mv (.t 0), none⟩,
 ⟨some 10, .nchk (.t 9), none⟩,
 ⟨some 11, .fa (.t 10) 3, none⟩,
 ⟨some 12, .load false 1 (.t 11), none⟩,
 ⟨some 13, .mv (.t 1), none⟩,
 ⟨some 14, .look false [2] (.t 12) (.t 13) (.str []) true, none⟩,
 ⟨some 8, .mv (.t 14), none⟩,
 ⟨some 15, .ext (.t 8) 0, none⟩,
 ⟨some 16, .ext (.t 8) 1, none⟩,
 ⟨some 6, .mv (.t 15), none⟩,
 ⟨some 7, .mv (.t 16), none⟩])
 (.seq
 (.reg false [
 ⟨some 17, .mv (.t 7), none⟩,
 ⟨some 18, .mv (.t 17), none⟩,
 ⟨some 19, .mv (.t 0), some (18, false)⟩,
 ⟨some 20, .nchk (.t 19), some (18, false)⟩,
 ⟨some 21, .fa (.t 20) 1, some (18, false)⟩,
 ⟨some 22, .load false 1 (.t 21), some (18, false)⟩,
 ⟨some 23, .mv (.t 1), some (18, false)⟩,
 ⟨some 24, .pcall (.c (.fn (.f 92) [] [])) [(.t 22), (.t 23)], some (18, false)⟩,
 ⟨some 25, .un .not (.t 24), some (18, false)⟩,
 ⟨some 26, .pick (.t 18) (.c (.bool true)) (.t 25), none⟩])
 (.cond (.t 26)
 (.seq
 (.reg false [
 ⟨some 27, .mv (.t 0), none⟩,
 ⟨some 28, .call (.c (.fn (.f 91) [] [])) [(.t 27), (.c (.int .i64 14))], none⟩])
 .ret)
 .skip)))
 (.reg false [
 ⟨some 29, .mv (.t 0), none⟩,
 ⟨some 30, .nchk (.t 29), none⟩,
 ⟨some 31, .fa (.t 30) 3, none⟩,
 ⟨some 32, .load false 1 (.t 31), none⟩,
 ⟨some 33, .mv (.t 1), none⟩,
 ⟨some 34, .mv (.t 2), none⟩,
 ⟨none, .mset false [2] (.t 32) (.t 33) (.t 34), none⟩])),
 []⟩

/-- (*bloomery/box.Box).goOn$1 -/
def i121 : IFun := ⟨2, 17,
 (.seq
 (.reg false [
 ⟨some 3, .mv (.c (.bool false)), none⟩])
 (.seq
 (.reg false [
 ⟨some 7, .loadv false 1 (.t 1), none⟩,
 ⟨some 8, .nchk (.t 7), none⟩,
 ⟨some 9, .fa (.t 8) 3, none⟩,
 ⟨some 10, .load false 1 (.t 9), none⟩,
 ⟨some 11, .mv (.t 0), none⟩,
 ⟨some 12, .look false [2] (.t 10) (.t 11) (.str []) true, none⟩,
 ⟨some 6, .mv (.t 12), none⟩,
 ⟨some 13, .ext (.t 6) 0, none⟩,
 ⟨some 14, .ext (.t 6) 1, none⟩,
 ⟨some 4, .mv (.t 13), none⟩,
 ⟨some 5, .mv (.t 14), none⟩])
 (.seq
 (.reg false [
 ⟨some 15, .mv (.t 5), none⟩,
 ⟨some 16, .un .not (.t 15), none⟩,
 ⟨some 3, .mv (.t 16), none⟩])
 .ret))),
 [.tmp 3]⟩

/-- slices.Collect[string] -/
def i122 : IFun := ⟨1, 5,
 (.seq
 (.reg false [
 ⟨some 2, .mv (.c (.zsl true)), none⟩])
 (.seq
 (.reg false [
 ⟨some 3, .mv (.t 0), none⟩,
 ⟨some 4, .pcall (.c (.fn (.f 155) [] [])) [(.c (.zsl true)), (.t 3)], none⟩,
 ⟨some 2, .mv (.t 4), none⟩])
 .ret)),
 [.tmp 2]⟩

/-- maps.Keys[map[string]string,string,string]$1 -/
def i123 : IFun := ⟨2, 14,
 (.seq
 .never
 (.blk 0
 (.seq (.gh (.clr 33)) (.loop (.seq
 (.seq
 .never
 (.seq
 (.cond (.t 7)
 .skip
 (.exit 0))
 (.blk 1
 (.seq
 .never
 (.seq
 (.reg false [
 ⟨some 10, .mv (.t 0), none⟩,
 ⟨some 11, .mv (.t 3), none⟩,
 ⟨some 12, .call (.t 10) [(.t 11)], none⟩,
 ⟨some 13, .un .not (.t 12), none⟩])
 (.cond (.t 13)
 .ret
 .skip))))))
 (.gh (.clr 33))))))),
 []⟩

/-- bloomery/sha.New -/
def i124 : IFun := ⟨0, 4,
 (.seq
 (.reg false [
 ⟨some 0, .mv (.c (.nilp)), none⟩])
 (.seq
 (.reg false [
 ⟨some 1, .pcall (.c (.fn (.f 156) [] [])) [], none⟩,
 ⟨some 2, .build [.int .u32 0, .int .u32 0, .int .u32 0, .int .u32 0, .int .u32 0, .int .u32 0, .int .u32 0, .int .u32 0, .zsl true, .int .u64 0] [(0, 8, (.t 1))], none⟩,
 ⟨some 3, .boxr (.t 2), none⟩,
 ⟨some 0, .mv (.t 3), none⟩])
 .ret)),
 [.tmp 0]⟩

/-- (*bloomery/sha.Hash).Add -/
def i125 : IFun := ⟨2, 48,
 (.seq
 (.seq
 (.reg false [
 ⟨some 4, .mv (.t 0), none⟩,
 ⟨some 5, .nileq 0 false (.t 4), none⟩])
 (.cond (.t 5)
 .ret
 .skip))
 (.seq
 (.reg false [
 ⟨some 6, .mv (.t 0), none⟩,
 ⟨some 7, .nchk (.t 6), none⟩,
 ⟨some 8, .fa (.t 7) 9, none⟩,
 ⟨some 9, .load false 1 (.t 8), none⟩,
 ⟨some 10, .mv (.t 1), none⟩,
 ⟨some 11, .len true (.t 10), none⟩,
 ⟨some 12, .conv .u64 (.t 11), none⟩,
 ⟨some 13, .bin .add (.t 9) (.t 12), none⟩,
 ⟨some 14, .nchk (.t 6), none⟩,
 ⟨some 15, .fa (.t 14) 9, none⟩,
 ⟨none, .store 1 (.t 15) (.t 13), none⟩])
 (.seq
 (.reg false [
 ⟨some 16, .mv (.t 0), none⟩,
 ⟨some 17, .mv (.t 0), none⟩,
 ⟨some 18, .nchk (.t 17), none⟩,
 ⟨some 19, .fa (.t 18) 8, none⟩,
 ⟨some 20, .load false 1 (.t 19), none⟩,
 ⟨some 21, .mv (.t 1), none⟩,
 ⟨some 22, .app 1 1 (.t 20) (.t 21), none⟩,
 ⟨some 23, .nchk (.t 16), none⟩,
 ⟨some 24, .fa (.t 23) 8, none⟩,
 ⟨none, .store 1 (.t 24) (.t 22), none⟩])
 (.blk 0
 (.seq (.gh (.clr 1)) (.loop (.seq
 (.seq
 (.seq
 (.reg false [
 ⟨some 25, .mv (.t 0), none⟩,
 ⟨some 26, .nchk (.t 25), none⟩,
 ⟨some 27, .fa (.t 26) 8, none⟩,
 ⟨some 28, .load false 1 (.t 27), none⟩,
 ⟨some 29, .len false (.t 28), none⟩,
 ⟨some 30, .bin .geq (.t 29) (.c (.int .i64 64)), none⟩])
 (.cond (.t 30)
 .skip
 (.exit 0)))
 (.blk 1
 (.seq
 (.reg true [
 ⟨some 31, .mv (.t 0), none⟩,
 ⟨some 32, .nchk (.t 31), none⟩,
 ⟨some 33, .fa (.t 32) 0, none⟩,
 ⟨some 34, .mv (.t 0), none⟩,
 ⟨some 35, .nchk (.t 34), none⟩,
 ⟨some 36, .fa (.t 35) 8, none⟩,
 ⟨some 37, .load false 1 (.t 36), none⟩,
 ⟨some 38, .slv 1 (.t 37) none (some (.c (.int .i64 64))) none, none⟩,
 ⟨some 39, .call (.c (.fn (.f 157) [] [])) [(.t 33), (.t 38)], none⟩])
 (.reg false [
 ⟨some 40, .mv (.t 0), none⟩,
 ⟨some 41, .mv (.t 0), none⟩,
 ⟨some 42, .nchk (.t 41), none⟩,
 ⟨some 43, .fa (.t 42) 8, none⟩,
 ⟨some 44, .load false 1 (.t 43), none⟩,
 ⟨some 45, .slv 1 (.t 44) (some (.c (.int .i64 64))) none none, none⟩,
 ⟨some 46, .nchk (.t 40), none⟩,
 ⟨some 47, .fa (.t 46) 8, none⟩,
 ⟨none, .store 1 (.t 47) (.t 45), none⟩]))))
 (.gh (.clr 1))))))))),
 []⟩

/-- (*bloomery/sha.Hash).Sum -/
def i126 : IFun := ⟨1, 71,
 (.seq
 (.reg false [
 ⟨some 2, .alloc [.int .u8 0, .int .u8 0, .int .u8 0, .int .u8 0, .int .u8 0, .int .u8 0, .int .u8 0, .int .u8 0, .int .u8 0, .int .u8 0, .int .u8 0, .int .u8 0, .int .u8 0, .int .u8 0, .int .u8 0, .int .u8 0, .int .u8 0, .int .u8 0, .int .u8 0, .int .u8 0, .int .u8 0, .int .u8 0, .int .u8 0, .int .u8 0, .int .u8 0, .int .u8 0, .int .u8 0, .int .u8 0, .int .u8 0, .int .u8 0, .int .u8 0, .int .u8 0], none⟩])
 (.seq
 (.seq
 (.reg false [
 ⟨some 8, .mv (.t 0), none⟩,
 ⟨some 9, .nileq 0 false (.t 8), none⟩])
 (.cond (.t 9)
 (.seq
 (.reg false [
 ⟨some 10, .call (.c (.fn (.f 124) [] [])) [], none⟩,
 ⟨some 11, .call (.c (.fn (.f 126) [] [])) [(.t 10)], none⟩,
 ⟨none, .store 32 (.t 2) (.t 11), none⟩])
 .ret)
 .skip))
 (.seq
 (.reg false [
 ⟨some 12, .mv (.t 0), none⟩,
 ⟨some 13, .nchk (.t 12), none⟩,
 ⟨some 14, .fa (.t 13) 0, none⟩,
 ⟨some 15, .load true 8 (.t 14), none⟩,
 ⟨some 3, .alloc [.int .u32 0, .int .u32 0, .int .u32 0, .int .u32 0, .int .u32 0, .int .u32 0, .int .u32 0, .int .u32 0], none⟩,
 ⟨none, .store 8 (.t 3) (.t 15), none⟩])
 (.seq
 (.reg false [
 ⟨some 16, .mv (.t 0), none⟩,
 ⟨some 17, .nchk (.t 16), none⟩,
 ⟨some 18, .fa (.t 17) 8, none⟩,
 ⟨some 19, .load false 1 (.t 18), none⟩,
 ⟨some 20, .b2s (.t 19), none⟩,
 ⟨some 21, .s2b (.t 20), none⟩,
 ⟨some 22, .bsl 1 [(.c (.int .u8 128))], none⟩,
 ⟨some 23, .app 1 1 (.t 21) (.t 22), none⟩,
 ⟨some 4, .mv (.t 23), none⟩])
 (.seq
 (.blk 0
 (.seq (.gh (.clr 29)) (.loop (.seq
 (.seq
 (.seq
 (.reg false [
 ⟨some 24, .mv (.t 4), none⟩,
 ⟨some 25, .len false (.t 24), none⟩,
 ⟨some 26, .bin .rem (.t 25) (.c (.int .i64 64)), none⟩,
 ⟨some 27, .bin .neq (.t 26) (.c (.int .i64 56)), none⟩])
 (.cond (.t 27)
 .skip
 (.exit 0)))
 (.blk 1
 (.reg false [
 ⟨some 28, .mv (.t 4), none⟩,
 ⟨some 29, .bsl 1 [(.c (.int .u8 0))], none⟩,
 ⟨some 30, .app 1 1 (.t 28) (.t 29), none⟩,
 ⟨some 4, .mv (.t 30), none⟩])))
 (.gh (.clr 29))))))
 (.seq
 (.seq
 (.reg false [
 ⟨some 5, .mv (.c (.int .i64 56)), none⟩])
 (.blk 2
 (.seq (.gh (.clr 61)) (.loop (.seq
 (.seq
 (.seq
 (.reg false [
 ⟨some 31, .mv (.t 5), none⟩,
 ⟨some 32, .bin .geq (.t 31) (.c (.int .i64 0)), none⟩])
 (.cond (.t 32)
 .skip
 (.exit 2)))
 (.seq
 (.blk 3
 (.reg false [
 ⟨some 35, .mv (.t 4), none⟩,
 ⟨some 36, .mv (.t 0), none⟩,
 ⟨some 37, .nchk (.t 36), none⟩,
 ⟨some 38, .fa (.t 37) 9, none⟩,
 ⟨some 39, .load false 1 (.t 38), none⟩,
 ⟨some 40, .bin .mul (.c (.int .u64 8)) (.t 39), none⟩,
 ⟨some 41, .mv (.t 5), none⟩,
 ⟨some 42, .bin .shr (.t 40) (.t 41), none⟩,
 ⟨some 43, .conv .u8 (.t 42), none⟩,
 ⟨some 44, .bsl 1 [(.t 43)], none⟩,
 ⟨some 45, .app 1 1 (.t 35) (.t 44), none⟩,
 ⟨some 4, .mv (.t 45), none⟩]))
 (.reg false [
 ⟨some 33, .mv (.t 5), none⟩,
 ⟨some 34, .bin .sub (.t 33) (.c (.int .i64 8)), none⟩,
 ⟨some 5, .mv (.t 34), none⟩])))
 (.gh (.clr 61)))))))
 (.seq
 (.blk 4
 (.seq (.gh (.clr 28)) (.loop (.seq
 (.seq
 (.seq
 (.reg false [
 ⟨some 46, .mv (.t 4), none⟩,
 ⟨some 47, .len false (.t 46), none⟩,
 ⟨some 48, .bin .gtr (.t 47) (.c (.int .i64 0)), none⟩])
 (.cond (.t 48)
 .skip
 (.exit 4)))
 (.seq
 (.blk 5
 (.reg false [
 ⟨some 51, .mv (.t 4), none⟩,
 ⟨some 52, .slv 1 (.t 51) none (some (.c (.int .i64 64))) none, none⟩,
 ⟨some 53, .call (.c (.fn (.f 157) [] [])) [(.t 3), (.t 52)], none⟩]))
 (.reg false [
 ⟨some 49, .mv (.t 4), none⟩,
 ⟨some 50, .slv 1 (.t 49) (some (.c (.int .i64 64))) none none, none⟩,
 ⟨some 4, .mv (.t 50), none⟩])))
 (.gh (.clr 28))))))
 (.seq
 (.reg false [
 ⟨some 6, .alloc [.int .u8 0, .int .u8 0, .int .u8 0, .int .u8 0, .int .u8 0, .int .u8 0, .int .u8 0, .int .u8 0, .int .u8 0, .int .u8 0, .int .u8 0, .int .u8 0, .int .u8 0, .int .u8 0, .int .u8 0, .int .u8 0, .int .u8 0, .int .u8 0, .int .u8 0, .int .u8 0, .int .u8 0, .int .u8 0, .int .u8 0, .int .u8 0, .int .u8 0, .int .u8 0, .int .u8 0, .int .u8 0, .int .u8 0, .int .u8 0, .int .u8 0, .int .u8 0], none⟩])
 (.seq
 (.seq
 (.reg false [
 ⟨some 54, .mv (.c (.int .i64 0)), none⟩])
 (.blk 6
 (.seq (.gh (.clr 18014398509482060)) (.loop (.seq
 (.seq
 (.reg false [
 ⟨some 55, .bin .lss (.t 54) (.c (.int .i64 32)), none⟩])
 (.seq
 (.cond (.t 55)
 .skip
 (.exit 6))
 (.seq
 (.blk 7
 (.seq
 (.reg false [
 ⟨some 56, .mv (.t 54), none⟩,
 ⟨some 7, .mv (.t 56), none⟩])
 (.reg false [
 ⟨some 57, .mv (.t 7), none⟩,
 ⟨some 58, .mv (.t 7), none⟩,
 ⟨some 59, .bin .quo (.t 58) (.c (.int .i64 4)), none⟩,
 ⟨some 60, .iaa (.t 3) (.t 59) 8 1, none⟩,
 ⟨some 61, .load false 1 (.t 60), none⟩,
 ⟨some 62, .mv (.t 7), none⟩,
 ⟨some 63, .bin .rem (.t 62) (.c (.int .i64 4)), none⟩,
 ⟨some 64, .bin .mul (.c (.int .i64 8)) (.t 63), none⟩,
 ⟨some 65, .bin .sub (.c (.int .i64 24)) (.t 64), none⟩,
 ⟨some 66, .bin .shr (.t 61) (.t 65), none⟩,
 ⟨some 67, .conv .u8 (.t 66), none⟩,
 ⟨some 68, .iaa (.t 6) (.t 57) 32 1, none⟩,
 ⟨none, .store 1 (.t 68) (.t 67), none⟩])))
 (.reg false [
 ⟨some 69, .bin .add (.t 54) (.c (.int .i64 1)), none⟩,
 ⟨some 54, .mv (.t 69), none⟩]))))
 (.gh (.clr 18014398509482060)))))))
 (.seq
 (.reg false [
 ⟨some 70, .load true 32 (.t 6), none⟩,
 ⟨none, .store 32 (.t 2) (.t 70), none⟩])
 .ret)))))))))),
 [.cell 2 true 32]⟩

/-- (*bloomery/tool.Run).settle -/
def i127 : IFun := ⟨1, 54,
 (.blk 0
 (.seq (.gh (.clr 1)) (.loop (.seq
 (.seq
 (.seq
 (.reg false [
 ⟨some 3, .mv (.t 0), none⟩,
 ⟨some 4, .nchk (.t 3), none⟩,
 ⟨some 5, .fa (.t 4) 6, none⟩,
 ⟨some 6, .fa (.t 5) 0, none⟩,
 ⟨some 7, .load false 1 (.t 6), none⟩,
 ⟨some 8, .bin .eql (.t 7) (.c (.int .i64 0)), none⟩,
 ⟨some 9, .mv (.t 8), none⟩,
 ⟨some 10, .mv (.t 0), some (9, true)⟩,
 ⟨some 11, .nchk (.t 10), some (9, true)⟩,
 ⟨some 12, .fa (.t 11) 5, some (9, true)⟩,
 ⟨some 13, .load false 1 (.t 12), some (9, true)⟩,
 ⟨some 14, .un .not (.t 13), some (9, true)⟩,
 ⟨some 15, .pick (.t 9) (.t 14) (.c (.bool false)), none⟩])
 (.cond (.t 15)
 .skip
 (.exit 0)))
 (.blk 1
 (.seq
 (.seq
 (.reg false [
 ⟨some 16, .mv (.t 0), none⟩,
 ⟨some 17, .nchk (.t 16), none⟩,
 ⟨some 18, .fa (.t 17) 0, none⟩,
 ⟨some 19, .load false 1 (.t 18), none⟩,
 ⟨some 20, .len false (.t 19), none⟩,
 ⟨some 21, .bin .eql (.t 20) (.c (.int .i64 0)), none⟩])
 (.cond (.t 21)
 (.seq
 (.reg false [
 ⟨some 22, .mv (.t 0), none⟩,
 ⟨some 23, .build [.int .i64 0, .str [], .str [], .int .i64 0] [(0, 1, (.c (.int .i64 3)))], none⟩,
 ⟨some 24, .nchk (.t 22), none⟩,
 ⟨some 25, .fa (.t 24) 6, none⟩,
 ⟨none, .store 4 (.t 25) (.t 23), none⟩])
 .ret)
 .skip))
 (.seq
 (.reg true [
 ⟨some 26, .mv (.t 0), none⟩,
 ⟨some 27, .nchk (.t 26), none⟩,
 ⟨some 28, .fa (.t 27) 0, none⟩,
 ⟨some 29, .load false 1 (.t 28), none⟩,
 ⟨some 30, .mv (.t 0), none⟩,
 ⟨some 31, .nchk (.t 30), none⟩,
 ⟨some 32, .fa (.t 31) 0, none⟩,
 ⟨some 33, .load false 1 (.t 32), none⟩,
 ⟨some 34, .len false (.t 33), none⟩,
 ⟨some 35, .bin .sub (.t 34) (.c (.int .i64 1)), none⟩,
 ⟨some 36, .ia 1 (.t 29) (.t 35), none⟩,
 ⟨some 37, .load false 1 (.t 36), none⟩,
 ⟨some 2, .mv (.t 37), none⟩])
 (.seq
 (.reg true [
 ⟨some 38, .mv (.t 0), none⟩,
 ⟨some 39, .mv (.t 0), none⟩,
 ⟨some 40, .nchk (.t 39), none⟩,
 ⟨some 41, .fa (.t 40) 0, none⟩,
 ⟨some 42, .load false 1 (.t 41), none⟩,
 ⟨some 43, .mv (.t 0), none⟩,
 ⟨some 44, .nchk (.t 43), none⟩,
 ⟨some 45, .fa (.t 44) 0, none⟩,
 ⟨some 46, .load false 1 (.t 45), none⟩,
 ⟨some 47, .len false (.t 46), none⟩,
 ⟨some 48, .bin .sub (.t 47) (.c (.int .i64 1)), none⟩,
 ⟨some 49, .slv 1 (.t 42) none (some (.t 48)) none, none⟩,
 ⟨some 50, .nchk (.t 38), none⟩,
 ⟨some 51, .fa (.t 50) 0, none⟩,
 ⟨none, .store 1 (.t 51) (.t 49), none⟩])
 (.reg false [
 ⟨some 52, .mv (.t 2), none⟩,
 ⟨some 53, .call (.t 52) [], none⟩]))))))
 (.gh (.clr 1)))))),
 []⟩

/-- strings.HasPrefix -/
def i128 : IFun := ⟨2, 8,
 (.seq
 (.reg false [
 ⟨some 4, .mv (.c (.bool false)), none⟩])
 (.seq
 (.reg false [
 ⟨some 5, .mv (.t 0), none⟩,
 ⟨some 6, .mv (.t 1), none⟩,
 ⟨some 7, .pcall (.c (.fn (.f 158) [] [])) [(.t 5), (.t 6)], none⟩,
 ⟨some 4, .mv (.t 7), none⟩])
 .ret)),
 [.tmp 4]⟩

/-- bloomery/globs.May -/
def i129 : IFun := ⟨1, 14,
 (.seq
 (.reg false [
 ⟨some 2, .mv (.c (.bool false)), none⟩])
 (.seq
 (.reg false [
 ⟨some 4, .mv (.t 0), none⟩,
 ⟨some 5, .pcall (.c (.fn (.f 130) [] [])) [(.t 4), (.c (.str [47]))], none⟩,
 ⟨some 3, .mv (.t 5), none⟩])
 (.seq
 (.reg false [
 ⟨some 6, .mv (.t 3), none⟩,
 ⟨some 7, .len false (.t 6), none⟩,
 ⟨some 8, .bin .leq (.t 7) (.c (.int .i64 16)), none⟩,
 ⟨some 9, .mv (.t 8), none⟩,
 ⟨some 10, .mv (.t 3), some (9, true)⟩,
 ⟨some 11, .pcall (.c (.fn (.f 105) [] [])) [(.t 10), (.c (.fn (.f 131) [] []))], some (9, true)⟩,
 ⟨some 12, .un .not (.t 11), some (9, true)⟩,
 ⟨some 13, .pick (.t 9) (.t 12) (.c (.bool false)), none⟩,
 ⟨some 2, .mv (.t 13), none⟩])
 .ret))),
 [.tmp 2]⟩

/-- strings.Split -/
def i130 : IFun := ⟨2, 8,
 (.seq
 (.reg false [
 ⟨some 4, .mv (.c (.zsl true)), none⟩])
 (.seq
 (.reg false [
 ⟨some 5, .mv (.t 0), none⟩,
 ⟨some 6, .mv (.t 1), none⟩,
 ⟨some 7, .pcall (.c (.fn (.f 159) [] [])) [(.t 5), (.t 6), (.c (.int .i64 0)), (.c (.int .i64 (-1)))], none⟩,
 ⟨some 4, .mv (.t 7), none⟩])
 .ret)),
 [.tmp 4]⟩

/-- bloomery/globs.May$1 -/
def i131 : IFun := ⟨1, 6,
 (.seq
 (.reg false [
 ⟨some 2, .mv (.c (.bool false)), none⟩])
 (.seq
 (.reg false [
 ⟨some 3, .mv (.t 0), none⟩,
 ⟨some 4, .pcall (.c (.fn (.f 160) [] [])) [(.t 3)], none⟩,
 ⟨some 5, .un .not (.t 4), none⟩,
 ⟨some 2, .mv (.t 5), none⟩])
 .ret)),
 [.tmp 2]⟩

/-- slices.IndexFunc[[]string,string] -/
def i132 : IFun := ⟨2, 19,
 (.seq
 (.reg false [
 ⟨some 4, .mv (.c (.int .i64 0)), none⟩])
 (.seq
 (.seq
 (.reg false [
 ⟨some 6, .mv (.t 0), none⟩,
 ⟨some 7, .len false (.t 6), none⟩,
 ⟨some 8, .mv (.c (.int .i64 0)), none⟩])
 (.blk 0
 (.seq (.gh (.clr 387)) (.loop (.seq
 (.seq
 (.reg false [
 ⟨some 9, .bin .lss (.t 8) (.t 7), none⟩])
 (.seq
 (.cond (.t 9)
 .skip
 (.exit 0))
 (.seq
 (.blk 1
 (.seq
 (.reg false [
 ⟨some 10, .mv (.t 8), none⟩,
 ⟨some 5, .mv (.t 10), none⟩])
 (.seq
 (.reg false [
 ⟨some 11, .mv (.t 1), none⟩,
 ⟨some 12, .mv (.t 0), none⟩,
 ⟨some 13, .mv (.t 5), none⟩,
 ⟨some 14, .ia 1 (.t 12) (.t 13), none⟩,
 ⟨some 15, .load false 1 (.t 14), none⟩,
 ⟨some 16, .call (.t 11) [(.t 15)], none⟩])
 (.cond (.t 16)
 (.seq
 (.reg false [
 ⟨some 17, .mv (.t 5), none⟩,
 ⟨some 4, .mv (.t 17), none⟩])
 .ret)
 .skip))))
 (.reg false [
 ⟨some 18, .bin .add (.t 8) (.c (.int .i64 1)), none⟩,
 ⟨some 8, .mv (.t 18), none⟩]))))
 (.gh (.clr 387)))))))
 (.seq
 (.reg false [
 ⟨some 4, .mv (.c (.int .i64 (-1))), none⟩])
 .ret))),
 [.tmp 4]⟩

/-- strings.splitSeq$1 -/
def i133 : IFun := ⟨4, 52,
 (.seq
 (.seq
 (.reg false [
 ⟨some 9, .loadv false 1 (.t 1), none⟩,
 ⟨some 10, .len true (.t 9), none⟩,
 ⟨some 11, .bin .eql (.t 10) (.c (.int .i64 0)), none⟩])
 (.cond (.t 11)
 (.seq
 (.blk 0
 (.seq (.gh (.clr 5)) (.loop (.seq
 (.seq
 (.seq
 (.reg false [
 ⟨some 12, .load false 1 (.t 2), none⟩,
 ⟨some 13, .len true (.t 12), none⟩,
 ⟨some 14, .bin .gtr (.t 13) (.c (.int .i64 0)), none⟩])
 (.cond (.t 14)
 .skip
 (.exit 0)))
 (.blk 1
 (.seq
 (.reg false [
 ⟨some 16, .load false 1 (.t 2), none⟩,
 ⟨some 17, .pcall (.c (.fn (.f 162) [] [])) [(.t 16)], none⟩,
 ⟨some 15, .mv (.t 17), none⟩,
 ⟨some 18, .ext (.t 15) 0, none⟩,
 ⟨some 19, .ext (.t 15) 1, none⟩,
 ⟨some 5, .mv (.t 18), none⟩,
 ⟨some 6, .mv (.t 19), none⟩])
 (.seq
 (.seq
 (.reg false [
 ⟨some 20, .mv (.t 0), none⟩,
 ⟨some 21, .load false 1 (.t 2), none⟩,
 ⟨some 22, .mv (.t 6), none⟩,
 ⟨some 23, .sls (.t 21) none (some (.t 22)), none⟩,
 ⟨some 24, .call (.t 20) [(.t 23)], none⟩,
 ⟨some 25, .un .not (.t 24), none⟩])
 (.cond (.t 25)
 .ret
 .skip))
 (.reg false [
 ⟨some 26, .load false 1 (.t 2), none⟩,
 ⟨some 27, .mv (.t 6), none⟩,
 ⟨some 28, .sls (.t 26) (some (.t 27)) none, none⟩,
 ⟨none, .store 1 (.t 2) (.t 28), none⟩])))))
 (.gh (.clr 5))))))
 .ret)
 .skip))
 (.seq
 (.blk 2
 (.seq (.gh (.clr 15)) (.loop (.seq
 (.blk 3
 (.seq
 (.reg false [
 ⟨some 29, .load false 1 (.t 2), none⟩,
 ⟨some 30, .loadv false 1 (.t 1), none⟩,
 ⟨some 31, .pcall (.c (.fn (.f 163) [] [])) [(.t 29), (.t 30)], none⟩,
 ⟨some 7, .mv (.t 31), none⟩])
 (.seq
 (.seq
 (.reg false [
 ⟨some 32, .mv (.t 7), none⟩,
 ⟨some 33, .bin .lss (.t 32) (.c (.int .i64 0)), none⟩])
 (.cond (.t 33)
 (.exit 2)
 .skip))
 (.seq
 (.reg false [
 ⟨some 34, .load false 1 (.t 2), none⟩,
 ⟨some 35, .mv (.t 7), none⟩,
 ⟨some 36, .loadv false 1 (.t 3), none⟩,
 ⟨some 37, .bin .add (.t 35) (.t 36), none⟩,
 ⟨some 38, .sls (.t 34) none (some (.t 37)), none⟩,
 ⟨some 8, .mv (.t 38), none⟩])
 (.seq
 (.seq
 (.reg false [
 ⟨some 39, .mv (.t 0), none⟩,
 ⟨some 40, .mv (.t 8), none⟩,
 ⟨some 41, .call (.t 39) [(.t 40)], none⟩,
 ⟨some 42, .un .not (.t 41), none⟩])
 (.cond (.t 42)
 .ret
 .skip))
 (.reg false [
 ⟨some 43, .load false 1 (.t 2), none⟩,
 ⟨some 44, .mv (.t 7), none⟩,
 ⟨some 45, .loadv false 1 (.t 1), none⟩,
 ⟨some 46, .len true (.t 45), none⟩,
 ⟨some 47, .bin .add (.t 44) (.t 46), none⟩,
 ⟨some 48, .sls (.t 43) (some (.t 47)) none, none⟩,
 ⟨none, .store 1 (.t 2) (.t 48), none⟩]))))))
 (.gh (.clr 15))))))
 (.reg false [
 ⟨some 49, .mv (.t 0), none⟩,
 ⟨some 50, .load false 1 (.t 2), none⟩,
 ⟨some 51, .call (.t 49) [(.t 50)], none⟩]))),
 []⟩

/-- strings.IndexFunc -/
def i134 : IFun := ⟨2, 8,
 (.seq
 (.reg false [
 ⟨some 4, .mv (.c (.int .i64 0)), none⟩])
 (.seq
 (.reg false [
 ⟨some 5, .mv (.t 0), none⟩,
 ⟨some 6, .mv (.t 1), none⟩,
 ⟨some 7, .pcall (.c (.fn (.f 166) [] [])) [(.t 5), (.t 6), (.c (.bool true))], none⟩,
 ⟨some 4, .mv (.t 7), none⟩])
 .ret)),
 [.tmp 4]⟩

/-- bloomery/path.sign -/
def i135 : IFun := ⟨1, 35,
 (.seq
 (.reg false [
 ⟨some 2, .mv (.c (.bool false)), none⟩])
 (.seq
 (.reg false [
 ⟨some 3, .mv (.t 0), none⟩,
 ⟨some 4, .bin .geq (.t 3) (.c (.int .i32 97)), none⟩,
 ⟨some 5, .mv (.t 4), none⟩,
 ⟨some 6, .mv (.t 0), some (5, true)⟩,
 ⟨some 7, .bin .leq (.t 6) (.c (.int .i32 122)), some (5, true)⟩,
 ⟨some 8, .pick (.t 5) (.t 7) (.c (.bool false)), none⟩,
 ⟨some 9, .mv (.t 8), none⟩,
 ⟨some 10, .mv (.t 0), some (9, false)⟩,
 ⟨some 11, .bin .geq (.t 10) (.c (.int .i32 65)), some (9, false)⟩,
 ⟨some 12, .mv (.t 11), some (9, false)⟩,
 ⟨some 13, .mv (.t 0), some (12, true)⟩,
 ⟨some 14, .bin .leq (.t 13) (.c (.int .i32 90)), some (12, true)⟩,
 ⟨some 15, .pick (.t 12) (.t 14) (.c (.bool false)), some (9, false)⟩,
 ⟨some 16, .pick (.t 9) (.c (.bool true)) (.t 15), none⟩,
 ⟨some 17, .mv (.t 16), none⟩,
 ⟨some 18, .mv (.t 0), some (17, false)⟩,
 ⟨some 19, .bin .geq (.t 18) (.c (.int .i32 48)), some (17, false)⟩,
 ⟨some 20, .mv (.t 19), some (17, false)⟩,
 ⟨some 21, .mv (.t 0), some (20, true)⟩,
 ⟨some 22, .bin .leq (.t 21) (.c (.int .i32 57)), some (20, true)⟩,
 ⟨some 23, .pick (.t 20) (.t 22) (.c (.bool false)), some (17, false)⟩,
 ⟨some 24, .pick (.t 17) (.c (.bool true)) (.t 23), none⟩,
 ⟨some 25, .mv (.t 24), none⟩,
 ⟨some 26, .mv (.t 0), some (25, false)⟩,
 ⟨some 27, .bin .lss (.t 26) (.c (.int .i32 128)), some (25, false)⟩,
 ⟨some 28, .mv (.t 27), some (25, false)⟩,
 ⟨some 29, .mv (.t 0), some (28, true)⟩,
 ⟨some 30, .conv .u8 (.t 29), some (28, true)⟩,
 ⟨some 31, .pcall (.c (.fn (.f 136) [] [])) [(.c (.str [95, 46, 45, 43])), (.t 30)], some (28, true)⟩,
 ⟨some 32, .bin .geq (.t 31) (.c (.int .i64 0)), some (28, true)⟩,
 ⟨some 33, .pick (.t 28) (.t 32) (.c (.bool false)), some (25, false)⟩,
 ⟨some 34, .pick (.t 25) (.c (.bool true)) (.t 33), none⟩,
 ⟨some 2, .mv (.t 34), none⟩])
 .ret)),
 [.tmp 2]⟩

/-- strings.IndexByte -/
def i136 : IFun := ⟨2, 8,
 (.seq
 (.reg false [
 ⟨some 4, .mv (.c (.int .i64 0)), none⟩])
 (.seq
 (.reg false [
 ⟨some 5, .mv (.t 0), none⟩,
 ⟨some 6, .mv (.t 1), none⟩,
 ⟨some 7, .pcall (.c (.fn (.f 167) [] [])) [(.t 5), (.t 6)], none⟩,
 ⟨some 4, .mv (.t 7), none⟩])
 .ret)),
 [.tmp 4]⟩

/-- slices.order2Ordered[string] -/
def i137 : IFun := ⟨4, 28,
 (.seq
 (.reg false [
 ⟨some 8, .mv (.c (.int .i64 0)), none⟩,
 ⟨some 9, .mv (.c (.int .i64 0)), none⟩])
 (.seq
 (.seq
 (.reg true [
 ⟨some 10, .mv (.t 0), none⟩,
 ⟨some 11, .mv (.t 2), none⟩,
 ⟨some 12, .ia 1 (.t 10) (.t 11), none⟩,
 ⟨some 13, .load false 1 (.t 12), none⟩,
 ⟨some 14, .mv (.t 0), none⟩,
 ⟨some 15, .mv (.t 1), none⟩,
 ⟨some 16, .ia 1 (.t 14) (.t 15), none⟩,
 ⟨some 17, .load false 1 (.t 16), none⟩,
 ⟨some 18, .pcall (.c (.fn (.f 76) [] [])) [(.t 13), (.t 17)], none⟩])
 (.cond (.t 18)
 (.seq
 (.reg false [
 ⟨some 19, .mv (.t 3), none⟩,
 ⟨some 20, .nchk (.t 19), none⟩,
 ⟨some 21, .load false 1 (.t 20), none⟩,
 ⟨some 22, .bin .add (.t 21) (.c (.int .i64 1)), none⟩,
 ⟨some 23, .nchk (.t 19), none⟩,
 ⟨none, .store 1 (.t 23) (.t 22), none⟩])
 (.seq
 (.reg false [
 ⟨some 24, .mv (.t 2), none⟩,
 ⟨some 25, .mv (.t 1), none⟩,
 ⟨some 8, .mv (.t 24), none⟩,
 ⟨some 9, .mv (.t 25), none⟩])
 .ret))
 .skip))
 (.seq
 (.reg false [
 ⟨some 26, .mv (.t 1), none⟩,
 ⟨some 27, .mv (.t 2), none⟩,
 ⟨some 8, .mv (.t 26), none⟩,
 ⟨some 9, .mv (.t 27), none⟩])
 .ret))),
 [.tmp 8, .tmp 9]⟩

/-- bloomery/tool.lines -/
def i138 : IFun := ⟨1, 8,
 (.seq
 (.reg false [
 ⟨some 2, .mv (.c (.zsl true)), none⟩])
 (.seq
 (.seq
 (.reg false [
 ⟨some 3, .mv (.t 0), none⟩,
 ⟨some 4, .bin .eql (.t 3) (.c (.str [])), none⟩])
 (.cond (.t 4)
 (.seq
 (.reg false [
 ⟨some 2, .mv (.c (.zsl true)), none⟩])
 .ret)
 .skip))
 (.seq
 (.reg false [
 ⟨some 5, .mv (.t 0), none⟩,
 ⟨some 6, .pcall (.c (.fn (.f 168) [] [])) [(.t 5), (.c (.str [10]))], none⟩,
 ⟨some 7, .pcall (.c (.fn (.f 130) [] [])) [(.t 6), (.c (.str [10]))], none⟩,
 ⟨some 2, .mv (.t 7), none⟩])
 .ret))),
 [.tmp 2]⟩

/-- bloomery/tool.read -/
def i139 : IFun := ⟨1, 67,
 (.seq
 (.reg false [
 ⟨some 2, .mv (.c (.nilp)), none⟩,
 ⟨some 3, .mv (.c (.bool false)), none⟩])
 (.seq
 (.reg false [
 ⟨some 8, .mv (.t 0), none⟩,
 ⟨some 9, .pcall (.c (.fn (.f 169) [] [])) [(.t 8)], none⟩,
 ⟨some 4, .mv (.t 9), none⟩])
 (.seq
 (.seq
 (.reg false [
 ⟨some 10, .mv (.t 4), none⟩,
 ⟨some 11, .len false (.t 10), none⟩,
 ⟨some 12, .bin .eql (.t 11) (.c (.int .i64 0)), none⟩,
 ⟨some 13, .mv (.t 12), none⟩,
 ⟨some 14, .mv (.t 4), some (13, false)⟩,
 ⟨some 15, .ia 1 (.t 14) (.c (.int .i64 0)), some (13, false)⟩,
 ⟨some 16, .load false 1 (.t 15), some (13, false)⟩,
 ⟨some 17, .ixs (.t 16) (.c (.int .i64 0)), some (13, false)⟩,
 ⟨some 18, .bin .eql (.t 17) (.c (.int .u8 35)), some (13, false)⟩,
 ⟨some 19, .pick (.t 13) (.c (.bool true)) (.t 18), none⟩])
 (.cond (.t 19)
 (.seq
 (.reg false [
 ⟨some 2, .mv (.c (.nilp)), none⟩,
 ⟨some 3, .mv (.c (.bool true)), none⟩])
 .ret)
 .skip))
 (.seq
 (.seq
 (.reg false [
 ⟨some 20, .mv (.t 4), none⟩,
 ⟨some 21, .ia 1 (.t 20) (.c (.int .i64 0)), none⟩,
 ⟨some 22, .load false 1 (.t 21), none⟩,
 ⟨some 23, .bin .eql (.t 22) (.c (.str [116, 101, 120, 116])), none⟩])
 (.cond (.t 23)
 (.seq
 (.reg false [
 ⟨some 24, .mv (.t 0), none⟩,
 ⟨some 25, .mv (.t 0), none⟩,
 ⟨some 26, .pcall (.c (.fn (.f 163) [] [])) [(.t 25), (.c (.str [116, 101, 120, 116]))], none⟩,
 ⟨some 27, .bin .add (.t 26) (.c (.int .i64 4)), none⟩,
 ⟨some 28, .sls (.t 24) (some (.t 27)) none, none⟩,
 ⟨some 5, .mv (.t 28), none⟩])
 (.seq
 (.reg true [
 ⟨some 29, .mv (.t 4), none⟩,
 ⟨some 30, .slv 1 (.t 29) none (some (.c (.int .i64 1))) none, none⟩,
 ⟨some 31, .mv (.t 5), none⟩,
 ⟨some 32, .mv (.t 5), none⟩,
 ⟨some 33, .len true (.t 32), none⟩,
 ⟨some 34, .min2 (.c (.int .i64 1)) (.t 33), none⟩,
 ⟨some 35, .sls (.t 31) (some (.t 34)) none, none⟩,
 ⟨some 36, .pcall (.c (.fn (.f 170) [] [])) [(.t 35)], none⟩,
 ⟨some 37, .build [.zsl true, .str []] [(0, 1, (.t 30)), (1, 1, (.t 36))], none⟩,
 ⟨some 38, .boxr (.t 37), none⟩,
 ⟨some 2, .mv (.t 38), none⟩,
 ⟨some 3, .mv (.c (.bool true)), none⟩])
 .ret))
 .skip))
 (.seq
 (.reg false [
 ⟨some 40, .mv (.t 4), none⟩,
 ⟨some 41, .ia 1 (.t 40) (.c (.int .i64 0)), none⟩,
 ⟨some 42, .load false 1 (.t 41), none⟩,
 ⟨some 43, .pcall (.c (.fn (.f 171) [] [])) [(.t 42)], none⟩,
 ⟨some 39, .mv (.t 43), none⟩,
 ⟨some 44, .ext (.t 39) 0, none⟩,
 ⟨some 45, .ext (.t 39) 1, none⟩,
 ⟨some 6, .mv (.t 44), none⟩,
 ⟨some 7, .mv (.t 45), none⟩])
 (.seq
 (.seq
 (.reg false [
 ⟨some 46, .mv (.t 6), none⟩,
 ⟨some 47, .mv (.t 4), none⟩,
 ⟨some 48, .len false (.t 47), none⟩,
 ⟨some 49, .bin .neq (.t 46) (.t 48), none⟩,
 ⟨some 50, .mv (.t 49), none⟩,
 ⟨some 51, .mv (.t 6), some (50, false)⟩,
 ⟨some 52, .bin .eql (.t 51) (.c (.int .i64 0)), some (50, false)⟩,
 ⟨some 53, .pick (.t 50) (.c (.bool true)) (.t 52), none⟩,
 ⟨some 54, .mv (.t 53), none⟩,
 ⟨some 55, .mv (.t 7), some (54, false)⟩,
 ⟨some 56, .mv (.t 55), some (54, false)⟩,
 ⟨some 57, .mv (.t 4), some (56, true)⟩,
 ⟨some 58, .ia 1 (.t 57) (.c (.int .i64 1)), some (56, true)⟩,
 ⟨some 59, .load false 1 (.t 58), some (56, true)⟩,
 ⟨some 60, .pcall (.c (.fn (.f 48) [] [])) [(.t 59)], some (56, true)⟩,
 ⟨some 61, .un .not (.t 60), some (56, true)⟩,
 ⟨some 62, .pick (.t 56) (.t 61) (.c (.bool false)), some (54, false)⟩,
 ⟨some 63, .pick (.t 54) (.c (.bool true)) (.t 62), none⟩])
 (.cond (.t 63)
 (.seq
 (.reg false [
 ⟨some 2, .mv (.c (.nilp)), none⟩,
 ⟨some 3, .mv (.c (.bool false)), none⟩])
 .ret)
 .skip))
 (.seq
 (.reg false [
 ⟨some 64, .mv (.t 4), none⟩,
 ⟨some 65, .build [.zsl true, .str []] [(0, 1, (.t 64))], none⟩,
 ⟨some 66, .boxr (.t 65), none⟩,
 ⟨some 2, .mv (.t 66), none⟩,
 ⟨some 3, .mv (.c (.bool true)), none⟩])
 .ret))))))),
 [.tmp 2, .tmp 3]⟩

/-- slices.Backward[[]bloomery/tool.command,bloomery/tool.command]$1 -/
def i140 : IFun := ⟨2, 19,
 (.seq
 (.reg false [
 ⟨some 4, .loadv false 1 (.t 1), none⟩,
 ⟨some 5, .len false (.t 4), none⟩,
 ⟨some 6, .bin .sub (.t 5) (.c (.int .i64 1)), none⟩,
 ⟨some 3, .mv (.t 6), none⟩])
 (.blk 0
 (.seq (.gh (.clr 11)) (.loop (.seq
 (.seq
 (.seq
 (.reg false [
 ⟨some 7, .mv (.t 3), none⟩,
 ⟨some 8, .bin .geq (.t 7) (.c (.int .i64 0)), none⟩])
 (.cond (.t 8)
 .skip
 (.exit 0)))
 (.seq
 (.blk 1
 (.seq
 (.reg false [
 ⟨some 11, .mv (.t 0), none⟩,
 ⟨some 12, .mv (.t 3), none⟩,
 ⟨some 13, .loadv false 1 (.t 1), none⟩,
 ⟨some 14, .mv (.t 3), none⟩,
 ⟨some 15, .ia 2 (.t 13) (.t 14), none⟩,
 ⟨some 16, .load true 2 (.t 15), none⟩,
 ⟨some 17, .call (.t 11) [(.t 12), (.t 16)], none⟩,
 ⟨some 18, .un .not (.t 17), none⟩])
 (.cond (.t 18)
 .ret
 .skip)))
 (.reg false [
 ⟨some 9, .mv (.t 3), none⟩,
 ⟨some 10, .bin .sub (.t 9) (.c (.int .i64 1)), none⟩,
 ⟨some 3, .mv (.t 10), none⟩])))
 (.gh (.clr 11))))))),
 []⟩

/-- (*bloomery/tool.Run).do -/
def i141 : IFun := ⟨2, 112,
 (.seq
 (.reg false [
 ⟨some 2, .boxv (.t 0), none⟩,
 ⟨some 3, .boxv (.t 1), none⟩])
 (.seq
 (.reg false [
 ⟨some 4, .alloc [.str []], none⟩,
 ⟨none, .store 1 (.t 4) (.c (.str [])), none⟩])
 (.seq
 (.seq
 (.reg false [
 ⟨some 7, .fa (.t 3) 0, none⟩,
 ⟨some 8, .loadv false 1 (.t 7), none⟩,
 ⟨some 9, .len false (.t 8), none⟩,
 ⟨some 10, .bin .gtr (.t 9) (.c (.int .i64 1)), none⟩])
 (.seq
 (.cond (.t 10)
 (.reg false [
 ⟨some 11, .fa (.t 3) 0, none⟩,
 ⟨some 12, .loadv false 1 (.t 11), none⟩,
 ⟨some 13, .ia 1 (.t 12) (.c (.int .i64 1)), none⟩,
 ⟨some 14, .load false 1 (.t 13), none⟩,
 ⟨none, .store 1 (.t 4) (.t 14), none⟩])
 .skip)
 (.gh (.frz 4))))
 (.seq
 (.reg false [
 ⟨some 15, .loadv false 1 (.t 2), none⟩,
 ⟨some 16, .nchk (.t 15), none⟩,
 ⟨some 17, .fa (.t 16) 2, none⟩,
 ⟨some 18, .load false 1 (.t 17), none⟩,
 ⟨some 19, .pcall (.c (.fn (.f 138) [] [])) [(.t 18)], none⟩,
 ⟨some 5, .mv (.t 19), none⟩])
 (.seq
 (.reg false [
 ⟨some 20, .fa (.t 3) 0, none⟩,
 ⟨some 21, .loadv false 1 (.t 20), none⟩,
 ⟨some 22, .ia 1 (.t 21) (.c (.int .i64 0)), none⟩,
 ⟨some 23, .load false 1 (.t 22), none⟩])
 (.blk 0
 (.seq
 (.reg false [
 ⟨some 33, .bin .eql (.t 23) (.c (.str [114, 101, 97, 100])), none⟩,
 ⟨some 32, .mv (.t 33), none⟩])
 (.cond (.t 32)
 (.reg true [
 ⟨some 34, .loadv false 1 (.t 2), none⟩,
 ⟨some 35, .loadv false 1 (.t 4), none⟩,
 ⟨some 36, .loadv false 1 (.t 2), none⟩,
 ⟨some 37, .loadv false 1 (.t 2), none⟩,
 ⟨some 38, .mkfn 142 [(.t 37)] [], none⟩,
 ⟨some 39, .call (.c (.fn (.f 143) [] [])) [(.t 36), (.t 38)], none⟩,
 ⟨some 40, .call (.c (.fn (.f 144) [] [])) [(.t 34), (.t 35), (.t 39)], none⟩])
 (.seq
 (.reg false [
 ⟨some 42, .bin .eql (.t 23) (.c (.str [116, 114, 121])), none⟩,
 ⟨some 41, .mv (.t 42), none⟩])
 (.cond (.t 41)
 (.reg false [
 ⟨some 43, .loadv false 1 (.t 2), none⟩,
 ⟨some 44, .loadv false 1 (.t 4), none⟩,
 ⟨some 45, .mkfn 145 [] [(.t 2)], none⟩,
 ⟨some 46, .call (.c (.fn (.f 144) [] [])) [(.t 43), (.t 44), (.t 45)], none⟩])
 (.seq
 (.reg false [
 ⟨some 48, .bin .eql (.t 23) (.c (.str [115, 99, 97, 110])), none⟩,
 ⟨some 47, .mv (.t 48), none⟩])
 (.cond (.t 47)
 (.reg true [
 ⟨some 49, .loadv false 1 (.t 2), none⟩,
 ⟨some 50, .loadv false 1 (.t 4), none⟩,
 ⟨some 51, .fa (.t 3) 0, none⟩,
 ⟨some 52, .loadv false 1 (.t 51), none⟩,
 ⟨some 53, .ia 1 (.t 52) (.c (.int .i64 2)), none⟩,
 ⟨some 54, .load false 1 (.t 53), none⟩,
 ⟨some 55, .mkmap, none⟩,
 ⟨some 56, .call (.c (.fn (.f 146) [] [])) [(.t 49), (.t 50), (.t 54), (.t 55)], none⟩])
 (.seq
 (.reg false [
 ⟨some 58, .bin .eql (.t 23) (.c (.str [116, 101, 120, 116])), none⟩,
 ⟨some 57, .mv (.t 58), none⟩])
 (.cond (.t 57)
 (.reg false [
 ⟨some 59, .loadv false 1 (.t 2), none⟩,
 ⟨some 60, .fa (.t 3) 1, none⟩,
 ⟨some 61, .loadv false 1 (.t 60), none⟩,
 ⟨some 62, .bin .add (.t 61) (.c (.str [10])), none⟩,
 ⟨some 63, .call (.c (.fn (.f 142) [] [])) [(.t 59), (.t 62)], none⟩])
 (.seq
 (.reg false [
 ⟨some 65, .bin .eql (.t 23) (.c (.str [101, 110, 118])), none⟩,
 ⟨some 64, .mv (.t 65), none⟩])
 (.cond (.t 64)
 (.seq
 (.reg false [
 ⟨some 66, .loadv false 1 (.t 2), none⟩,
 ⟨some 67, .nchk (.t 66), none⟩,
 ⟨some 68, .fa (.t 67) 1, none⟩,
 ⟨some 69, .load false 1 (.t 68), none⟩,
 ⟨some 70, .mkfn 147 [] [(.t 4)], none⟩,
 ⟨some 71, .pcall (.c (.fn (.f 148) [] [])) [(.t 69), (.t 70)], none⟩,
 ⟨some 6, .mv (.t 71), none⟩])
 (.seq
 (.seq
 (.reg false [
 ⟨some 72, .mv (.t 6), none⟩,
 ⟨some 73, .bin .lss (.t 72) (.c (.int .i64 0)), none⟩])
 (.cond (.t 73)
 (.seq
 (.reg false [
 ⟨some 74, .loadv false 1 (.t 2), none⟩,
 ⟨some 75, .call (.c (.fn (.f 149) [] [])) [(.t 74), (.c (.int .i64 10))], none⟩])
 .ret)
 .skip))
 (.reg true [
 ⟨some 76, .loadv false 1 (.t 2), none⟩,
 ⟨some 77, .loadv false 1 (.t 2), none⟩,
 ⟨some 78, .nchk (.t 77), none⟩,
 ⟨some 79, .fa (.t 78) 1, none⟩,
 ⟨some 80, .load false 1 (.t 79), none⟩,
 ⟨some 81, .mv (.t 6), none⟩,
 ⟨some 82, .ia 2 (.t 80) (.t 81), none⟩,
 ⟨some 83, .fa (.t 82) 1, none⟩,
 ⟨some 84, .load false 1 (.t 83), none⟩,
 ⟨some 85, .call (.c (.fn (.f 142) [] [])) [(.t 76), (.t 84)], none⟩])))
 (.seq
 (.reg false [
 ⟨some 87, .bin .eql (.t 23) (.c (.str [119, 114, 105, 116, 101])), none⟩,
 ⟨some 86, .mv (.t 87), none⟩])
 (.cond (.t 86)
 (.seq
 (.reg true [
 ⟨some 88, .loadv false 1 (.t 2), none⟩,
 ⟨some 89, .loadv false 1 (.t 4), none⟩,
 ⟨some 90, .loadv false 1 (.t 2), none⟩,
 ⟨some 91, .nchk (.t 90), none⟩,
 ⟨some 92, .fa (.t 91) 2, none⟩,
 ⟨some 93, .load false 1 (.t 92), none⟩,
 ⟨some 94, .build [.int .i64 0, .str [], .str [], .int .i64 0] [(0, 1, (.c (.int .i64 2))), (1, 1, (.t 89)), (2, 1, (.t 93))], none⟩,
 ⟨some 95, .nchk (.t 88), none⟩,
 ⟨some 96, .fa (.t 95) 6, none⟩,
 ⟨none, .store 4 (.t 96) (.t 94), none⟩])
 (.reg false [
 ⟨some 97, .loadv false 1 (.t 2), none⟩,
 ⟨some 98, .nchk (.t 97), none⟩,
 ⟨some 99, .fa (.t 98) 2, none⟩,
 ⟨none, .store 1 (.t 99) (.c (.str [])), none⟩]))
 (.seq
 (.reg false [
 ⟨some 101, .bin .eql (.t 23) (.c (.str [110, 101, 101, 100])), none⟩,
 ⟨some 100, .mv (.t 101), none⟩])
 (.cond (.t 100)
 (.seq
 (.reg false [
 ⟨some 102, .mv (.t 5), none⟩,
 ⟨some 103, .mkfn 150 [] [(.t 4)], none⟩,
 ⟨some 104, .pcall (.c (.fn (.f 105) [] [])) [(.t 102), (.t 103)], none⟩,
 ⟨some 105, .un .not (.t 104), none⟩])
 (.cond (.t 105)
 (.reg false [
 ⟨some 106, .loadv false 1 (.t 2), none⟩,
 ⟨some 107, .call (.c (.fn (.f 149) [] [])) [(.t 106), (.c (.int .i64 15))], none⟩])
 .skip))
 (.seq
 (.reg false [
 ⟨some 109, .bin .eql (.t 23) (.c (.str [102, 97, 105, 108])), none⟩,
 ⟨some 108, .mv (.t 109), none⟩])
 (.cond (.t 108)
 (.reg false [
 ⟨some 110, .loadv false 1 (.t 2), none⟩,
 ⟨some 111, .call (.c (.fn (.f 149) [] [])) [(.t 110), (.c (.int .i64 15))], none⟩])
 (.reg true [
 ⟨some 24, .loadv false 1 (.t 2), none⟩,
 ⟨some 25, .fa (.t 3) 0, none⟩,
 ⟨some 26, .loadv false 1 (.t 25), none⟩,
 ⟨some 27, .ia 1 (.t 26) (.c (.int .i64 0)), none⟩,
 ⟨some 28, .load false 1 (.t 27), none⟩,
 ⟨some 29, .loadv false 1 (.t 4), none⟩,
 ⟨some 30, .mv (.t 5), none⟩,
 ⟨some 31, .call (.c (.fn (.f 151) [] [])) [(.t 24), (.t 28), (.t 29), (.t 30)], none⟩]))))))))))))))))))))))),
 []⟩

/-- (*bloomery/tool.Run).add -/
def i142 : IFun := ⟨2, 23,
 (.seq
 (.seq
 (.reg false [
 ⟨some 4, .mv (.t 0), none⟩,
 ⟨some 5, .nchk (.t 4), none⟩,
 ⟨some 6, .fa (.t 5) 2, none⟩,
 ⟨some 7, .load false 1 (.t 6), none⟩,
 ⟨some 8, .len true (.t 7), none⟩,
 ⟨some 9, .mv (.t 1), none⟩,
 ⟨some 10, .len true (.t 9), none⟩,
 ⟨some 11, .bin .add (.t 8) (.t 10), none⟩,
 ⟨some 12, .bin .gtr (.t 11) (.c (.int .i64 65536)), none⟩])
 (.cond (.t 12)
 (.seq
 (.reg false [
 ⟨some 13, .mv (.t 0), none⟩,
 ⟨some 14, .call (.c (.fn (.f 149) [] [])) [(.t 13), (.c (.int .i64 6))], none⟩])
 .ret)
 .skip))
 (.reg false [
 ⟨some 15, .mv (.t 0), none⟩,
 ⟨some 16, .nchk (.t 15), none⟩,
 ⟨some 17, .fa (.t 16) 2, none⟩,
 ⟨some 18, .load false 1 (.t 17), none⟩,
 ⟨some 19, .mv (.t 1), none⟩,
 ⟨some 20, .bin .add (.t 18) (.t 19), none⟩,
 ⟨some 21, .nchk (.t 15), none⟩,
 ⟨some 22, .fa (.t 21) 2, none⟩,
 ⟨none, .store 1 (.t 22) (.t 20), none⟩])),
 []⟩

/-- (*bloomery/tool.Run).there -/
def i143 : IFun := ⟨2, 6,
 (.seq
 (.reg false [
 ⟨some 2, .boxv (.t 0), none⟩,
 ⟨some 3, .boxv (.t 1), none⟩,
 ⟨some 4, .mv (.c (.nilf)), none⟩])
 (.seq
 (.reg false [
 ⟨some 5, .mkfn 173 [] [(.t 2), (.t 3)], none⟩,
 ⟨some 4, .mv (.t 5), none⟩])
 .ret)),
 [.tmp 4]⟩

/-- (*bloomery/tool.Run).ask -/
def i144 : IFun := ⟨3, 46,
 (.seq
 (.reg false [
 ⟨some 3, .boxv (.t 0), none⟩,
 ⟨some 4, .boxv (.t 1), none⟩,
 ⟨some 5, .boxv (.t 2), none⟩])
 (.seq
 (.seq
 (.seq
 (.reg true [
 ⟨some 9, .loadv false 1 (.t 3), none⟩,
 ⟨some 10, .nchk (.t 9), none⟩,
 ⟨some 11, .fa (.t 10) 3, none⟩,
 ⟨some 12, .load false 1 (.t 11), none⟩,
 ⟨some 13, .loadv false 1 (.t 4), none⟩,
 ⟨some 14, .look false [2] (.t 12) (.t 13) (.agg [.str [], .bool false, .str []]) true, none⟩,
 ⟨some 8, .mv (.t 14), none⟩,
 ⟨some 15, .ext (.t 8) 0, none⟩,
 ⟨some 16, .ext (.t 8) 1, none⟩,
 ⟨some 6, .alloc [.str [], .bool false, .str []], none⟩,
 ⟨none, .store 3 (.t 6) (.t 15), none⟩,
 ⟨some 7, .mv (.t 16), none⟩])
 (.gh (.frz 6)))
 (.seq
 (.reg false [
 ⟨some 17, .mv (.t 7), none⟩])
 (.cond (.t 17)
 (.seq
 (.reg false [
 ⟨some 18, .loadv false 1 (.t 5), none⟩,
 ⟨some 19, .loadv true 3 (.t 6), none⟩,
 ⟨some 20, .call (.t 18) [(.t 19)], none⟩])
 .ret)
 .skip)))
 (.seq
 (.seq
 (.reg false [
 ⟨some 21, .loadv false 1 (.t 3), none⟩,
 ⟨some 22, .nchk (.t 21), none⟩,
 ⟨some 23, .fa (.t 22) 3, none⟩,
 ⟨some 24, .load false 1 (.t 23), none⟩,
 ⟨some 25, .lenm (.t 24), none⟩,
 ⟨some 26, .bin .geq (.t 25) (.c (.int .i64 500)), none⟩])
 (.cond (.t 26)
 (.seq
 (.reg false [
 ⟨some 27, .loadv false 1 (.t 3), none⟩,
 ⟨some 28, .call (.c (.fn (.f 149) [] [])) [(.t 27), (.c (.int .i64 6))], none⟩])
 .ret)
 .skip))
 (.seq
 (.reg true [
 ⟨some 29, .loadv false 1 (.t 3), none⟩,
 ⟨some 30, .loadv false 1 (.t 3), none⟩,
 ⟨some 31, .loadv false 1 (.t 4), none⟩,
 ⟨some 32, .nchk (.t 29), none⟩,
 ⟨some 33, .fa (.t 32) 4, none⟩,
 ⟨none, .store 1 (.t 33) (.t 31), none⟩,
 ⟨some 34, .nchk (.t 30), none⟩,
 ⟨some 35, .fa (.t 34) 5, none⟩,
 ⟨none, .store 1 (.t 35) (.c (.bool true)), none⟩])
 (.reg true [
 ⟨some 36, .loadv false 1 (.t 3), none⟩,
 ⟨some 37, .loadv false 1 (.t 3), none⟩,
 ⟨some 38, .nchk (.t 37), none⟩,
 ⟨some 39, .fa (.t 38) 0, none⟩,
 ⟨some 40, .load false 1 (.t 39), none⟩,
 ⟨some 41, .mkfn 172 [] [(.t 5), (.t 3), (.t 4)], none⟩,
 ⟨some 42, .bsl 1 [(.t 41)], none⟩,
 ⟨some 43, .app 1 8 (.t 40) (.t 42), none⟩,
 ⟨some 44, .nchk (.t 36), none⟩,
 ⟨some 45, .fa (.t 44) 0, none⟩,
 ⟨none, .store 1 (.t 45) (.t 43), none⟩]))))),
 []⟩

/-- (*bloomery/tool.Run).do$1 -/
def i145 : IFun := ⟨2, 9,
 (.seq
 (.reg false [
 ⟨some 2, .boxv (.t 0), none⟩])
 (.seq
 (.reg false [
 ⟨some 3, .fa (.t 2) 1, none⟩,
 ⟨some 4, .loadv false 1 (.t 3), none⟩])
 (.cond (.t 4)
 (.reg false [
 ⟨some 5, .loadv false 1 (.t 1), none⟩,
 ⟨some 6, .fa (.t 2) 2, none⟩,
 ⟨some 7, .loadv false 1 (.t 6), none⟩,
 ⟨some 8, .call (.c (.fn (.f 142) [] [])) [(.t 5), (.t 7)], none⟩])
 .skip))),
 []⟩

/-- (*bloomery/tool.Run).scan -/
def i146 : IFun := ⟨4, 16,
 (.seq
 (.reg false [
 ⟨some 4, .boxv (.t 0), none⟩,
 ⟨some 6, .boxv (.t 2), none⟩,
 ⟨some 7, .boxv (.t 3), none⟩])
 (.seq
 (.reg false [
 ⟨some 8, .loadv false 1 (.t 7), none⟩,
 ⟨some 9, .mv (.t 1), none⟩,
 ⟨none, .mset false [2] (.t 8) (.t 9) (.c (.bool true)), none⟩])
 (.reg true [
 ⟨some 10, .loadv false 1 (.t 4), none⟩,
 ⟨some 11, .mv (.t 1), none⟩,
 ⟨some 12, .loadv false 1 (.t 4), none⟩,
 ⟨some 13, .mkfn 174 [] [(.t 4), (.t 6), (.t 7)], none⟩,
 ⟨some 14, .call (.c (.fn (.f 143) [] [])) [(.t 12), (.t 13)], none⟩,
 ⟨some 15, .call (.c (.fn (.f 144) [] [])) [(.t 10), (.t 11), (.t 14)], none⟩]))),
 []⟩

/-- (*bloomery/tool.Run).do$2 -/
def i147 : IFun := ⟨2, 8,
 (.seq
 (.reg false [
 ⟨some 2, .boxv (.t 0), none⟩,
 ⟨some 3, .mv (.c (.bool false)), none⟩])
 (.seq
 (.reg false [
 ⟨some 4, .fa (.t 2) 0, none⟩,
 ⟨some 5, .loadv false 1 (.t 4), none⟩,
 ⟨some 6, .loadv false 1 (.t 1), none⟩,
 ⟨some 7, .bin .eql (.t 5) (.t 6), none⟩,
 ⟨some 3, .mv (.t 7), none⟩])
 .ret)),
 [.tmp 3]⟩

/-- slices.IndexFunc[[]bloomery/api.Setting,bloomery/api.Setting] -/
def i148 : IFun := ⟨2, 19,
 (.seq
 (.reg false [
 ⟨some 4, .mv (.c (.int .i64 0)), none⟩])
 (.seq
 (.seq
 (.reg false [
 ⟨some 6, .mv (.t 0), none⟩,
 ⟨some 7, .len false (.t 6), none⟩,
 ⟨some 8, .mv (.c (.int .i64 0)), none⟩])
 (.blk 0
 (.seq (.gh (.clr 387)) (.loop (.seq
 (.seq
 (.reg false [
 ⟨some 9, .bin .lss (.t 8) (.t 7), none⟩])
 (.seq
 (.cond (.t 9)
 .skip
 (.exit 0))
 (.seq
 (.blk 1
 (.seq
 (.reg false [
 ⟨some 10, .mv (.t 8), none⟩,
 ⟨some 5, .mv (.t 10), none⟩])
 (.seq
 (.reg false [
 ⟨some 11, .mv (.t 1), none⟩,
 ⟨some 12, .mv (.t 0), none⟩,
 ⟨some 13, .mv (.t 5), none⟩,
 ⟨some 14, .ia 2 (.t 12) (.t 13), none⟩,
 ⟨some 15, .load true 2 (.t 14), none⟩,
 ⟨some 16, .call (.t 11) [(.t 15)], none⟩])
 (.cond (.t 16)
 (.seq
 (.reg false [
 ⟨some 17, .mv (.t 5), none⟩,
 ⟨some 4, .mv (.t 17), none⟩])
 .ret)
 .skip))))
 (.reg false [
 ⟨some 18, .bin .add (.t 8) (.c (.int .i64 1)), none⟩,
 ⟨some 8, .mv (.t 18), none⟩]))))
 (.gh (.clr 387)))))))
 (.seq
 (.reg false [
 ⟨some 4, .mv (.c (.int .i64 (-1))), none⟩])
 .ret))),
 [.tmp 4]⟩

/-- (*bloomery/tool.Run).fail -/
def i149 : IFun := ⟨2, 9,
 (.reg false [
 ⟨some 4, .mv (.t 0), none⟩,
 ⟨some 5, .mv (.t 1), none⟩,
 ⟨some 6, .build [.int .i64 0, .str [], .str [], .int .i64 0] [(0, 1, (.c (.int .i64 4))), (3, 1, (.t 5))], none⟩,
 ⟨some 7, .nchk (.t 4), none⟩,
 ⟨some 8, .fa (.t 7) 6, none⟩,
 ⟨none, .store 4 (.t 8) (.t 6), none⟩]),
 []⟩

/-- (*bloomery/tool.Run).do$3 -/
def i150 : IFun := ⟨2, 7,
 (.seq
 (.reg false [
 ⟨some 3, .mv (.c (.bool false)), none⟩])
 (.seq
 (.reg false [
 ⟨some 4, .mv (.t 0), none⟩,
 ⟨some 5, .loadv false 1 (.t 1), none⟩,
 ⟨some 6, .pcall (.c (.fn (.f 175) [] [])) [(.t 4), (.t 5)], none⟩,
 ⟨some 3, .mv (.t 6), none⟩])
 .ret)),
 [.tmp 3]⟩

/-- (*bloomery/tool.Run).turn -/
def i151 : IFun := ⟨4, 72,
 (.seq
 (.reg false [
 ⟨some 6, .boxv (.t 2), none⟩])
 (.seq
 (.reg false [
 ⟨some 11, .mv (.t 1), none⟩])
 (.blk 0
 (.seq
 (.reg false [
 ⟨some 13, .bin .eql (.t 11) (.c (.str [115, 111, 114, 116])), none⟩,
 ⟨some 12, .mv (.t 13), none⟩])
 (.cond (.t 12)
 (.seq
 (.reg false [
 ⟨some 14, .mv (.t 3), none⟩,
 ⟨some 15, .pcall (.c (.fn (.f 24) [] [])) [(.t 14)], none⟩])
 (.reg false [
 ⟨some 16, .mv (.t 0), none⟩,
 ⟨some 17, .mv (.t 3), none⟩,
 ⟨some 18, .call (.c (.fn (.f 176) [] [])) [(.t 16), (.t 17)], none⟩]))
 (.seq
 (.reg false [
 ⟨some 20, .bin .eql (.t 11) (.c (.str [117, 110, 105, 113])), none⟩,
 ⟨some 19, .mv (.t 20), none⟩])
 (.cond (.t 19)
 (.reg false [
 ⟨some 21, .mv (.t 0), none⟩,
 ⟨some 22, .mv (.t 3), none⟩,
 ⟨some 23, .pcall (.c (.fn (.f 25) [] [])) [(.t 22)], none⟩,
 ⟨some 24, .call (.c (.fn (.f 176) [] [])) [(.t 21), (.t 23)], none⟩])
 (.seq
 (.reg false [
 ⟨some 26, .bin .eql (.t 11) (.c (.str [117, 112, 112, 101, 114])), none⟩,
 ⟨some 25, .mv (.t 26), none⟩])
 (.cond (.t 25)
 (.seq
 (.reg false [
 ⟨some 27, .mv (.t 0), none⟩,
 ⟨some 28, .nchk (.t 27), none⟩,
 ⟨some 29, .fa (.t 28) 2, none⟩,
 ⟨some 30, .load false 1 (.t 29), none⟩,
 ⟨some 31, .s2b (.t 30), none⟩,
 ⟨some 8, .mv (.t 31), none⟩])
 (.seq
 (.seq
 (.reg false [
 ⟨some 32, .mv (.t 8), none⟩,
 ⟨some 33, .len false (.t 32), none⟩,
 ⟨some 34, .mv (.c (.int .i64 0)), none⟩])
 (.blk 1
 (.seq (.gh (.clr 30064771329)) (.loop (.seq
 (.seq
 (.reg false [
 ⟨some 35, .bin .lss (.t 34) (.t 33), none⟩])
 (.seq
 (.cond (.t 35)
 .skip
 (.exit 1))
 (.seq
 (.blk 2
 (.seq
 (.reg false [
 ⟨some 36, .mv (.t 34), none⟩,
 ⟨some 37, .ia 1 (.t 32) (.t 34), none⟩,
 ⟨some 38, .load false 1 (.t 37), none⟩,
 ⟨some 9, .mv (.t 36), none⟩,
 ⟨some 10, .mv (.t 38), none⟩])
 (.seq
 (.reg false [
 ⟨some 39, .mv (.t 10), none⟩,
 ⟨some 40, .bin .geq (.t 39) (.c (.int .u8 97)), none⟩,
 ⟨some 41, .mv (.t 40), none⟩,
 ⟨some 42, .mv (.t 10), some (41, true)⟩,
 ⟨some 43, .bin .leq (.t 42) (.c (.int .u8 122)), some (41, true)⟩,
 ⟨some 44, .pick (.t 41) (.t 43) (.c (.bool false)), none⟩])
 (.cond (.t 44)
 (.reg false [
 ⟨some 45, .mv (.t 8), none⟩,
 ⟨some 46, .mv (.t 9), none⟩,
 ⟨some 47, .mv (.t 10), none⟩,
 ⟨some 48, .bin .sub (.t 47) (.c (.int .u8 32)), none⟩,
 ⟨some 49, .ia 1 (.t 45) (.t 46), none⟩,
 ⟨none, .store 1 (.t 49) (.t 48), none⟩])
 .skip))))
 (.reg false [
 ⟨some 50, .bin .add (.t 34) (.c (.int .i64 1)), none⟩,
 ⟨some 34, .mv (.t 50), none⟩]))))
 (.gh (.clr 30064771329)))))))
 (.reg false [
 ⟨some 51, .mv (.t 0), none⟩,
 ⟨some 52, .mv (.t 8), none⟩,
 ⟨some 53, .b2s (.t 52), none⟩,
 ⟨some 54, .nchk (.t 51), none⟩,
 ⟨some 55, .fa (.t 54) 2, none⟩,
 ⟨none, .store 1 (.t 55) (.t 53), none⟩])))
 (.seq
 (.reg false [
 ⟨some 57, .bin .eql (.t 11) (.c (.str [99, 111, 117, 110, 116])), none⟩,
 ⟨some 56, .mv (.t 57), none⟩])
 (.cond (.t 56)
 (.reg false [
 ⟨some 58, .mv (.t 0), none⟩,
 ⟨some 59, .mv (.t 3), none⟩,
 ⟨some 60, .len false (.t 59), none⟩,
 ⟨some 61, .pcall (.c (.fn (.f 177) [] [])) [(.t 60)], none⟩,
 ⟨some 62, .bin .add (.t 61) (.c (.str [10])), none⟩,
 ⟨some 63, .nchk (.t 58), none⟩,
 ⟨some 64, .fa (.t 63) 2, none⟩,
 ⟨none, .store 1 (.t 64) (.t 62), none⟩])
 (.seq
 (.reg false [
 ⟨some 66, .bin .eql (.t 11) (.c (.str [107, 101, 101, 112])), none⟩,
 ⟨some 65, .mv (.t 66), none⟩])
 (.cond (.t 65)
 (.reg false [
 ⟨some 67, .mv (.t 0), none⟩,
 ⟨some 68, .mv (.t 3), none⟩,
 ⟨some 69, .mkfn 178 [] [(.t 6)], none⟩,
 ⟨some 70, .pcall (.c (.fn (.f 179) [] [])) [(.t 68), (.t 69)], none⟩,
 ⟨some 71, .call (.c (.fn (.f 176) [] [])) [(.t 67), (.t 70)], none⟩])
 .skip))))))))))))),
 []⟩

/-- bloomery/box.reader$1$1 -/
def i152 : IFun := ⟨2, 7,
 (.seq
 (.reg false [
 ⟨some 3, .mv (.c (.bool false)), none⟩])
 (.seq
 (.reg false [
 ⟨some 4, .mv (.t 0), none⟩,
 ⟨some 5, .loadv false 1 (.t 1), none⟩,
 ⟨some 6, .pcall (.c (.fn (.f 153) [] [])) [(.t 4), (.t 5)], none⟩,
 ⟨some 3, .mv (.t 6), none⟩])
 .ret)),
 [.tmp 3]⟩

/-- bloomery/globs.Match -/
def i153 : IFun := ⟨2, 25,
 (.seq
 (.reg false [
 ⟨some 4, .mv (.c (.bool false)), none⟩])
 (.seq
 (.seq
 (.reg false [
 ⟨some 9, .mv (.t 0), none⟩,
 ⟨some 10, .pcall (.c (.fn (.f 129) [] [])) [(.t 9)], none⟩,
 ⟨some 11, .un .not (.t 10), none⟩,
 ⟨some 12, .mv (.t 11), none⟩,
 ⟨some 13, .mv (.t 1), some (12, false)⟩,
 ⟨some 14, .pcall (.c (.fn (.f 48) [] [])) [(.t 13)], some (12, false)⟩,
 ⟨some 15, .un .not (.t 14), some (12, false)⟩,
 ⟨some 16, .pick (.t 12) (.c (.bool true)) (.t 15), none⟩])
 (.cond (.t 16)
 (.seq
 (.reg false [
 ⟨some 4, .mv (.c (.bool false)), none⟩])
 .ret)
 .skip))
 (.seq
 (.seq
 (.seq
 (.reg false [
 ⟨some 17, .mv (.t 0), none⟩,
 ⟨some 18, .pcall (.c (.fn (.f 130) [] [])) [(.t 17), (.c (.str [47]))], none⟩,
 ⟨some 5, .alloc [.zsl true], none⟩,
 ⟨none, .store 1 (.t 5) (.t 18), none⟩])
 (.gh (.frz 5)))
 (.gh .pop))
 (.seq
 (.seq
 (.seq
 (.reg false [
 ⟨some 19, .mv (.t 1), none⟩,
 ⟨some 20, .pcall (.c (.fn (.f 130) [] [])) [(.t 19), (.c (.str [47]))], none⟩,
 ⟨some 6, .alloc [.zsl true], none⟩,
 ⟨none, .store 1 (.t 6) (.t 20), none⟩])
 (.gh (.frz 6)))
 (.gh .pop))
 (.seq
 (.seq
 (.reg false [
 ⟨some 21, .mkmap, none⟩,
 ⟨some 7, .alloc [.nilm], none⟩,
 ⟨none, .store 1 (.t 7) (.t 21), none⟩])
 (.gh (.frz 7)))
 (.seq
 (.reg false [
 ⟨some 8, .alloc [.nilf], none⟩])
 (.seq
 (.reg false [
 ⟨some 22, .mkfn 154 [] [(.t 5), (.t 6), (.t 7), (.t 8)], none⟩,
 ⟨none, .store 1 (.t 8) (.t 22), none⟩])
 (.seq
 (.reg false [
 ⟨some 23, .load false 1 (.t 8), none⟩,
 ⟨some 24, .call (.t 23) [(.c (.int .i64 0)), (.c (.int .i64 0))], none⟩,
 ⟨some 4, .mv (.t 24), none⟩])
 .ret)))))))),
 [.tmp 4]⟩

/-- bloomery/globs.Match$1 -/
def i154 : IFun := ⟨6, 89,
 (.seq
 (.reg false [
 ⟨some 8, .mv (.c (.bool false)), none⟩])
 (.seq
 (.blk 0
 (.seq
 (.reg false [
 ⟨some 11, .mv (.t 0), none⟩,
 ⟨some 12, .loadv false 1 (.t 2), none⟩,
 ⟨some 13, .len false (.t 12), none⟩,
 ⟨some 14, .bin .eql (.t 11) (.t 13), none⟩,
 ⟨some 10, .mv (.t 14), none⟩])
 (.cond (.t 10)
 (.seq
 (.reg false [
 ⟨some 15, .mv (.t 1), none⟩,
 ⟨some 16, .loadv false 1 (.t 3), none⟩,
 ⟨some 17, .len false (.t 16), none⟩,
 ⟨some 18, .bin .eql (.t 15) (.t 17), none⟩,
 ⟨some 8, .mv (.t 18), none⟩])
 .ret)
 (.seq
 (.reg false [
 ⟨some 20, .loadv false 1 (.t 4), none⟩,
 ⟨some 21, .mv (.t 0), none⟩,
 ⟨some 22, .mv (.t 1), none⟩,
 ⟨some 23, .build [.int .i64 0, .int .i64 0] [(0, 1, (.t 21)), (1, 1, (.t 22))], none⟩,
 ⟨some 24, .look true [1, 1] (.t 20) (.t 23) (.bool false) false, none⟩,
 ⟨some 19, .mv (.t 24), none⟩])
 (.cond (.t 19)
 (.seq
 (.reg false [
 ⟨some 8, .mv (.c (.bool false)), none⟩])
 .ret)
 (.seq
 (.reg false [
 ⟨some 26, .loadv false 1 (.t 2), none⟩,
 ⟨some 27, .mv (.t 0), none⟩,
 ⟨some 28, .ia 1 (.t 26) (.t 27), none⟩,
 ⟨some 29, .load false 1 (.t 28), none⟩,
 ⟨some 30, .bin .neq (.t 29) (.c (.str [42, 42])), none⟩,
 ⟨some 25, .mv (.t 30), none⟩])
 (.cond (.t 25)
 (.seq
 (.reg true [
 ⟨some 31, .mv (.t 1), none⟩,
 ⟨some 32, .loadv false 1 (.t 3), none⟩,
 ⟨some 33, .len false (.t 32), none⟩,
 ⟨some 34, .bin .lss (.t 31) (.t 33), none⟩,
 ⟨some 35, .mv (.t 34), none⟩,
 ⟨some 36, .loadv false 1 (.t 2), some (35, true)⟩,
 ⟨some 37, .mv (.t 0), some (35, true)⟩,
 ⟨some 38, .ia 1 (.t 36) (.t 37), some (35, true)⟩,
 ⟨some 39, .load false 1 (.t 38), some (35, true)⟩,
 ⟨some 40, .loadv false 1 (.t 3), some (35, true)⟩,
 ⟨some 41, .mv (.t 1), some (35, true)⟩,
 ⟨some 42, .ia 1 (.t 40) (.t 41), some (35, true)⟩,
 ⟨some 43, .load false 1 (.t 42), some (35, true)⟩,
 ⟨some 44, .pcall (.c (.fn (.f 180) [] [])) [(.t 39), (.t 43)], some (35, true)⟩,
 ⟨some 45, .pick (.t 35) (.t 44) (.c (.bool false)), none⟩,
 ⟨some 46, .mv (.t 45), none⟩,
 ⟨some 47, .load false 1 (.t 5), some (46, true)⟩,
 ⟨some 48, .mv (.t 0), some (46, true)⟩,
 ⟨some 49, .bin .add (.t 48) (.c (.int .i64 1)), some (46, true)⟩,
 ⟨some 50, .mv (.t 1), some (46, true)⟩,
 ⟨some 51, .bin .add (.t 50) (.c (.int .i64 1)), some (46, true)⟩,
 ⟨some 52, .call (.t 47) [(.t 49), (.t 51)], some (46, true)⟩,
 ⟨some 53, .pick (.t 46) (.t 52) (.c (.bool false)), none⟩,
 ⟨some 8, .mv (.t 53), none⟩])
 .ret)
 (.seq
 (.reg false [
 ⟨some 55, .mv (.t 0), none⟩,
 ⟨some 56, .loadv false 1 (.t 2), none⟩,
 ⟨some 57, .len false (.t 56), none⟩,
 ⟨some 58, .bin .sub (.t 57) (.c (.int .i64 1)), none⟩,
 ⟨some 59, .bin .eql (.t 55) (.t 58), none⟩,
 ⟨some 54, .mv (.t 59), none⟩])
 (.cond (.t 54)
 (.seq
 (.reg false [
 ⟨some 60, .mv (.t 1), none⟩,
 ⟨some 61, .loadv false 1 (.t 3), none⟩,
 ⟨some 62, .len false (.t 61), none⟩,
 ⟨some 63, .bin .lss (.t 60) (.t 62), none⟩,
 ⟨some 8, .mv (.t 63), none⟩])
 .ret)
 .skip)))))))))
 (.seq
 (.reg false [
 ⟨some 64, .load false 1 (.t 5), none⟩,
 ⟨some 65, .mv (.t 0), none⟩,
 ⟨some 66, .bin .add (.t 65) (.c (.int .i64 1)), none⟩,
 ⟨some 67, .mv (.t 1), none⟩,
 ⟨some 68, .call (.t 64) [(.t 66), (.t 67)], none⟩,
 ⟨some 69, .mv (.t 68), none⟩,
 ⟨some 70, .mv (.t 1), some (69, false)⟩,
 ⟨some 71, .loadv false 1 (.t 3), some (69, false)⟩,
 ⟨some 72, .len false (.t 71), some (69, false)⟩,
 ⟨some 73, .bin .lss (.t 70) (.t 72), some (69, false)⟩,
 ⟨some 74, .mv (.t 73), some (69, false)⟩,
 ⟨some 75, .load false 1 (.t 5), some (74, true)⟩,
 ⟨some 76, .mv (.t 0), some (74, true)⟩,
 ⟨some 77, .mv (.t 1), some (74, true)⟩,
 ⟨some 78, .bin .add (.t 77) (.c (.int .i64 1)), some (74, true)⟩,
 ⟨some 79, .call (.t 75) [(.t 76), (.t 78)], some (74, true)⟩,
 ⟨some 80, .pick (.t 74) (.t 79) (.c (.bool false)), some (69, false)⟩,
 ⟨some 81, .pick (.t 69) (.c (.bool true)) (.t 80), none⟩,
 ⟨some 9, .mv (.t 81), none⟩])
 (.seq
 (.reg false [
 ⟨some 82, .loadv false 1 (.t 4), none⟩,
 ⟨some 83, .mv (.t 0), none⟩,
 ⟨some 84, .mv (.t 1), none⟩,
 ⟨some 85, .build [.int .i64 0, .int .i64 0] [(0, 1, (.t 83)), (1, 1, (.t 84))], none⟩,
 ⟨some 86, .mv (.t 9), none⟩,
 ⟨some 87, .un .not (.t 86), none⟩,
 ⟨none, .mset true [1, 1] (.t 82) (.t 85) (.t 87), none⟩])
 (.seq
 (.reg false [
 ⟨some 88, .mv (.t 9), none⟩,
 ⟨some 8, .mv (.t 88), none⟩])
 .ret))))),
 [.tmp 8]⟩

/-- slices.AppendSeq[[]string,string] -/
def i155 : IFun := ⟨2, 13,
 (.seq
 (.reg false [
 ⟨some 2, .boxr (.t 0), none⟩,
 ⟨some 4, .mv (.c (.zsl true)), none⟩])
 (.seq
 (.seq
 (.reg false [
 ⟨some 6, .mv (.t 1), none⟩])
 (.blk 0
 (.rf (.t 6) [7]
 (.reg false [
 ⟨some 5, .mv (.t 7), none⟩])
 (.blk 1
 (.reg false [
 ⟨some 8, .load false 1 (.t 2), none⟩,
 ⟨some 9, .mv (.t 5), none⟩,
 ⟨some 10, .bsl 1 [(.t 9)], none⟩,
 ⟨some 11, .app 1 16 (.t 8) (.t 10), none⟩,
 ⟨none, .store 1 (.t 2) (.t 11), none⟩])))))
 (.seq
 (.reg false [
 ⟨some 12, .load false 1 (.t 2), none⟩,
 ⟨some 4, .mv (.t 12), none⟩])
 .ret))),
 [.tmp 4]⟩

/-- bloomery/sha.begin -/
def i156 : IFun := ⟨0, 2,
 (.seq
 (.reg false [
 ⟨some 0, .alloc [.int .u32 0, .int .u32 0, .int .u32 0, .int .u32 0, .int .u32 0, .int .u32 0, .int .u32 0, .int .u32 0], none⟩])
 (.seq
 (.reg false [
 ⟨some 1, .build [.int .u32 0, .int .u32 0, .int .u32 0, .int .u32 0, .int .u32 0, .int .u32 0, .int .u32 0, .int .u32 0] [(0, 1, (.c (.int .u32 1779033703))), (1, 1, (.c (.int .u32 3144134277))), (2, 1, (.c (.int .u32 1013904242))), (3, 1, (.c (.int .u32 2773480762))), (4, 1, (.c (.int .u32 1359893119))), (5, 1, (.c (.int .u32 2600822924))), (6, 1, (.c (.int .u32 528734635))), (7, 1, (.c (.int .u32 1541459225)))], none⟩,
 ⟨none, .store 8 (.t 0) (.t 1), none⟩])
 .ret)),
 [.cell 0 true 8]⟩

/-- (*bloomery/sha.state).take -/
def i157 : IFun := ⟨2, 114,
 (.seq
 (.seq
 (.reg true [
 ⟨some 14, .mv (.t 0), none⟩,
 ⟨some 15, .nchk (.t 14), none⟩,
 ⟨some 16, .load true 8 (.t 15), none⟩,
 ⟨some 17, .pcall (.c (.fn (.f 182) [] [])) [], none⟩,
 ⟨some 4, .alloc [.int .u32 0, .int .u32 0, .int .u32 0, .int .u32 0, .int .u32 0, .int .u32 0, .int .u32 0, .int .u32 0], none⟩,
 ⟨some 5, .alloc [.int .u32 0, .int .u32 0, .int .u32 0, .int .u32 0, .int .u32 0, .int .u32 0, .int .u32 0, .int .u32 0, .int .u32 0, .int .u32 0, .int .u32 0, .int .u32 0, .int .u32 0, .int .u32 0, .int .u32 0, .int .u32 0, .int .u32 0, .int .u32 0, .int .u32 0, .int .u32 0, .int .u32 0, .int .u32 0, .int .u32 0, .int .u32 0, .int .u32 0, .int .u32 0, .int .u32 0, .int .u32 0, .int .u32 0, .int .u32 0, .int .u32 0, .int .u32 0, .int .u32 0, .int .u32 0, .int .u32 0, .int .u32 0, .int .u32 0, .int .u32 0, .int .u32 0, .int .u32 0, .int .u32 0, .int .u32 0, .int .u32 0, .int .u32 0, .int .u32 0, .int .u32 0, .int .u32 0, .int .u32 0, .int .u32 0, .int .u32 0, .int .u32 0, .int .u32 0, .int .u32 0, .int .u32 0, .int .u32 0, .int .u32 0, .int .u32 0, .int .u32 0, .int .u32 0, .int .u32 0, .int .u32 0, .int .u32 0, .int .u32 0, .int .u32 0], none⟩,
 ⟨none, .store 8 (.t 4) (.t 16), none⟩,
 ⟨none, .store 64 (.t 5) (.t 17), none⟩])
 (.gh (.frz 5)))
 (.seq
 (.seq
 (.reg false [
 ⟨some 18, .mv (.t 1), none⟩,
 ⟨some 19, .pcall (.c (.fn (.f 183) [] [])) [(.t 18)], none⟩,
 ⟨some 20, .mv (.c (.int .i64 0)), none⟩])
 (.blk 0
 (.seq (.gh (.clr 1572913)) (.loop (.seq
 (.seq
 (.reg false [
 ⟨some 21, .bin .lss (.t 20) (.c (.int .i64 64)), none⟩])
 (.seq
 (.cond (.t 21)
 .skip
 (.exit 0))
 (.seq
 (.blk 1
 (.seq
 (.reg false [
 ⟨some 22, .mv (.t 20), none⟩,
 ⟨some 23, .ixa (.t 19) (.t 20) 64 1 false, none⟩,
 ⟨some 6, .mv (.t 22), none⟩,
 ⟨some 7, .mv (.t 23), none⟩])
 (.seq
 (.reg true [
 ⟨some 24, .iaa (.t 4) (.c (.int .i64 0)) 8 1, none⟩,
 ⟨some 25, .load false 1 (.t 24), none⟩,
 ⟨some 26, .iaa (.t 4) (.c (.int .i64 4)) 8 1, none⟩,
 ⟨some 27, .load false 1 (.t 26), none⟩,
 ⟨some 8, .mv (.t 25), none⟩,
 ⟨some 9, .mv (.t 27), none⟩])
 (.seq
 (.reg true [
 ⟨some 28, .iaa (.t 4) (.c (.int .i64 7)) 8 1, none⟩,
 ⟨some 29, .load false 1 (.t 28), none⟩,
 ⟨some 30, .mv (.t 9), none⟩,
 ⟨some 31, .pcall (.c (.fn (.f 184) [] [])) [(.t 30), (.c (.int .i64 6))], none⟩,
 ⟨some 32, .mv (.t 9), none⟩,
 ⟨some 33, .pcall (.c (.fn (.f 184) [] [])) [(.t 32), (.c (.int .i64 11))], none⟩,
 ⟨some 34, .bin .xor (.t 31) (.t 33), none⟩,
 ⟨some 35, .mv (.t 9), none⟩,
 ⟨some 36, .pcall (.c (.fn (.f 184) [] [])) [(.t 35), (.c (.int .i64 25))], none⟩,
 ⟨some 37, .bin .xor (.t 34) (.t 36), none⟩,
 ⟨some 38, .bin .add (.t 29) (.t 37), none⟩,
 ⟨some 39, .mv (.t 9), none⟩,
 ⟨some 40, .iaa (.t 4) (.c (.int .i64 5)) 8 1, none⟩,
 ⟨some 41, .load false 1 (.t 40), none⟩,
 ⟨some 42, .bin .and (.t 39) (.t 41), none⟩,
 ⟨some 43, .mv (.t 9), none⟩,
 ⟨some 44, .un .xor (.t 43), none⟩,
 ⟨some 45, .iaa (.t 4) (.c (.int .i64 6)) 8 1, none⟩,
 ⟨some 46, .load false 1 (.t 45), none⟩,
 ⟨some 47, .bin .and (.t 44) (.t 46), none⟩,
 ⟨some 48, .bin .xor (.t 42) (.t 47), none⟩,
 ⟨some 49, .bin .add (.t 38) (.t 48), none⟩,
 ⟨some 50, .mv (.t 6), none⟩,
 ⟨some 51, .iaa (.t 5) (.t 50) 64 1, none⟩,
 ⟨some 52, .loadv false 1 (.t 51), none⟩,
 ⟨some 53, .bin .add (.t 49) (.t 52), none⟩,
 ⟨some 54, .mv (.t 7), none⟩,
 ⟨some 55, .bin .add (.t 53) (.t 54), none⟩,
 ⟨some 10, .mv (.t 55), none⟩])
 (.seq
 (.reg true [
 ⟨some 56, .mv (.t 8), none⟩,
 ⟨some 57, .pcall (.c (.fn (.f 184) [] [])) [(.t 56), (.c (.int .i64 2))], none⟩,
 ⟨some 58, .mv (.t 8), none⟩,
 ⟨some 59, .pcall (.c (.fn (.f 184) [] [])) [(.t 58), (.c (.int .i64 13))], none⟩,
 ⟨some 60, .bin .xor (.t 57) (.t 59), none⟩,
 ⟨some 61, .mv (.t 8), none⟩,
 ⟨some 62, .pcall (.c (.fn (.f 184) [] [])) [(.t 61), (.c (.int .i64 22))], none⟩,
 ⟨some 63, .bin .xor (.t 60) (.t 62), none⟩,
 ⟨some 64, .mv (.t 8), none⟩,
 ⟨some 65, .iaa (.t 4) (.c (.int .i64 1)) 8 1, none⟩,
 ⟨some 66, .load false 1 (.t 65), none⟩,
 ⟨some 67, .bin .and (.t 64) (.t 66), none⟩,
 ⟨some 68, .mv (.t 8), none⟩,
 ⟨some 69, .iaa (.t 4) (.c (.int .i64 2)) 8 1, none⟩,
 ⟨some 70, .load false 1 (.t 69), none⟩,
 ⟨some 71, .bin .and (.t 68) (.t 70), none⟩,
 ⟨some 72, .bin .xor (.t 67) (.t 71), none⟩,
 ⟨some 73, .iaa (.t 4) (.c (.int .i64 1)) 8 1, none⟩,
 ⟨some 74, .load false 1 (.t 73), none⟩,
 ⟨some 75, .iaa (.t 4) (.c (.int .i64 2)) 8 1, none⟩,
 ⟨some 76, .load false 1 (.t 75), none⟩,
 ⟨some 77, .bin .and (.t 74) (.t 76), none⟩,
 ⟨some 78, .bin .xor (.t 72) (.t 77), none⟩,
 ⟨some 79, .bin .add (.t 63) (.t 78), none⟩,
 ⟨some 11, .mv (.t 79), none⟩])
 (.reg false [
 ⟨some 80, .mv (.t 10), none⟩,
 ⟨some 81, .mv (.t 11), none⟩,
 ⟨some 82, .bin .add (.t 80) (.t 81), none⟩,
 ⟨some 83, .mv (.t 8), none⟩,
 ⟨some 84, .iaa (.t 4) (.c (.int .i64 1)) 8 1, none⟩,
 ⟨some 85, .load false 1 (.t 84), none⟩,
 ⟨some 86, .iaa (.t 4) (.c (.int .i64 2)) 8 1, none⟩,
 ⟨some 87, .load false 1 (.t 86), none⟩,
 ⟨some 88, .iaa (.t 4) (.c (.int .i64 3)) 8 1, none⟩,
 ⟨some 89, .load false 1 (.t 88), none⟩,
 ⟨some 90, .mv (.t 10), none⟩,
 ⟨some 91, .bin .add (.t 89) (.t 90), none⟩,
 ⟨some 92, .mv (.t 9), none⟩,
 ⟨some 93, .iaa (.t 4) (.c (.int .i64 5)) 8 1, none⟩,
 ⟨some 94, .load false 1 (.t 93), none⟩,
 ⟨some 95, .iaa (.t 4) (.c (.int .i64 6)) 8 1, none⟩,
 ⟨some 96, .load false 1 (.t 95), none⟩,
 ⟨some 97, .build [.int .u32 0, .int .u32 0, .int .u32 0, .int .u32 0, .int .u32 0, .int .u32 0, .int .u32 0, .int .u32 0] [(0, 1, (.t 82)), (1, 1, (.t 83)), (2, 1, (.t 85)), (3, 1, (.t 87)), (4, 1, (.t 91)), (5, 1, (.t 92)), (6, 1, (.t 94)), (7, 1, (.t 96))], none⟩,
 ⟨none, .store 8 (.t 4) (.t 97), none⟩]))))))
 (.reg false [
 ⟨some 98, .bin .add (.t 20) (.c (.int .i64 1)), none⟩,
 ⟨some 20, .mv (.t 98), none⟩]))))
 (.gh (.clr 1572913)))))))
 (.seq
 (.reg false [
 ⟨some 99, .load true 8 (.t 4), none⟩,
 ⟨some 100, .mv (.c (.int .i64 0)), none⟩])
 (.blk 2
 (.seq (.gh (.clr 1901475900342344102245054808065)) (.loop (.seq
 (.seq
 (.reg false [
 ⟨some 101, .bin .lss (.t 100) (.c (.int .i64 8)), none⟩])
 (.seq
 (.cond (.t 101)
 .skip
 (.exit 2))
 (.seq
 (.blk 3
 (.seq
 (.reg false [
 ⟨some 102, .mv (.t 100), none⟩,
 ⟨some 103, .ixa (.t 99) (.t 100) 8 1 false, none⟩,
 ⟨some 12, .mv (.t 102), none⟩,
 ⟨some 13, .mv (.t 103), none⟩])
 (.reg true [
 ⟨some 104, .mv (.t 0), none⟩,
 ⟨some 105, .mv (.t 12), none⟩,
 ⟨some 106, .nchk (.t 104), none⟩,
 ⟨some 107, .iaa (.t 106) (.t 105) 8 1, none⟩,
 ⟨some 108, .load false 1 (.t 107), none⟩,
 ⟨some 109, .mv (.t 13), none⟩,
 ⟨some 110, .bin .add (.t 108) (.t 109), none⟩,
 ⟨some 111, .nchk (.t 104), none⟩,
 ⟨some 112, .iaa (.t 111) (.t 105) 8 1, none⟩,
 ⟨none, .store 1 (.t 112) (.t 110), none⟩])))
 (.reg false [
 ⟨some 113, .bin .add (.t 100) (.c (.int .i64 1)), none⟩,
 ⟨some 100, .mv (.t 113), none⟩]))))
 (.gh (.clr 1901475900342344102245054808065))))))))),
 []⟩

/-- internal/stringslite.HasPrefix -/
def i158 : IFun := ⟨2, 18,
 (.seq
 (.reg false [
 ⟨some 4, .mv (.c (.bool false)), none⟩])
 (.seq
 (.reg false [
 ⟨some 5, .mv (.t 0), none⟩,
 ⟨some 6, .len true (.t 5), none⟩,
 ⟨some 7, .mv (.t 1), none⟩,
 ⟨some 8, .len true (.t 7), none⟩,
 ⟨some 9, .bin .geq (.t 6) (.t 8), none⟩,
 ⟨some 10, .mv (.t 9), none⟩,
 ⟨some 11, .mv (.t 0), some (10, true)⟩,
 ⟨some 12, .mv (.t 1), some (10, true)⟩,
 ⟨some 13, .len true (.t 12), some (10, true)⟩,
 ⟨some 14, .sls (.t 11) none (some (.t 13)), some (10, true)⟩,
 ⟨some 15, .mv (.t 1), some (10, true)⟩,
 ⟨some 16, .bin .eql (.t 14) (.t 15), some (10, true)⟩,
 ⟨some 17, .pick (.t 10) (.t 16) (.c (.bool false)), none⟩,
 ⟨some 4, .mv (.t 17), none⟩])
 .ret)),
 [.tmp 4]⟩

/-- strings.genSplit -/
def i159 : IFun := ⟨4, 66,
 (.seq
 (.reg false [
 ⟨some 8, .mv (.c (.zsl true)), none⟩])
 (.seq
 (.seq
 (.reg false [
 ⟨some 12, .mv (.t 3), none⟩,
 ⟨some 13, .bin .eql (.t 12) (.c (.int .i64 0)), none⟩])
 (.cond (.t 13)
 (.seq
 (.reg false [
 ⟨some 8, .mv (.c (.zsl true)), none⟩])
 .ret)
 .skip))
 (.seq
 (.seq
 (.reg false [
 ⟨some 14, .mv (.t 1), none⟩,
 ⟨some 15, .bin .eql (.t 14) (.c (.str [])), none⟩])
 (.cond (.t 15)
 (.seq
 (.reg false [
 ⟨some 16, .mv (.t 0), none⟩,
 ⟨some 17, .mv (.t 3), none⟩,
 ⟨some 18, .pcall (.c (.fn (.f 185) [] [])) [(.t 16), (.t 17)], none⟩,
 ⟨some 8, .mv (.t 18), none⟩])
 .ret)
 .skip))
 (.seq
 (.seq
 (.reg false [
 ⟨some 19, .mv (.t 3), none⟩,
 ⟨some 20, .bin .lss (.t 19) (.c (.int .i64 0)), none⟩])
 (.cond (.t 20)
 (.reg false [
 ⟨some 21, .mv (.t 0), none⟩,
 ⟨some 22, .mv (.t 1), none⟩,
 ⟨some 23, .pcall (.c (.fn (.f 186) [] [])) [(.t 21), (.t 22)], none⟩,
 ⟨some 24, .bin .add (.t 23) (.c (.int .i64 1)), none⟩,
 ⟨some 3, .mv (.t 24), none⟩])
 .skip))
 (.seq
 (.reg false [
 ⟨some 25, .mv (.t 3), none⟩,
 ⟨some 26, .mv (.t 0), none⟩,
 ⟨some 27, .len true (.t 26), none⟩,
 ⟨some 28, .bin .add (.t 27) (.c (.int .i64 1)), none⟩,
 ⟨some 29, .min2 (.t 25) (.t 28), none⟩,
 ⟨some 3, .mv (.t 29), none⟩])
 (.seq
 (.reg false [
 ⟨some 30, .mv (.t 3), none⟩,
 ⟨some 31, .mksl [.str []] 16 (.t 30) (.t 30), none⟩,
 ⟨some 9, .mv (.t 31), none⟩])
 (.seq
 (.reg false [
 ⟨some 32, .mv (.t 3), none⟩,
 ⟨some 33, .bin .sub (.t 32) (.c (.int .i64 1)), none⟩,
 ⟨some 3, .mv (.t 33), none⟩])
 (.seq
 (.reg false [
 ⟨some 10, .mv (.c (.int .i64 0)), none⟩])
 (.seq
 (.blk 0
 (.seq (.gh (.clr 1551)) (.loop (.seq
 (.seq
 (.seq
 (.reg false [
 ⟨some 34, .mv (.t 10), none⟩,
 ⟨some 35, .mv (.t 3), none⟩,
 ⟨some 36, .bin .lss (.t 34) (.t 35), none⟩])
 (.cond (.t 36)
 .skip
 (.exit 0)))
 (.blk 1
 (.seq
 (.reg false [
 ⟨some 37, .mv (.t 0), none⟩,
 ⟨some 38, .mv (.t 1), none⟩,
 ⟨some 39, .pcall (.c (.fn (.f 163) [] [])) [(.t 37), (.t 38)], none⟩,
 ⟨some 11, .mv (.t 39), none⟩])
 (.seq
 (.seq
 (.reg false [
 ⟨some 40, .mv (.t 11), none⟩,
 ⟨some 41, .bin .lss (.t 40) (.c (.int .i64 0)), none⟩])
 (.cond (.t 41)
 (.exit 0)
 .skip))
 (.seq
 (.reg false [
 ⟨some 42, .mv (.t 9), none⟩,
 ⟨some 43, .mv (.t 10), none⟩,
 ⟨some 44, .mv (.t 0), none⟩,
 ⟨some 45, .mv (.t 11), none⟩,
 ⟨some 46, .mv (.t 2), none⟩,
 ⟨some 47, .bin .add (.t 45) (.t 46), none⟩,
 ⟨some 48, .sls (.t 44) none (some (.t 47)), none⟩,
 ⟨some 49, .ia 1 (.t 42) (.t 43), none⟩,
 ⟨none, .store 1 (.t 49) (.t 48), none⟩])
 (.seq
 (.reg false [
 ⟨some 50, .mv (.t 0), none⟩,
 ⟨some 51, .mv (.t 11), none⟩,
 ⟨some 52, .mv (.t 1), none⟩,
 ⟨some 53, .len true (.t 52), none⟩,
 ⟨some 54, .bin .add (.t 51) (.t 53), none⟩,
 ⟨some 55, .sls (.t 50) (some (.t 54)) none, none⟩,
 ⟨some 0, .mv (.t 55), none⟩])
 (.reg false [
 ⟨some 56, .mv (.t 10), none⟩,
 ⟨some 57, .bin .add (.t 56) (.c (.int .i64 1)), none⟩,
 ⟨some 10, .mv (.t 57), none⟩])))))))
 (.gh (.clr 1551))))))
 (.seq
 (.reg false [
 ⟨some 58, .mv (.t 9), none⟩,
 ⟨some 59, .mv (.t 10), none⟩,
 ⟨some 60, .mv (.t 0), none⟩,
 ⟨some 61, .ia 1 (.t 58) (.t 59), none⟩,
 ⟨none, .store 1 (.t 61) (.t 60), none⟩])
 (.seq
 (.reg false [
 ⟨some 62, .mv (.t 9), none⟩,
 ⟨some 63, .mv (.t 10), none⟩,
 ⟨some 64, .bin .add (.t 63) (.c (.int .i64 1)), none⟩,
 ⟨some 65, .slv 1 (.t 62) none (some (.t 64)) none, none⟩,
 ⟨some 8, .mv (.t 65), none⟩])
 .ret))))))))))),
 [.tmp 8]⟩

/-- bloomery/globs.part -/
def i160 : IFun := ⟨1, 51,
 (.seq
 (.reg false [
 ⟨some 2, .mv (.c (.bool false)), none⟩])
 (.seq
 (.seq
 (.reg false [
 ⟨some 4, .mv (.t 0), none⟩,
 ⟨some 5, .bin .eql (.t 4) (.c (.str [42, 42])), none⟩])
 (.cond (.t 5)
 (.seq
 (.reg false [
 ⟨some 2, .mv (.c (.bool true)), none⟩])
 .ret)
 .skip))
 (.seq
 (.seq
 (.reg false [
 ⟨some 6, .mv (.t 0), none⟩,
 ⟨some 7, .len true (.t 6), none⟩,
 ⟨some 8, .mv (.c (.int .i64 0)), none⟩])
 (.blk 0
 (.seq (.gh (.clr 385)) (.loop (.seq
 (.seq
 (.reg false [
 ⟨some 9, .bin .lss (.t 8) (.t 7), none⟩])
 (.seq
 (.cond (.t 9)
 .skip
 (.exit 0))
 (.seq
 (.blk 1
 (.seq
 (.reg false [
 ⟨some 10, .mv (.t 8), none⟩,
 ⟨some 3, .mv (.t 10), none⟩])
 (.seq
 (.reg false [
 ⟨some 11, .mv (.t 0), none⟩,
 ⟨some 12, .mv (.t 3), none⟩,
 ⟨some 13, .ixs (.t 11) (.t 12), none⟩,
 ⟨some 14, .pcall (.c (.fn (.f 161) [] [])) [(.t 13)], none⟩,
 ⟨some 15, .un .not (.t 14), none⟩,
 ⟨some 16, .mv (.t 15), none⟩,
 ⟨some 17, .mv (.t 0), some (16, true)⟩,
 ⟨some 18, .mv (.t 3), some (16, true)⟩,
 ⟨some 19, .ixs (.t 17) (.t 18), some (16, true)⟩,
 ⟨some 20, .bin .neq (.t 19) (.c (.int .u8 63)), some (16, true)⟩,
 ⟨some 21, .pick (.t 16) (.t 20) (.c (.bool false)), none⟩,
 ⟨some 22, .mv (.t 21), none⟩,
 ⟨some 23, .mv (.t 0), some (22, true)⟩,
 ⟨some 24, .mv (.t 3), some (22, true)⟩,
 ⟨some 25, .ixs (.t 23) (.t 24), some (22, true)⟩,
 ⟨some 26, .bin .neq (.t 25) (.c (.int .u8 42)), some (22, true)⟩,
 ⟨some 27, .pick (.t 22) (.t 26) (.c (.bool false)), none⟩,
 ⟨some 28, .mv (.t 27), none⟩,
 ⟨some 29, .mv (.t 0), some (28, false)⟩,
 ⟨some 30, .mv (.t 3), some (28, false)⟩,
 ⟨some 31, .sls (.t 29) (some (.t 30)) none, some (28, false)⟩,
 ⟨some 32, .pcall (.c (.fn (.f 128) [] [])) [(.t 31), (.c (.str [42, 42]))], some (28, false)⟩,
 ⟨some 33, .pick (.t 28) (.c (.bool true)) (.t 32), none⟩])
 (.cond (.t 33)
 (.seq
 (.reg false [
 ⟨some 2, .mv (.c (.bool false)), none⟩])
 .ret)
 .skip))))
 (.reg false [
 ⟨some 34, .bin .add (.t 8) (.c (.int .i64 1)), none⟩,
 ⟨some 8, .mv (.t 34), none⟩]))))
 (.gh (.clr 385)))))))
 (.seq
 (.reg false [
 ⟨some 35, .mv (.t 0), none⟩,
 ⟨some 36, .len true (.t 35), none⟩,
 ⟨some 37, .bin .geq (.t 36) (.c (.int .i64 1)), none⟩,
 ⟨some 38, .mv (.t 37), none⟩,
 ⟨some 39, .mv (.t 0), some (38, true)⟩,
 ⟨some 40, .len true (.t 39), some (38, true)⟩,
 ⟨some 41, .bin .leq (.t 40) (.c (.int .i64 64)), some (38, true)⟩,
 ⟨some 42, .pick (.t 38) (.t 41) (.c (.bool false)), none⟩,
 ⟨some 43, .mv (.t 42), none⟩,
 ⟨some 44, .mv (.t 0), some (43, true)⟩,
 ⟨some 45, .bin .neq (.t 44) (.c (.str [46])), some (43, true)⟩,
 ⟨some 46, .pick (.t 43) (.t 45) (.c (.bool false)), none⟩,
 ⟨some 47, .mv (.t 46), none⟩,
 ⟨some 48, .mv (.t 0), some (47, true)⟩,
 ⟨some 49, .bin .neq (.t 48) (.c (.str [46, 46])), some (47, true)⟩,
 ⟨some 50, .pick (.t 47) (.t 49) (.c (.bool false)), none⟩,
 ⟨some 2, .mv (.t 50), none⟩])
 .ret)))),
 [.tmp 2]⟩

/-- bloomery/globs.plain -/
def i161 : IFun := ⟨1, 13,
 (.seq
 (.reg false [
 ⟨some 2, .mv (.c (.bool false)), none⟩])
 (.seq
 (.reg false [
 ⟨some 3, .mv (.t 0), none⟩,
 ⟨some 4, .bsl 1 [(.t 3)], none⟩,
 ⟨some 5, .b2s (.t 4), none⟩,
 ⟨some 6, .bin .add (.c (.str [97])) (.t 5), none⟩,
 ⟨some 7, .bin .add (.t 6) (.c (.str [97])), none⟩,
 ⟨some 8, .pcall (.c (.fn (.f 48) [] [])) [(.t 7)], none⟩,
 ⟨some 9, .mv (.t 8), none⟩,
 ⟨some 10, .mv (.t 0), some (9, true)⟩,
 ⟨some 11, .bin .neq (.t 10) (.c (.int .u8 47)), some (9, true)⟩,
 ⟨some 12, .pick (.t 9) (.t 11) (.c (.bool false)), none⟩,
 ⟨some 2, .mv (.t 12), none⟩])
 .ret)),
 [.tmp 2]⟩

/-- unicode/utf8.DecodeRuneInString -/
def i162 : IFun := ⟨1, 19,
 (.seq
 (.reg false [
 ⟨some 2, .mv (.c (.int .i32 0)), none⟩,
 ⟨some 3, .mv (.c (.int .i64 0)), none⟩])
 (.seq
 (.seq
 (.reg false [
 ⟨some 4, .mv (.t 0), none⟩,
 ⟨some 5, .bin .neq (.t 4) (.c (.str [])), none⟩,
 ⟨some 6, .mv (.t 5), none⟩,
 ⟨some 7, .mv (.t 0), some (6, true)⟩,
 ⟨some 8, .ixs (.t 7) (.c (.int .i64 0)), some (6, true)⟩,
 ⟨some 9, .bin .lss (.t 8) (.c (.int .u8 128)), some (6, true)⟩,
 ⟨some 10, .pick (.t 6) (.t 9) (.c (.bool false)), none⟩])
 (.cond (.t 10)
 (.seq
 (.reg false [
 ⟨some 11, .mv (.t 0), none⟩,
 ⟨some 12, .ixs (.t 11) (.c (.int .i64 0)), none⟩,
 ⟨some 13, .conv .i32 (.t 12), none⟩,
 ⟨some 2, .mv (.t 13), none⟩,
 ⟨some 3, .mv (.c (.int .i64 1)), none⟩])
 .ret)
 (.reg false [
 ⟨some 15, .mv (.t 0), none⟩,
 ⟨some 16, .pcall (.c (.fn (.f 164) [] [])) [(.t 15)], none⟩,
 ⟨some 14, .mv (.t 16), none⟩,
 ⟨some 17, .ext (.t 14) 0, none⟩,
 ⟨some 18, .ext (.t 14) 1, none⟩,
 ⟨some 2, .mv (.t 17), none⟩,
 ⟨some 3, .mv (.t 18), none⟩])))
 .ret)),
 [.tmp 2, .tmp 3]⟩

/-- strings.Index -/
def i163 : IFun := ⟨2, 8,
 (.seq
 (.reg false [
 ⟨some 4, .mv (.c (.int .i64 0)), none⟩])
 (.seq
 (.reg false [
 ⟨some 5, .mv (.t 0), none⟩,
 ⟨some 6, .mv (.t 1), none⟩,
 ⟨some 7, .pcall (.c (.fn (.f 165) [] [])) [(.t 5), (.t 6)], none⟩,
 ⟨some 4, .mv (.t 7), none⟩])
 .ret)),
 [.tmp 4]⟩

/-- unicode/utf8.decodeRuneInStringSlow -/
def i164 : IFun := ⟨1, 117,
 (.seq
 (.reg false [
 ⟨some 2, .mv (.c (.int .i32 0)), none⟩,
 ⟨some 3, .mv (.c (.int .i64 0)), none⟩])
 (.seq
 (.reg false [
 ⟨some 13, .mv (.t 0), none⟩,
 ⟨some 14, .len true (.t 13), none⟩,
 ⟨some 4, .mv (.t 14), none⟩])
 (.seq
 (.seq
 (.reg false [
 ⟨some 15, .mv (.t 4), none⟩,
 ⟨some 16, .bin .lss (.t 15) (.c (.int .i64 1)), none⟩])
 (.cond (.t 16)
 (.seq
 (.reg false [
 ⟨some 2, .mv (.c (.int .i32 65533)), none⟩,
 ⟨some 3, .mv (.c (.int .i64 0)), none⟩])
 .ret)
 .skip))
 (.seq
 (.reg false [
 ⟨some 17, .mv (.t 0), none⟩,
 ⟨some 18, .ixs (.t 17) (.c (.int .i64 0)), none⟩,
 ⟨some 5, .mv (.t 18), none⟩])
 (.seq
 .never
 (.seq
 (.seq
 (.reg false [
 ⟨some 22, .mv (.t 6), none⟩,
 ⟨some 23, .bin .geq (.t 22) (.c (.int .u8 240)), none⟩])
 (.cond (.t 23)
 (.seq
 (.reg false [
 ⟨some 24, .mv (.t 6), none⟩,
 ⟨some 25, .conv .i32 (.t 24), none⟩,
 ⟨some 26, .bin .shl (.t 25) (.c (.int .u64 31)), none⟩,
 ⟨some 27, .bin .shr (.t 26) (.c (.int .u64 31)), none⟩,
 ⟨some 7, .mv (.t 27), none⟩])
 (.seq
 (.reg false [
 ⟨some 28, .mv (.t 0), none⟩,
 ⟨some 29, .ixs (.t 28) (.c (.int .i64 0)), none⟩,
 ⟨some 30, .conv .i32 (.t 29), none⟩,
 ⟨some 31, .mv (.t 7), none⟩,
 ⟨some 32, .bin .andNot (.t 30) (.t 31), none⟩,
 ⟨some 33, .mv (.t 7), none⟩,
 ⟨some 34, .bin .and (.c (.int .i32 65533)) (.t 33), none⟩,
 ⟨some 35, .bin .or (.t 32) (.t 34), none⟩,
 ⟨some 2, .mv (.t 35), none⟩,
 ⟨some 3, .mv (.c (.int .i64 1)), none⟩])
 .ret))
 .skip))
 (.seq
 (.reg false [
 ⟨some 36, .mv (.t 6), none⟩,
 ⟨some 37, .bin .and (.t 36) (.c (.int .u8 7)), none⟩,
 ⟨some 38, .conv .i64 (.t 37), none⟩,
 ⟨some 8, .mv (.t 38), none⟩])
 (.seq
 .never
 (.seq
 (.seq
 (.reg false [
 ⟨some 43, .mv (.t 4), none⟩,
 ⟨some 44, .mv (.t 8), none⟩,
 ⟨some 45, .bin .lss (.t 43) (.t 44), none⟩])
 (.cond (.t 45)
 (.seq
 (.reg false [
 ⟨some 2, .mv (.c (.int .i32 65533)), none⟩,
 ⟨some 3, .mv (.c (.int .i64 1)), none⟩])
 .ret)
 .skip))
 (.seq
 (.reg false [
 ⟨some 46, .mv (.t 0), none⟩,
 ⟨some 47, .ixs (.t 46) (.c (.int .i64 1)), none⟩,
 ⟨some 10, .mv (.t 47), none⟩])
 (.seq
 (.seq
 (.reg false [
 ⟨some 48, .mv (.t 10), none⟩,
 ⟨some 49, .fa (.t 9) 0, none⟩,
 ⟨some 50, .loadv false 1 (.t 49), none⟩,
 ⟨some 51, .bin .lss (.t 48) (.t 50), none⟩,
 ⟨some 52, .mv (.t 51), none⟩,
 ⟨some 53, .fa (.t 9) 1, some (52, false)⟩,
 ⟨some 54, .loadv false 1 (.t 53), some (52, false)⟩,
 ⟨some 55, .mv (.t 10), some (52, false)⟩,
 ⟨some 56, .bin .lss (.t 54) (.t 55), some (52, false)⟩,
 ⟨some 57, .pick (.t 52) (.c (.bool true)) (.t 56), none⟩])
 (.cond (.t 57)
 (.seq
 (.reg false [
 ⟨some 2, .mv (.c (.int .i32 65533)), none⟩,
 ⟨some 3, .mv (.c (.int .i64 1)), none⟩])
 .ret)
 .skip))
 (.seq
 (.seq
 (.reg false [
 ⟨some 58, .mv (.t 8), none⟩,
 ⟨some 59, .bin .leq (.t 58) (.c (.int .i64 2)), none⟩])
 (.cond (.t 59)
 (.seq
 (.reg false [
 ⟨some 60, .mv (.t 5), none⟩,
 ⟨some 61, .bin .and (.t 60) (.c (.int .u8 31)), none⟩,
 ⟨some 62, .conv .i32 (.t 61), none⟩,
 ⟨some 63, .bin .shl (.t 62) (.c (.int .u64 6)), none⟩,
 ⟨some 64, .mv (.t 10), none⟩,
 ⟨some 65, .bin .and (.t 64) (.c (.int .u8 63)), none⟩,
 ⟨some 66, .conv .i32 (.t 65), none⟩,
 ⟨some 67, .bin .or (.t 63) (.t 66), none⟩,
 ⟨some 2, .mv (.t 67), none⟩,
 ⟨some 3, .mv (.c (.int .i64 2)), none⟩])
 .ret)
 .skip))
 (.seq
 (.reg false [
 ⟨some 68, .mv (.t 0), none⟩,
 ⟨some 69, .ixs (.t 68) (.c (.int .i64 2)), none⟩,
 ⟨some 11, .mv (.t 69), none⟩])
 (.seq
 (.seq
 (.reg false [
 ⟨some 70, .mv (.t 11), none⟩,
 ⟨some 71, .bin .lss (.t 70) (.c (.int .u8 128)), none⟩,
 ⟨some 72, .mv (.t 71), none⟩,
 ⟨some 73, .mv (.t 11), some (72, false)⟩,
 ⟨some 74, .bin .lss (.c (.int .u8 191)) (.t 73), some (72, false)⟩,
 ⟨some 75, .pick (.t 72) (.c (.bool true)) (.t 74), none⟩])
 (.cond (.t 75)
 (.seq
 (.reg false [
 ⟨some 2, .mv (.c (.int .i32 65533)), none⟩,
 ⟨some 3, .mv (.c (.int .i64 1)), none⟩])
 .ret)
 .skip))
 (.seq
 (.seq
 (.reg false [
 ⟨some 76, .mv (.t 8), none⟩,
 ⟨some 77, .bin .leq (.t 76) (.c (.int .i64 3)), none⟩])
 (.cond (.t 77)
 (.seq
 (.reg false [
 ⟨some 78, .mv (.t 5), none⟩,
 ⟨some 79, .bin .and (.t 78) (.c (.int .u8 15)), none⟩,
 ⟨some 80, .conv .i32 (.t 79), none⟩,
 ⟨some 81, .bin .shl (.t 80) (.c (.int .u64 12)), none⟩,
 ⟨some 82, .mv (.t 10), none⟩,
 ⟨some 83, .bin .and (.t 82) (.c (.int .u8 63)), none⟩,
 ⟨some 84, .conv .i32 (.t 83), none⟩,
 ⟨some 85, .bin .shl (.t 84) (.c (.int .u64 6)), none⟩,
 ⟨some 86, .bin .or (.t 81) (.t 85), none⟩,
 ⟨some 87, .mv (.t 11), none⟩,
 ⟨some 88, .bin .and (.t 87) (.c (.int .u8 63)), none⟩,
 ⟨some 89, .conv .i32 (.t 88), none⟩,
 ⟨some 90, .bin .or (.t 86) (.t 89), none⟩,
 ⟨some 2, .mv (.t 90), none⟩,
 ⟨some 3, .mv (.c (.int .i64 3)), none⟩])
 .ret)
 .skip))
 (.seq
 (.reg false [
 ⟨some 91, .mv (.t 0), none⟩,
 ⟨some 92, .ixs (.t 91) (.c (.int .i64 3)), none⟩,
 ⟨some 12, .mv (.t 92), none⟩])
 (.seq
 (.seq
 (.reg false [
 ⟨some 93, .mv (.t 12), none⟩,
 ⟨some 94, .bin .lss (.t 93) (.c (.int .u8 128)), none⟩,
 ⟨some 95, .mv (.t 94), none⟩,
 ⟨some 96, .mv (.t 12), some (95, false)⟩,
 ⟨some 97, .bin .lss (.c (.int .u8 191)) (.t 96), some (95, false)⟩,
 ⟨some 98, .pick (.t 95) (.c (.bool true)) (.t 97), none⟩])
 (.cond (.t 98)
 (.seq
 (.reg false [
 ⟨some 2, .mv (.c (.int .i32 65533)), none⟩,
 ⟨some 3, .mv (.c (.int .i64 1)), none⟩])
 .ret)
 .skip))
 (.seq
 (.reg false [
 ⟨some 99, .mv (.t 5), none⟩,
 ⟨some 100, .bin .and (.t 99) (.c (.int .u8 7)), none⟩,
 ⟨some 101, .conv .i32 (.t 100), none⟩,
 ⟨some 102, .bin .shl (.t 101) (.c (.int .u64 18)), none⟩,
 ⟨some 103, .mv (.t 10), none⟩,
 ⟨some 104, .bin .and (.t 103) (.c (.int .u8 63)), none⟩,
 ⟨some 105, .conv .i32 (.t 104), none⟩,
 ⟨some 106, .bin .shl (.t 105) (.c (.int .u64 12)), none⟩,
 ⟨some 107, .bin .or (.t 102) (.t 106), none⟩,
 ⟨some 108, .mv (.t 11), none⟩,
 ⟨some 109, .bin .and (.t 108) (.c (.int .u8 63)), none⟩,
 ⟨some 110, .conv .i32 (.t 109), none⟩,
 ⟨some 111, .bin .shl (.t 110) (.c (.int .u64 6)), none⟩,
 ⟨some 112, .bin .or (.t 107) (.t 111), none⟩,
 ⟨some 113, .mv (.t 12), none⟩,
 ⟨some 114, .bin .and (.t 113) (.c (.int .u8 63)), none⟩,
 ⟨some 115, .conv .i32 (.t 114), none⟩,
 ⟨some 116, .bin .or (.t 112) (.t 115), none⟩,
 ⟨some 2, .mv (.t 116), none⟩,
 ⟨some 3, .mv (.c (.int .i64 4)), none⟩])
 .ret)))))))))))))))))),
 [.tmp 2, .tmp 3]⟩

/-- internal/stringslite.Index -/
def i165 : IFun := ⟨2, 143,
 (.seq
 (.reg false [
 ⟨some 4, .mv (.c (.int .i64 0)), none⟩])
 (.seq
 (.reg false [
 ⟨some 14, .mv (.t 1), none⟩,
 ⟨some 15, .len true (.t 14), none⟩,
 ⟨some 5, .mv (.t 15), none⟩])
 (.seq
 (.blk 0
 (.seq
 (.reg false [
 ⟨some 17, .mv (.t 5), none⟩,
 ⟨some 18, .bin .eql (.t 17) (.c (.int .i64 0)), none⟩,
 ⟨some 19, .mv (.t 18), none⟩,
 ⟨some 20, .mv (.t 1), some (19, false)⟩,
 ⟨some 21, .mv (.t 0), some (19, false)⟩,
 ⟨some 22, .bin .eql (.t 20) (.t 21), some (19, false)⟩,
 ⟨some 23, .pick (.t 19) (.c (.bool true)) (.t 22), none⟩,
 ⟨some 16, .mv (.t 23), none⟩])
 (.cond (.t 16)
 (.seq
 (.reg false [
 ⟨some 4, .mv (.c (.int .i64 0)), none⟩])
 .ret)
 (.seq
 (.reg false [
 ⟨some 25, .mv (.t 5), none⟩,
 ⟨some 26, .bin .eql (.t 25) (.c (.int .i64 1)), none⟩,
 ⟨some 24, .mv (.t 26), none⟩])
 (.cond (.t 24)
 (.seq
 (.reg false [
 ⟨some 27, .mv (.t 0), none⟩,
 ⟨some 28, .mv (.t 1), none⟩,
 ⟨some 29, .ixs (.t 28) (.c (.int .i64 0)), none⟩,
 ⟨some 30, .pcall (.c (.fn (.f 167) [] [])) [(.t 27), (.t 29)], none⟩,
 ⟨some 4, .mv (.t 30), none⟩])
 .ret)
 (.seq
 (.reg false [
 ⟨some 32, .mv (.t 5), none⟩,
 ⟨some 33, .mv (.t 0), none⟩,
 ⟨some 34, .len true (.t 33), none⟩,
 ⟨some 35, .bin .geq (.t 32) (.t 34), none⟩,
 ⟨some 31, .mv (.t 35), none⟩])
 (.cond (.t 31)
 (.seq
 (.reg false [
 ⟨some 4, .mv (.c (.int .i64 (-1))), none⟩])
 .ret)
 (.seq
 .never
 (.cond (.t 36)
 (.seq
 (.reg false [
 ⟨some 45, .mv (.t 0), none⟩,
 ⟨some 46, .mv (.t 1), none⟩,
 ⟨some 47, .pcall (.c (.fn (.f 230) [] [])) [(.t 45), (.t 46)], none⟩,
 ⟨some 4, .mv (.t 47), none⟩])
 .ret)
 .skip)))))))))
 (.seq
 (.reg false [
 ⟨some 48, .mv (.t 1), none⟩,
 ⟨some 49, .ixs (.t 48) (.c (.int .i64 0)), none⟩,
 ⟨some 6, .mv (.t 49), none⟩])
 (.seq
 (.reg false [
 ⟨some 50, .mv (.t 1), none⟩,
 ⟨some 51, .ixs (.t 50) (.c (.int .i64 1)), none⟩,
 ⟨some 7, .mv (.t 51), none⟩])
 (.seq
 (.reg false [
 ⟨some 8, .mv (.c (.int .i64 0)), none⟩])
 (.seq
 (.reg false [
 ⟨some 52, .mv (.t 0), none⟩,
 ⟨some 53, .len true (.t 52), none⟩,
 ⟨some 54, .mv (.t 5), none⟩,
 ⟨some 55, .bin .sub (.t 53) (.t 54), none⟩,
 ⟨some 56, .bin .add (.t 55) (.c (.int .i64 1)), none⟩,
 ⟨some 9, .mv (.t 56), none⟩])
 (.seq
 (.reg false [
 ⟨some 10, .mv (.c (.int .i64 0)), none⟩])
 (.seq
 (.blk 1
 (.seq (.gh (.clr 2019)) (.loop (.seq
 (.seq
 (.seq
 (.reg false [
 ⟨some 57, .mv (.t 8), none⟩,
 ⟨some 58, .mv (.t 9), none⟩,
 ⟨some 59, .bin .lss (.t 57) (.t 58), none⟩])
 (.cond (.t 59)
 .skip
 (.exit 1)))
 (.blk 2
 (.seq
 (.seq
 (.reg false [
 ⟨some 60, .mv (.t 0), none⟩,
 ⟨some 61, .mv (.t 8), none⟩,
 ⟨some 62, .ixs (.t 60) (.t 61), none⟩,
 ⟨some 63, .mv (.t 6), none⟩,
 ⟨some 64, .bin .neq (.t 62) (.t 63), none⟩])
 (.cond (.t 64)
 (.seq
 (.reg false [
 ⟨some 65, .mv (.t 0), none⟩,
 ⟨some 66, .mv (.t 8), none⟩,
 ⟨some 67, .bin .add (.t 66) (.c (.int .i64 1)), none⟩,
 ⟨some 68, .mv (.t 9), none⟩,
 ⟨some 69, .sls (.t 65) (some (.t 67)) (some (.t 68)), none⟩,
 ⟨some 70, .mv (.t 6), none⟩,
 ⟨some 71, .pcall (.c (.fn (.f 167) [] [])) [(.t 69), (.t 70)], none⟩,
 ⟨some 11, .mv (.t 71), none⟩])
 (.seq
 (.seq
 (.reg false [
 ⟨some 72, .mv (.t 11), none⟩,
 ⟨some 73, .bin .lss (.t 72) (.c (.int .i64 0)), none⟩])
 (.cond (.t 73)
 (.seq
 (.reg false [
 ⟨some 4, .mv (.c (.int .i64 (-1))), none⟩])
 .ret)
 .skip))
 (.reg false [
 ⟨some 74, .mv (.t 8), none⟩,
 ⟨some 75, .mv (.t 11), none⟩,
 ⟨some 76, .bin .add (.t 75) (.c (.int .i64 1)), none⟩,
 ⟨some 77, .bin .add (.t 74) (.t 76), none⟩,
 ⟨some 8, .mv (.t 77), none⟩])))
 .skip))
 (.seq
 (.seq
 (.reg false [
 ⟨some 78, .mv (.t 0), none⟩,
 ⟨some 79, .mv (.t 8), none⟩,
 ⟨some 80, .bin .add (.t 79) (.c (.int .i64 1)), none⟩,
 ⟨some 81, .ixs (.t 78) (.t 80), none⟩,
 ⟨some 82, .mv (.t 7), none⟩,
 ⟨some 83, .bin .eql (.t 81) (.t 82), none⟩,
 ⟨some 84, .mv (.t 83), none⟩,
 ⟨some 85, .mv (.t 0), some (84, true)⟩,
 ⟨some 86, .mv (.t 8), some (84, true)⟩,
 ⟨some 87, .mv (.t 8), some (84, true)⟩,
 ⟨some 88, .mv (.t 5), some (84, true)⟩,
 ⟨some 89, .bin .add (.t 87) (.t 88), some (84, true)⟩,
 ⟨some 90, .sls (.t 85) (some (.t 86)) (some (.t 89)), some (84, true)⟩,
 ⟨some 91, .mv (.t 1), some (84, true)⟩,
 ⟨some 92, .bin .eql (.t 90) (.t 91), some (84, true)⟩,
 ⟨some 93, .pick (.t 84) (.t 92) (.c (.bool false)), none⟩])
 (.cond (.t 93)
 (.seq
 (.reg false [
 ⟨some 94, .mv (.t 8), none⟩,
 ⟨some 4, .mv (.t 94), none⟩])
 .ret)
 .skip))
 (.seq
 (.reg false [
 ⟨some 95, .mv (.t 8), none⟩,
 ⟨some 96, .bin .add (.t 95) (.c (.int .i64 1)), none⟩,
 ⟨some 8, .mv (.t 96), none⟩])
 (.seq
 (.reg false [
 ⟨some 97, .mv (.t 10), none⟩,
 ⟨some 98, .bin .add (.t 97) (.c (.int .i64 1)), none⟩,
 ⟨some 10, .mv (.t 98), none⟩])
 (.seq
 .never
 (.cond (.t 107)
 (.seq
 (.reg false [
 ⟨some 108, .mv (.t 0), none⟩,
 ⟨some 109, .mv (.t 8), none⟩,
 ⟨some 110, .sls (.t 108) (some (.t 109)) none, none⟩,
 ⟨some 111, .mv (.t 1), none⟩,
 ⟨some 112, .pcall (.c (.fn (.f 230) [] [])) [(.t 110), (.t 111)], none⟩,
 ⟨some 12, .mv (.t 112), none⟩])
 (.seq
 (.seq
 (.reg false [
 ⟨some 113, .mv (.t 12), none⟩,
 ⟨some 114, .bin .geq (.t 113) (.c (.int .i64 0)), none⟩])
 (.cond (.t 114)
 (.seq
 (.reg false [
 ⟨some 115, .mv (.t 12), none⟩,
 ⟨some 116, .mv (.t 8), none⟩,
 ⟨some 117, .bin .add (.t 115) (.t 116), none⟩,
 ⟨some 4, .mv (.t 117), none⟩])
 .ret)
 .skip))
 (.seq
 (.reg false [
 ⟨some 4, .mv (.c (.int .i64 (-1))), none⟩])
 .ret)))
 (.seq
 .never
 (.cond (.t 132)
 (.seq
 (.reg false [
 ⟨some 133, .mv (.t 0), none⟩,
 ⟨some 134, .mv (.t 8), none⟩,
 ⟨some 135, .sls (.t 133) (some (.t 134)) none, none⟩,
 ⟨some 136, .mv (.t 1), none⟩,
 ⟨some 137, .pcall (.c (.fn (.f 205) [] [])) [(.t 135), (.t 136)], none⟩,
 ⟨some 13, .mv (.t 137), none⟩])
 (.seq
 (.seq
 (.reg false [
 ⟨some 138, .mv (.t 13), none⟩,
 ⟨some 139, .bin .lss (.t 138) (.c (.int .i64 0)), none⟩])
 (.cond (.t 139)
 (.seq
 (.reg false [
 ⟨some 4, .mv (.c (.int .i64 (-1))), none⟩])
 .ret)
 .skip))
 (.seq
 (.reg false [
 ⟨some 140, .mv (.t 8), none⟩,
 ⟨some 141, .mv (.t 13), none⟩,
 ⟨some 142, .bin .add (.t 140) (.t 141), none⟩,
 ⟨some 4, .mv (.t 142), none⟩])
 .ret)))
 .skip))))))))))
 (.gh (.clr 2019))))))
 (.seq
 (.reg false [
 ⟨some 4, .mv (.c (.int .i64 (-1))), none⟩])
 .ret)))))))))),
 [.tmp 4]⟩

/-- strings.indexFunc -/
def i166 : IFun := ⟨3, 21,
 (.seq
 (.reg false [
 ⟨some 6, .mv (.c (.int .i64 0)), none⟩])
 (.seq
 (.seq
 (.reg false [
 ⟨some 9, .mv (.t 0), none⟩,
 ⟨some 10, .srange (.t 9), none⟩])
 (.blk 0
 (.seq (.gh (.clr 1030)) (.loop (.seq
 (.seq
 (.reg false [
 ⟨some 11, .snext (.t 10), none⟩,
 ⟨some 12, .ext (.t 11) 0, none⟩])
 (.seq
 (.cond (.t 12)
 .skip
 (.exit 0))
 (.blk 1
 (.seq
 (.reg false [
 ⟨some 13, .ext (.t 11) 1, none⟩,
 ⟨some 14, .ext (.t 11) 2, none⟩,
 ⟨some 7, .mv (.t 13), none⟩,
 ⟨some 8, .mv (.t 14), none⟩])
 (.seq
 (.reg false [
 ⟨some 15, .mv (.t 1), none⟩,
 ⟨some 16, .mv (.t 8), none⟩,
 ⟨some 17, .call (.t 15) [(.t 16)], none⟩,
 ⟨some 18, .mv (.t 2), none⟩,
 ⟨some 19, .beq false (.t 17) (.t 18), none⟩])
 (.cond (.t 19)
 (.seq
 (.reg false [
 ⟨some 20, .mv (.t 7), none⟩,
 ⟨some 6, .mv (.t 20), none⟩])
 .ret)
 .skip))))))
 (.gh (.clr 1030)))))))
 (.seq
 (.reg false [
 ⟨some 6, .mv (.c (.int .i64 (-1))), none⟩])
 .ret))),
 [.tmp 6]⟩

/-- internal/stringslite.IndexByte -/
def i167 : IFun := ⟨2, 8,
 (.seq
 (.reg false [
 ⟨some 4, .mv (.c (.int .i64 0)), none⟩])
 (.seq
 (.reg false [
 ⟨some 5, .mv (.t 0), none⟩,
 ⟨some 6, .mv (.t 1), none⟩,
 ⟨some 7, .pcall (.c (.fn (.f 187) [] [])) [(.t 5), (.t 6)], none⟩,
 ⟨some 4, .mv (.t 7), none⟩])
 .ret)),
 [.tmp 4]⟩

/-- strings.TrimSuffix -/
def i168 : IFun := ⟨2, 8,
 (.seq
 (.reg false [
 ⟨some 4, .mv (.c (.str [])), none⟩])
 (.seq
 (.reg false [
 ⟨some 5, .mv (.t 0), none⟩,
 ⟨some 6, .mv (.t 1), none⟩,
 ⟨some 7, .pcall (.c (.fn (.f 188) [] [])) [(.t 5), (.t 6)], none⟩,
 ⟨some 4, .mv (.t 7), none⟩])
 .ret)),
 [.tmp 4]⟩

/-- bloomery/tool.words -/
def i169 : IFun := ⟨1, 5,
 (.seq
 (.reg false [
 ⟨some 2, .mv (.c (.zsl true)), none⟩])
 (.seq
 (.reg false [
 ⟨some 3, .mv (.t 0), none⟩,
 ⟨some 4, .pcall (.c (.fn (.f 189) [] [])) [(.t 3), (.c (.fn (.f 190) [] []))], none⟩,
 ⟨some 2, .mv (.t 4), none⟩])
 .ret)),
 [.tmp 2]⟩

/-- strings.Clone -/
def i170 : IFun := ⟨1, 5,
 (.seq
 (.reg false [
 ⟨some 2, .mv (.c (.str [])), none⟩])
 (.seq
 (.reg false [
 ⟨some 3, .mv (.t 0), none⟩,
 ⟨some 4, .pcall (.c (.fn (.f 191) [] [])) [(.t 3)], none⟩,
 ⟨some 2, .mv (.t 4), none⟩])
 .ret)),
 [.tmp 2]⟩

end Go.Proofs.YtleommjdeejmkaaGreatDoor.Zq
