/-
  Terms of the small code language for functions of the program; written by a tool of ours (ir.py).
  Conditions: none; definitions.
-/
import Derived.Test.YtleommjdeejmkaaGreatDoorZIrA
set_option linter.all false

namespace Go.Proofs.YtleommjdeejmkaaGreatDoor.Zq
open Go

/-- bloomery/tool.takes -/
def i171 : IFun := ⟨1, 21,
 (.seq
 (.reg false [
 ⟨some 2, .mv (.c (.int .i64 0)), none⟩,
 ⟨some 3, .mv (.c (.bool false)), none⟩])
 (.seq
 (.seq
 (.reg false [
 ⟨some 4, .mv (.t 0), none⟩])
 (.blk 0
 (.seq
 (.seq
 (.reg false [
 ⟨some 6, .bin .eql (.t 4) (.c (.str [114, 101, 97, 100])), none⟩,
 ⟨some 5, .mv (.t 6), none⟩])
 (.cond (.t 5)
 .skip
 (.seq
 (.reg false [
 ⟨some 7, .bin .eql (.t 4) (.c (.str [116, 114, 121])), none⟩,
 ⟨some 5, .mv (.t 7), none⟩])
 (.cond (.t 5)
 .skip
 (.reg false [
 ⟨some 8, .bin .eql (.t 4) (.c (.str [119, 114, 105, 116, 101])), none⟩,
 ⟨some 5, .mv (.t 8), none⟩])))))
 (.cond (.t 5)
 (.seq
 (.reg false [
 ⟨some 2, .mv (.c (.int .i64 2)), none⟩,
 ⟨some 3, .mv (.c (.bool true)), none⟩])
 .ret)
 (.seq
 (.reg false [
 ⟨some 10, .bin .eql (.t 4) (.c (.str [115, 99, 97, 110])), none⟩,
 ⟨some 9, .mv (.t 10), none⟩])
 (.cond (.t 9)
 (.seq
 (.reg false [
 ⟨some 2, .mv (.c (.int .i64 3)), none⟩,
 ⟨some 3, .mv (.c (.bool true)), none⟩])
 .ret)
 (.seq
 (.seq
 (.reg false [
 ⟨some 12, .bin .eql (.t 4) (.c (.str [101, 110, 118])), none⟩,
 ⟨some 11, .mv (.t 12), none⟩])
 (.cond (.t 11)
 .skip
 (.seq
 (.reg false [
 ⟨some 13, .bin .eql (.t 4) (.c (.str [107, 101, 101, 112])), none⟩,
 ⟨some 11, .mv (.t 13), none⟩])
 (.cond (.t 11)
 .skip
 (.reg false [
 ⟨some 14, .bin .eql (.t 4) (.c (.str [110, 101, 101, 100])), none⟩,
 ⟨some 11, .mv (.t 14), none⟩])))))
 (.cond (.t 11)
 (.seq
 (.reg false [
 ⟨some 2, .mv (.c (.int .i64 2)), none⟩,
 ⟨some 3, .mv (.c (.bool false)), none⟩])
 .ret)
 (.seq
 (.seq
 (.reg false [
 ⟨some 16, .bin .eql (.t 4) (.c (.str [115, 111, 114, 116])), none⟩,
 ⟨some 15, .mv (.t 16), none⟩])
 (.cond (.t 15)
 .skip
 (.seq
 (.reg false [
 ⟨some 17, .bin .eql (.t 4) (.c (.str [117, 110, 105, 113])), none⟩,
 ⟨some 15, .mv (.t 17), none⟩])
 (.cond (.t 15)
 .skip
 (.seq
 (.reg false [
 ⟨some 18, .bin .eql (.t 4) (.c (.str [117, 112, 112, 101, 114])), none⟩,
 ⟨some 15, .mv (.t 18), none⟩])
 (.cond (.t 15)
 .skip
 (.seq
 (.reg false [
 ⟨some 19, .bin .eql (.t 4) (.c (.str [99, 111, 117, 110, 116])), none⟩,
 ⟨some 15, .mv (.t 19), none⟩])
 (.cond (.t 15)
 .skip
 (.reg false [
 ⟨some 20, .bin .eql (.t 4) (.c (.str [102, 97, 105, 108])), none⟩,
 ⟨some 15, .mv (.t 20), none⟩])))))))))
 (.cond (.t 15)
 (.seq
 (.reg false [
 ⟨some 2, .mv (.c (.int .i64 1)), none⟩,
 ⟨some 3, .mv (.c (.bool false)), none⟩])
 .ret)
 .skip))))))))))
 (.seq
 (.reg false [
 ⟨some 2, .mv (.c (.int .i64 0)), none⟩,
 ⟨some 3, .mv (.c (.bool false)), none⟩])
 .ret))),
 [.tmp 2, .tmp 3]⟩

/-- (*bloomery/tool.Run).ask$1 -/
def i172 : IFun := ⟨3, 11,
 (.reg true [
 ⟨some 3, .loadv false 1 (.t 0), none⟩,
 ⟨some 4, .loadv false 1 (.t 1), none⟩,
 ⟨some 5, .nchk (.t 4), none⟩,
 ⟨some 6, .fa (.t 5) 3, none⟩,
 ⟨some 7, .load false 1 (.t 6), none⟩,
 ⟨some 8, .loadv false 1 (.t 2), none⟩,
 ⟨some 9, .look false [2] (.t 7) (.t 8) (.agg [.str [], .bool false, .str []]) false, none⟩,
 ⟨some 10, .call (.t 3) [(.t 9)], none⟩]),
 []⟩

/-- (*bloomery/tool.Run).there$1 -/
def i173 : IFun := ⟨3, 13,
 (.seq
 (.reg false [
 ⟨some 3, .boxv (.t 0), none⟩])
 (.seq
 (.seq
 (.reg false [
 ⟨some 4, .fa (.t 3) 1, none⟩,
 ⟨some 5, .loadv false 1 (.t 4), none⟩,
 ⟨some 6, .un .not (.t 5), none⟩])
 (.cond (.t 6)
 (.seq
 (.reg false [
 ⟨some 7, .loadv false 1 (.t 1), none⟩,
 ⟨some 8, .call (.c (.fn (.f 149) [] [])) [(.t 7), (.c (.int .i64 10))], none⟩])
 .ret)
 .skip))
 (.reg false [
 ⟨some 9, .loadv false 1 (.t 2), none⟩,
 ⟨some 10, .fa (.t 3) 2, none⟩,
 ⟨some 11, .loadv false 1 (.t 10), none⟩,
 ⟨some 12, .call (.t 9) [(.t 11)], none⟩]))),
 []⟩

/-- (*bloomery/tool.Run).scan$1 -/
def i174 : IFun := ⟨4, 22,
 (.seq
 (.reg false [
 ⟨some 7, .mv (.t 0), none⟩,
 ⟨some 8, .pcall (.c (.fn (.f 138) [] [])) [(.t 7)], none⟩,
 ⟨some 9, .call (.c (.fn (.f 192) [] [])) [(.t 8)], none⟩])
 (.blk 0
 (.rf (.t 9) [10, 11]
 (.seq
 (.reg false [
 ⟨some 6, .alloc [.str []], none⟩,
 ⟨none, .store 1 (.t 6) (.t 11), none⟩])
 (.gh (.frz 6)))
 (.blk 1
 (.reg true [
 ⟨some 12, .loadv false 1 (.t 1), none⟩,
 ⟨some 13, .loadv false 1 (.t 1), none⟩,
 ⟨some 14, .nchk (.t 13), none⟩,
 ⟨some 15, .fa (.t 14) 0, none⟩,
 ⟨some 16, .load false 1 (.t 15), none⟩,
 ⟨some 17, .mkfn 193 [] [(.t 6), (.t 2), (.t 1), (.t 3)], none⟩,
 ⟨some 18, .bsl 1 [(.t 17)], none⟩,
 ⟨some 19, .app 1 8 (.t 16) (.t 18), none⟩,
 ⟨some 20, .nchk (.t 12), none⟩,
 ⟨some 21, .fa (.t 20) 0, none⟩,
 ⟨none, .store 1 (.t 21) (.t 19), none⟩]))))),
 []⟩

/-- strings.Contains -/
def i175 : IFun := ⟨2, 9,
 (.seq
 (.reg false [
 ⟨some 4, .mv (.c (.bool false)), none⟩])
 (.seq
 (.reg false [
 ⟨some 5, .mv (.t 0), none⟩,
 ⟨some 6, .mv (.t 1), none⟩,
 ⟨some 7, .pcall (.c (.fn (.f 163) [] [])) [(.t 5), (.t 6)], none⟩,
 ⟨some 8, .bin .geq (.t 7) (.c (.int .i64 0)), none⟩,
 ⟨some 4, .mv (.t 8), none⟩])
 .ret)),
 [.tmp 4]⟩

/-- (*bloomery/tool.Run).setLines -/
def i176 : IFun := ⟨2, 23,
 (.seq
 (.reg false [
 ⟨some 4, .alloc [.nilp, .zsl true], none⟩])
 (.seq
 (.seq
 (.reg false [
 ⟨some 7, .mv (.t 1), none⟩,
 ⟨some 8, .len false (.t 7), none⟩,
 ⟨some 9, .mv (.c (.int .i64 0)), none⟩])
 (.blk 0
 (.seq (.gh (.clr 913)) (.loop (.seq
 (.seq
 (.reg false [
 ⟨some 10, .bin .lss (.t 9) (.t 8), none⟩])
 (.seq
 (.cond (.t 10)
 .skip
 (.exit 0))
 (.seq
 (.blk 1
 (.seq
 (.reg false [
 ⟨some 11, .ia 1 (.t 7) (.t 9), none⟩,
 ⟨some 12, .load false 1 (.t 11), none⟩,
 ⟨some 6, .mv (.t 12), none⟩])
 (.reg false [
 ⟨some 13, .mv (.t 6), none⟩,
 ⟨some 14, .bin .add (.t 13) (.c (.str [10])), none⟩,
 ⟨some 15, .call (.c (.fn (.f 195) [] [])) [(.t 4), (.t 14)], none⟩])))
 (.reg false [
 ⟨some 16, .bin .add (.t 9) (.c (.int .i64 1)), none⟩,
 ⟨some 9, .mv (.t 16), none⟩]))))
 (.gh (.clr 913)))))))
 (.seq
 (.reg false [
 ⟨some 17, .mv (.t 0), none⟩,
 ⟨some 18, .nchk (.t 17), none⟩,
 ⟨some 19, .fa (.t 18) 2, none⟩,
 ⟨none, .store 1 (.t 19) (.c (.str [])), none⟩])
 (.reg false [
 ⟨some 20, .mv (.t 0), none⟩,
 ⟨some 21, .call (.c (.fn (.f 196) [] [])) [(.t 4)], none⟩,
 ⟨some 22, .call (.c (.fn (.f 142) [] [])) [(.t 20), (.t 21)], none⟩])))),
 []⟩

/-- strconv.Itoa -/
def i177 : IFun := ⟨1, 5,
 (.seq
 (.reg false [
 ⟨some 2, .mv (.c (.str [])), none⟩])
 (.seq
 (.reg false [
 ⟨some 3, .mv (.t 0), none⟩,
 ⟨some 4, .pcall (.c (.fn (.f 197) [] [])) [(.t 3)], none⟩,
 ⟨some 2, .mv (.t 4), none⟩])
 .ret)),
 [.tmp 2]⟩

/-- (*bloomery/tool.Run).turn$1 -/
def i178 : IFun := ⟨2, 8,
 (.seq
 (.reg false [
 ⟨some 3, .mv (.c (.bool false)), none⟩])
 (.seq
 (.reg false [
 ⟨some 4, .mv (.t 0), none⟩,
 ⟨some 5, .loadv false 1 (.t 1), none⟩,
 ⟨some 6, .pcall (.c (.fn (.f 175) [] [])) [(.t 4), (.t 5)], none⟩,
 ⟨some 7, .un .not (.t 6), none⟩,
 ⟨some 3, .mv (.t 7), none⟩])
 .ret)),
 [.tmp 3]⟩

/-- slices.DeleteFunc[[]string,string] -/
def i179 : IFun := ⟨2, 42,
 (.seq
 (.reg false [
 ⟨some 4, .mv (.c (.zsl true)), none⟩])
 (.seq
 (.reg false [
 ⟨some 8, .mv (.t 0), none⟩,
 ⟨some 9, .mv (.t 1), none⟩,
 ⟨some 10, .pcall (.c (.fn (.f 132) [] [])) [(.t 8), (.t 9)], none⟩,
 ⟨some 5, .mv (.t 10), none⟩])
 (.seq
 (.seq
 (.reg false [
 ⟨some 11, .mv (.t 5), none⟩,
 ⟨some 12, .bin .eql (.t 11) (.c (.int .i64 (-1))), none⟩])
 (.cond (.t 12)
 (.seq
 (.reg false [
 ⟨some 13, .mv (.t 0), none⟩,
 ⟨some 4, .mv (.t 13), none⟩])
 .ret)
 .skip))
 (.seq
 (.seq
 (.reg false [
 ⟨some 14, .mv (.t 5), none⟩,
 ⟨some 15, .bin .add (.t 14) (.c (.int .i64 1)), none⟩,
 ⟨some 6, .mv (.t 15), none⟩])
 (.blk 0
 (.seq (.gh (.clr 99)) (.loop (.seq
 (.seq
 (.seq
 (.reg false [
 ⟨some 16, .mv (.t 6), none⟩,
 ⟨some 17, .mv (.t 0), none⟩,
 ⟨some 18, .len false (.t 17), none⟩,
 ⟨some 19, .bin .lss (.t 16) (.t 18), none⟩])
 (.cond (.t 19)
 .skip
 (.exit 0)))
 (.seq
 (.blk 1
 (.seq
 (.reg false [
 ⟨some 22, .mv (.t 0), none⟩,
 ⟨some 23, .mv (.t 6), none⟩,
 ⟨some 24, .ia 1 (.t 22) (.t 23), none⟩,
 ⟨some 25, .load false 1 (.t 24), none⟩,
 ⟨some 7, .mv (.t 25), none⟩])
 (.seq
 (.reg false [
 ⟨some 26, .mv (.t 1), none⟩,
 ⟨some 27, .mv (.t 7), none⟩,
 ⟨some 28, .call (.t 26) [(.t 27)], none⟩,
 ⟨some 29, .un .not (.t 28), none⟩])
 (.cond (.t 29)
 (.seq
 (.reg false [
 ⟨some 30, .mv (.t 0), none⟩,
 ⟨some 31, .mv (.t 5), none⟩,
 ⟨some 32, .mv (.t 7), none⟩,
 ⟨some 33, .ia 1 (.t 30) (.t 31), none⟩,
 ⟨none, .store 1 (.t 33) (.t 32), none⟩])
 (.reg false [
 ⟨some 34, .mv (.t 5), none⟩,
 ⟨some 35, .bin .add (.t 34) (.c (.int .i64 1)), none⟩,
 ⟨some 5, .mv (.t 35), none⟩]))
 .skip))))
 (.reg false [
 ⟨some 20, .mv (.t 6), none⟩,
 ⟨some 21, .bin .add (.t 20) (.c (.int .i64 1)), none⟩,
 ⟨some 6, .mv (.t 21), none⟩])))
 (.gh (.clr 99)))))))
 (.seq
 .never
 (.seq
 (.reg false [
 ⟨some 39, .mv (.t 0), none⟩,
 ⟨some 40, .mv (.t 5), none⟩,
 ⟨some 41, .slv 1 (.t 39) none (some (.t 40)) none, none⟩,
 ⟨some 4, .mv (.t 41), none⟩])
 .ret)))))),
 [.tmp 4]⟩

/-- bloomery/globs.one -/
def i180 : IFun := ⟨2, 65,
 (.seq
 (.reg false [
 ⟨some 4, .mv (.c (.bool false)), none⟩])
 (.seq
 (.reg false [
 ⟨some 5, .mv (.c (.int .i64 0)), none⟩,
 ⟨some 6, .mv (.c (.int .i64 0)), none⟩,
 ⟨some 7, .mv (.c (.int .i64 (-1))), none⟩,
 ⟨some 8, .mv (.c (.int .i64 0)), none⟩])
 (.seq
 (.blk 0
 (.seq (.gh (.clr 483)) (.loop (.seq
 (.seq
 (.seq
 (.reg false [
 ⟨some 9, .mv (.t 6), none⟩,
 ⟨some 10, .mv (.t 1), none⟩,
 ⟨some 11, .len true (.t 10), none⟩,
 ⟨some 12, .bin .lss (.t 9) (.t 11), none⟩])
 (.cond (.t 12)
 .skip
 (.exit 0)))
 (.blk 1
 (.blk 2
 (.seq
 (.reg false [
 ⟨some 14, .mv (.t 5), none⟩,
 ⟨some 15, .mv (.t 0), none⟩,
 ⟨some 16, .len true (.t 15), none⟩,
 ⟨some 17, .bin .lss (.t 14) (.t 16), none⟩,
 ⟨some 18, .mv (.t 17), none⟩,
 ⟨some 19, .mv (.t 0), some (18, true)⟩,
 ⟨some 20, .mv (.t 5), some (18, true)⟩,
 ⟨some 21, .ixs (.t 19) (.t 20), some (18, true)⟩,
 ⟨some 22, .bin .eql (.t 21) (.c (.int .u8 42)), some (18, true)⟩,
 ⟨some 23, .pick (.t 18) (.t 22) (.c (.bool false)), none⟩,
 ⟨some 13, .mv (.t 23), none⟩])
 (.cond (.t 13)
 (.seq
 (.reg false [
 ⟨some 24, .mv (.t 5), none⟩,
 ⟨some 25, .mv (.t 6), none⟩,
 ⟨some 7, .mv (.t 24), none⟩,
 ⟨some 8, .mv (.t 25), none⟩])
 (.reg false [
 ⟨some 26, .mv (.t 5), none⟩,
 ⟨some 27, .bin .add (.t 26) (.c (.int .i64 1)), none⟩,
 ⟨some 5, .mv (.t 27), none⟩]))
 (.seq
 (.reg true [
 ⟨some 29, .mv (.t 5), none⟩,
 ⟨some 30, .mv (.t 0), none⟩,
 ⟨some 31, .len true (.t 30), none⟩,
 ⟨some 32, .bin .lss (.t 29) (.t 31), none⟩,
 ⟨some 33, .mv (.t 32), none⟩,
 ⟨some 34, .mv (.t 0), some (33, true)⟩,
 ⟨some 35, .mv (.t 5), some (33, true)⟩,
 ⟨some 36, .ixs (.t 34) (.t 35), some (33, true)⟩,
 ⟨some 37, .bin .eql (.t 36) (.c (.int .u8 63)), some (33, true)⟩,
 ⟨some 38, .mv (.t 37), some (33, true)⟩,
 ⟨some 39, .mv (.t 0), some (38, false)⟩,
 ⟨some 40, .mv (.t 5), some (38, false)⟩,
 ⟨some 41, .ixs (.t 39) (.t 40), some (38, false)⟩,
 ⟨some 42, .mv (.t 1), some (38, false)⟩,
 ⟨some 43, .mv (.t 6), some (38, false)⟩,
 ⟨some 44, .ixs (.t 42) (.t 43), some (38, false)⟩,
 ⟨some 45, .bin .eql (.t 41) (.t 44), some (38, false)⟩,
 ⟨some 46, .pick (.t 38) (.c (.bool true)) (.t 45), some (33, true)⟩,
 ⟨some 47, .pick (.t 33) (.t 46) (.c (.bool false)), none⟩,
 ⟨some 28, .mv (.t 47), none⟩])
 (.cond (.t 28)
 (.seq
 (.reg false [
 ⟨some 48, .mv (.t 5), none⟩,
 ⟨some 49, .bin .add (.t 48) (.c (.int .i64 1)), none⟩,
 ⟨some 5, .mv (.t 49), none⟩])
 (.reg false [
 ⟨some 50, .mv (.t 6), none⟩,
 ⟨some 51, .bin .add (.t 50) (.c (.int .i64 1)), none⟩,
 ⟨some 6, .mv (.t 51), none⟩]))
 (.seq
 (.reg false [
 ⟨some 53, .mv (.t 7), none⟩,
 ⟨some 54, .bin .geq (.t 53) (.c (.int .i64 0)), none⟩,
 ⟨some 52, .mv (.t 54), none⟩])
 (.cond (.t 52)
 (.seq
 (.reg false [
 ⟨some 55, .mv (.t 8), none⟩,
 ⟨some 56, .bin .add (.t 55) (.c (.int .i64 1)), none⟩,
 ⟨some 8, .mv (.t 56), none⟩])
 (.reg false [
 ⟨some 57, .mv (.t 7), none⟩,
 ⟨some 58, .bin .add (.t 57) (.c (.int .i64 1)), none⟩,
 ⟨some 59, .mv (.t 8), none⟩,
 ⟨some 5, .mv (.t 58), none⟩,
 ⟨some 6, .mv (.t 59), none⟩]))
 (.seq
 (.reg false [
 ⟨some 4, .mv (.c (.bool false)), none⟩])
 .ret))))))))))
 (.gh (.clr 483))))))
 (.seq
 (.reg false [
 ⟨some 60, .mv (.t 0), none⟩,
 ⟨some 61, .mv (.t 5), none⟩,
 ⟨some 62, .sls (.t 60) (some (.t 61)) none, none⟩,
 ⟨some 63, .pcall (.c (.fn (.f 181) [] [])) [(.t 62), (.c (.str [42]))], none⟩,
 ⟨some 64, .bin .eql (.t 63) (.c (.str [])), none⟩,
 ⟨some 4, .mv (.t 64), none⟩])
 .ret)))),
 [.tmp 4]⟩

/-- strings.Trim -/
def i181 : IFun := ⟨2, 43,
 (.seq
 (.reg false [
 ⟨some 4, .mv (.c (.str [])), none⟩])
 (.seq
 (.seq
 (.reg false [
 ⟨some 7, .mv (.t 0), none⟩,
 ⟨some 8, .bin .eql (.t 7) (.c (.str [])), none⟩,
 ⟨some 9, .mv (.t 8), none⟩,
 ⟨some 10, .mv (.t 1), some (9, false)⟩,
 ⟨some 11, .bin .eql (.t 10) (.c (.str [])), some (9, false)⟩,
 ⟨some 12, .pick (.t 9) (.c (.bool true)) (.t 11), none⟩])
 (.cond (.t 12)
 (.seq
 (.reg false [
 ⟨some 13, .mv (.t 0), none⟩,
 ⟨some 4, .mv (.t 13), none⟩])
 .ret)
 .skip))
 (.seq
 (.seq
 (.reg false [
 ⟨some 14, .mv (.t 1), none⟩,
 ⟨some 15, .len true (.t 14), none⟩,
 ⟨some 16, .bin .eql (.t 15) (.c (.int .i64 1)), none⟩,
 ⟨some 17, .mv (.t 16), none⟩,
 ⟨some 18, .mv (.t 1), some (17, true)⟩,
 ⟨some 19, .ixs (.t 18) (.c (.int .i64 0)), some (17, true)⟩,
 ⟨some 20, .bin .lss (.t 19) (.c (.int .u8 128)), some (17, true)⟩,
 ⟨some 21, .pick (.t 17) (.t 20) (.c (.bool false)), none⟩])
 (.cond (.t 21)
 (.seq
 (.reg true [
 ⟨some 22, .mv (.t 0), none⟩,
 ⟨some 23, .mv (.t 1), none⟩,
 ⟨some 24, .ixs (.t 23) (.c (.int .i64 0)), none⟩,
 ⟨some 25, .pcall (.c (.fn (.f 198) [] [])) [(.t 22), (.t 24)], none⟩,
 ⟨some 26, .mv (.t 1), none⟩,
 ⟨some 27, .ixs (.t 26) (.c (.int .i64 0)), none⟩,
 ⟨some 28, .pcall (.c (.fn (.f 199) [] [])) [(.t 25), (.t 27)], none⟩,
 ⟨some 4, .mv (.t 28), none⟩])
 .ret)
 .skip))
 (.seq
 (.seq
 .never
 (.seq
 (.reg false [
 ⟨some 34, .mv (.t 6), none⟩])
 (.cond (.t 34)
 (.seq
 (.reg false [
 ⟨some 35, .mv (.t 0), none⟩,
 ⟨some 36, .call (.c (.fn (.f 212) [] [])) [(.t 35), (.t 5)], none⟩,
 ⟨some 37, .call (.c (.fn (.f 210) [] [])) [(.t 36), (.t 5)], none⟩,
 ⟨some 4, .mv (.t 37), none⟩])
 .ret)
 .skip)))
 (.seq
 (.reg false [
 ⟨some 38, .mv (.t 0), none⟩,
 ⟨some 39, .mv (.t 1), none⟩,
 ⟨some 40, .pcall (.c (.fn (.f 215) [] [])) [(.t 38), (.t 39)], none⟩,
 ⟨some 41, .mv (.t 1), none⟩,
 ⟨some 42, .pcall (.c (.fn (.f 213) [] [])) [(.t 40), (.t 41)], none⟩,
 ⟨some 4, .mv (.t 42), none⟩])
 .ret))))),
 [.tmp 4]⟩

/-- bloomery/sha.constants -/
def i182 : IFun := ⟨0, 2,
 (.seq
 (.reg false [
 ⟨some 0, .alloc [.int .u32 0, .int .u32 0, .int .u32 0, .int .u32 0, .int .u32 0, .int .u32 0, .int .u32 0, .int .u32 0, .int .u32 0, .int .u32 0, .int .u32 0, .int .u32 0, .int .u32 0, .int .u32 0, .int .u32 0, .int .u32 0, .int .u32 0, .int .u32 0, .int .u32 0, .int .u32 0, .int .u32 0, .int .u32 0, .int .u32 0, .int .u32 0, .int .u32 0, .int .u32 0, .int .u32 0, .int .u32 0, .int .u32 0, .int .u32 0, .int .u32 0, .int .u32 0, .int .u32 0, .int .u32 0, .int .u32 0, .int .u32 0, .int .u32 0, .int .u32 0, .int .u32 0, .int .u32 0, .int .u32 0, .int .u32 0, .int .u32 0, .int .u32 0, .int .u32 0, .int .u32 0, .int .u32 0, .int .u32 0, .int .u32 0, .int .u32 0, .int .u32 0, .int .u32 0, .int .u32 0, .int .u32 0, .int .u32 0, .int .u32 0, .int .u32 0, .int .u32 0, .int .u32 0, .int .u32 0, .int .u32 0, .int .u32 0, .int .u32 0, .int .u32 0], none⟩])
 (.seq
 (.reg false [
 ⟨some 1, .build [.int .u32 0, .int .u32 0, .int .u32 0, .int .u32 0, .int .u32 0, .int .u32 0, .int .u32 0, .int .u32 0, .int .u32 0, .int .u32 0, .int .u32 0, .int .u32 0, .int .u32 0, .int .u32 0, .int .u32 0, .int .u32 0, .int .u32 0, .int .u32 0, .int .u32 0, .int .u32 0, .int .u32 0, .int .u32 0, .int .u32 0, .int .u32 0, .int .u32 0, .int .u32 0, .int .u32 0, .int .u32 0, .int .u32 0, .int .u32 0, .int .u32 0, .int .u32 0, .int .u32 0, .int .u32 0, .int .u32 0, .int .u32 0, .int .u32 0, .int .u32 0, .int .u32 0, .int .u32 0, .int .u32 0, .int .u32 0, .int .u32 0, .int .u32 0, .int .u32 0, .int .u32 0, .int .u32 0, .int .u32 0, .int .u32 0, .int .u32 0, .int .u32 0, .int .u32 0, .int .u32 0, .int .u32 0, .int .u32 0, .int .u32 0, .int .u32 0, .int .u32 0, .int .u32 0, .int .u32 0, .int .u32 0, .int .u32 0, .int .u32 0, .int .u32 0] [(0, 1, (.c (.int .u32 1116352408))), (1, 1, (.c (.int .u32 1899447441))), (2, 1, (.c (.int .u32 3049323471))), (3, 1, (.c (.int .u32 3921009573))), (4, 1, (.c (.int .u32 961987163))), (5, 1, (.c (.int .u32 1508970993))), (6, 1, (.c (.int .u32 2453635748))), (7, 1, (.c (.int .u32 2870763221))), (8, 1, (.c (.int .u32 3624381080))), (9, 1, (.c (.int .u32 310598401))), (10, 1, (.c (.int .u32 607225278))), (11, 1, (.c (.int .u32 1426881987))), (12, 1, (.c (.int .u32 1925078388))), (13, 1, (.c (.int .u32 2162078206))), (14, 1, (.c (.int .u32 2614888103))), (15, 1, (.c (.int .u32 3248222580))), (16, 1, (.c (.int .u32 3835390401))), (17, 1, (.c (.int .u32 4022224774))), (18, 1, (.c (.int .u32 264347078))), (19, 1, (.c (.int .u32 604807628))), (20, 1, (.c (.int .u32 770255983))), (21, 1, (.c (.int .u32 1249150122))), (22, 1, (.c (.int .u32 1555081692))), (23, 1, (.c (.int .u32 1996064986))), (24, 1, (.c (.int .u32 2554220882))), (25, 1, (.c (.int .u32 2821834349))), (26, 1, (.c (.int .u32 2952996808))), (27, 1, (.c (.int .u32 3210313671))), (28, 1, (.c (.int .u32 3336571891))), (29, 1, (.c (.int .u32 3584528711))), (30, 1, (.c (.int .u32 113926993))), (31, 1, (.c (.int .u32 338241895))), (32, 1, (.c (.int .u32 666307205))), (33, 1, (.c (.int .u32 773529912))), (34, 1, (.c (.int .u32 1294757372))), (35, 1, (.c (.int .u32 1396182291))), (36, 1, (.c (.int .u32 1695183700))), (37, 1, (.c (.int .u32 1986661051))), (38, 1, (.c (.int .u32 2177026350))), (39, 1, (.c (.int .u32 2456956037))), (40, 1, (.c (.int .u32 2730485921))), (41, 1, (.c (.int .u32 2820302411))), (42, 1, (.c (.int .u32 3259730800))), (43, 1, (.c (.int .u32 3345764771))), (44, 1, (.c (.int .u32 3516065817))), (45, 1, (.c (.int .u32 3600352804))), (46, 1, (.c (.int .u32 4094571909))), (47, 1, (.c (.int .u32 275423344))), (48, 1, (.c (.int .u32 430227734))), (49, 1, (.c (.int .u32 506948616))), (50, 1, (.c (.int .u32 659060556))), (51, 1, (.c (.int .u32 883997877))), (52, 1, (.c (.int .u32 958139571))), (53, 1, (.c (.int .u32 1322822218))), (54, 1, (.c (.int .u32 1537002063))), (55, 1, (.c (.int .u32 1747873779))), (56, 1, (.c (.int .u32 1955562222))), (57, 1, (.c (.int .u32 2024104815))), (58, 1, (.c (.int .u32 2227730452))), (59, 1, (.c (.int .u32 2361852424))), (60, 1, (.c (.int .u32 2428436474))), (61, 1, (.c (.int .u32 2756734187))), (62, 1, (.c (.int .u32 3204031479))), (63, 1, (.c (.int .u32 3329325298)))], none⟩,
 ⟨none, .store 64 (.t 0) (.t 1), none⟩])
 .ret)),
 [.cell 0 true 64]⟩

/-- bloomery/sha.spread -/
def i183 : IFun := ⟨1, 74,
 (.seq
 (.reg false [
 ⟨some 2, .alloc [.int .u32 0, .int .u32 0, .int .u32 0, .int .u32 0, .int .u32 0, .int .u32 0, .int .u32 0, .int .u32 0, .int .u32 0, .int .u32 0, .int .u32 0, .int .u32 0, .int .u32 0, .int .u32 0, .int .u32 0, .int .u32 0, .int .u32 0, .int .u32 0, .int .u32 0, .int .u32 0, .int .u32 0, .int .u32 0, .int .u32 0, .int .u32 0, .int .u32 0, .int .u32 0, .int .u32 0, .int .u32 0, .int .u32 0, .int .u32 0, .int .u32 0, .int .u32 0, .int .u32 0, .int .u32 0, .int .u32 0, .int .u32 0, .int .u32 0, .int .u32 0, .int .u32 0, .int .u32 0, .int .u32 0, .int .u32 0, .int .u32 0, .int .u32 0, .int .u32 0, .int .u32 0, .int .u32 0, .int .u32 0, .int .u32 0, .int .u32 0, .int .u32 0, .int .u32 0, .int .u32 0, .int .u32 0, .int .u32 0, .int .u32 0, .int .u32 0, .int .u32 0, .int .u32 0, .int .u32 0, .int .u32 0, .int .u32 0, .int .u32 0, .int .u32 0], none⟩])
 (.seq
 (.reg false [
 ⟨some 3, .alloc [.int .u32 0, .int .u32 0, .int .u32 0, .int .u32 0, .int .u32 0, .int .u32 0, .int .u32 0, .int .u32 0, .int .u32 0, .int .u32 0, .int .u32 0, .int .u32 0, .int .u32 0, .int .u32 0, .int .u32 0, .int .u32 0, .int .u32 0, .int .u32 0, .int .u32 0, .int .u32 0, .int .u32 0, .int .u32 0, .int .u32 0, .int .u32 0, .int .u32 0, .int .u32 0, .int .u32 0, .int .u32 0, .int .u32 0, .int .u32 0, .int .u32 0, .int .u32 0, .int .u32 0, .int .u32 0, .int .u32 0, .int .u32 0, .int .u32 0, .int .u32 0, .int .u32 0, .int .u32 0, .int .u32 0, .int .u32 0, .int .u32 0, .int .u32 0, .int .u32 0, .int .u32 0, .int .u32 0, .int .u32 0, .int .u32 0, .int .u32 0, .int .u32 0, .int .u32 0, .int .u32 0, .int .u32 0, .int .u32 0, .int .u32 0, .int .u32 0, .int .u32 0, .int .u32 0, .int .u32 0, .int .u32 0, .int .u32 0, .int .u32 0, .int .u32 0], none⟩])
 (.seq
 (.seq
 (.reg false [
 ⟨some 11, .mv (.t 0), none⟩,
 ⟨some 12, .len false (.t 11), none⟩,
 ⟨some 13, .mv (.c (.int .i64 0)), none⟩])
 (.blk 0
 (.seq (.gh (.clr 14348)) (.loop (.seq
 (.seq
 (.reg false [
 ⟨some 14, .bin .lss (.t 13) (.t 12), none⟩])
 (.seq
 (.cond (.t 14)
 .skip
 (.exit 0))
 (.seq
 (.blk 1
 (.seq
 (.reg false [
 ⟨some 15, .mv (.t 13), none⟩,
 ⟨some 16, .ia 1 (.t 11) (.t 13), none⟩,
 ⟨some 17, .load false 1 (.t 16), none⟩,
 ⟨some 4, .mv (.t 15), none⟩,
 ⟨some 5, .mv (.t 17), none⟩])
 (.reg false [
 ⟨some 18, .mv (.t 4), none⟩,
 ⟨some 19, .bin .quo (.t 18) (.c (.int .i64 4)), none⟩,
 ⟨some 20, .mv (.t 4), none⟩,
 ⟨some 21, .bin .quo (.t 20) (.c (.int .i64 4)), none⟩,
 ⟨some 22, .iaa (.t 3) (.t 21) 64 1, none⟩,
 ⟨some 23, .load false 1 (.t 22), none⟩,
 ⟨some 24, .bin .shl (.t 23) (.c (.int .u64 8)), none⟩,
 ⟨some 25, .mv (.t 5), none⟩,
 ⟨some 26, .conv .u32 (.t 25), none⟩,
 ⟨some 27, .bin .or (.t 24) (.t 26), none⟩,
 ⟨some 28, .iaa (.t 3) (.t 19) 64 1, none⟩,
 ⟨none, .store 1 (.t 28) (.t 27), none⟩])))
 (.reg false [
 ⟨some 29, .bin .add (.t 13) (.c (.int .i64 1)), none⟩,
 ⟨some 13, .mv (.t 29), none⟩]))))
 (.gh (.clr 14348)))))))
 (.seq
 (.seq
 (.reg false [
 ⟨some 6, .mv (.c (.int .i64 16)), none⟩])
 (.blk 2
 (.seq (.gh (.clr 76)) (.loop (.seq
 (.seq
 (.seq
 (.reg false [
 ⟨some 30, .mv (.t 6), none⟩,
 ⟨some 31, .bin .lss (.t 30) (.c (.int .i64 64)), none⟩])
 (.cond (.t 31)
 .skip
 (.exit 2)))
 (.seq
 (.blk 3
 (.seq
 (.reg true [
 ⟨some 34, .mv (.t 6), none⟩,
 ⟨some 35, .bin .sub (.t 34) (.c (.int .i64 15)), none⟩,
 ⟨some 36, .iaa (.t 3) (.t 35) 64 1, none⟩,
 ⟨some 37, .load false 1 (.t 36), none⟩,
 ⟨some 38, .mv (.t 6), none⟩,
 ⟨some 39, .bin .sub (.t 38) (.c (.int .i64 2)), none⟩,
 ⟨some 40, .iaa (.t 3) (.t 39) 64 1, none⟩,
 ⟨some 41, .load false 1 (.t 40), none⟩,
 ⟨some 7, .mv (.t 37), none⟩,
 ⟨some 8, .mv (.t 41), none⟩])
 (.seq
 (.reg false [
 ⟨some 42, .mv (.t 7), none⟩,
 ⟨some 43, .pcall (.c (.fn (.f 184) [] [])) [(.t 42), (.c (.int .i64 7))], none⟩,
 ⟨some 44, .mv (.t 7), none⟩,
 ⟨some 45, .pcall (.c (.fn (.f 184) [] [])) [(.t 44), (.c (.int .i64 18))], none⟩,
 ⟨some 46, .bin .xor (.t 43) (.t 45), none⟩,
 ⟨some 47, .mv (.t 7), none⟩,
 ⟨some 48, .bin .shr (.t 47) (.c (.int .u64 3)), none⟩,
 ⟨some 49, .bin .xor (.t 46) (.t 48), none⟩,
 ⟨some 9, .mv (.t 49), none⟩])
 (.seq
 (.reg false [
 ⟨some 50, .mv (.t 8), none⟩,
 ⟨some 51, .pcall (.c (.fn (.f 184) [] [])) [(.t 50), (.c (.int .i64 17))], none⟩,
 ⟨some 52, .mv (.t 8), none⟩,
 ⟨some 53, .pcall (.c (.fn (.f 184) [] [])) [(.t 52), (.c (.int .i64 19))], none⟩,
 ⟨some 54, .bin .xor (.t 51) (.t 53), none⟩,
 ⟨some 55, .mv (.t 8), none⟩,
 ⟨some 56, .bin .shr (.t 55) (.c (.int .u64 10)), none⟩,
 ⟨some 57, .bin .xor (.t 54) (.t 56), none⟩,
 ⟨some 10, .mv (.t 57), none⟩])
 (.reg true [
 ⟨some 58, .mv (.t 6), none⟩,
 ⟨some 59, .mv (.t 6), none⟩,
 ⟨some 60, .bin .sub (.t 59) (.c (.int .i64 16)), none⟩,
 ⟨some 61, .iaa (.t 3) (.t 60) 64 1, none⟩,
 ⟨some 62, .load false 1 (.t 61), none⟩,
 ⟨some 63, .mv (.t 9), none⟩,
 ⟨some 64, .bin .add (.t 62) (.t 63), none⟩,
 ⟨some 65, .mv (.t 6), none⟩,
 ⟨some 66, .bin .sub (.t 65) (.c (.int .i64 7)), none⟩,
 ⟨some 67, .iaa (.t 3) (.t 66) 64 1, none⟩,
 ⟨some 68, .load false 1 (.t 67), none⟩,
 ⟨some 69, .bin .add (.t 64) (.t 68), none⟩,
 ⟨some 70, .mv (.t 10), none⟩,
 ⟨some 71, .bin .add (.t 69) (.t 70), none⟩,
 ⟨some 72, .iaa (.t 3) (.t 58) 64 1, none⟩,
 ⟨none, .store 1 (.t 72) (.t 71), none⟩])))))
 (.reg false [
 ⟨some 32, .mv (.t 6), none⟩,
 ⟨some 33, .bin .add (.t 32) (.c (.int .i64 1)), none⟩,
 ⟨some 6, .mv (.t 33), none⟩])))
 (.gh (.clr 76)))))))
 (.seq
 (.reg false [
 ⟨some 73, .load true 64 (.t 3), none⟩,
 ⟨none, .store 64 (.t 2) (.t 73), none⟩])
 .ret))))),
 [.cell 2 true 64]⟩

/-- bloomery/sha.turned -/
def i184 : IFun := ⟨2, 9,
 (.seq
 (.reg false [
 ⟨some 4, .mv (.c (.int .u32 0)), none⟩])
 (.seq
 (.reg false [
 ⟨some 5, .mv (.t 0), none⟩,
 ⟨some 6, .mv (.t 1), none⟩,
 ⟨some 7, .bin .sub (.c (.int .i64 32)) (.t 6), none⟩,
 ⟨some 8, .pcall (.c (.fn (.f 201) [] [])) [(.t 5), (.t 7)], none⟩,
 ⟨some 4, .mv (.t 8), none⟩])
 .ret)),
 [.tmp 4]⟩

/-- strings.explode -/
def i185 : IFun := ⟨2, 50,
 (.seq
 (.reg false [
 ⟨some 4, .mv (.c (.zsl true)), none⟩])
 (.seq
 (.reg false [
 ⟨some 10, .mv (.t 0), none⟩,
 ⟨some 11, .pcall (.c (.fn (.f 202) [] [])) [(.t 10)], none⟩,
 ⟨some 5, .mv (.t 11), none⟩])
 (.seq
 (.seq
 (.reg false [
 ⟨some 12, .mv (.t 1), none⟩,
 ⟨some 13, .bin .lss (.t 12) (.c (.int .i64 0)), none⟩,
 ⟨some 14, .mv (.t 13), none⟩,
 ⟨some 15, .mv (.t 1), some (14, false)⟩,
 ⟨some 16, .mv (.t 5), some (14, false)⟩,
 ⟨some 17, .bin .gtr (.t 15) (.t 16), some (14, false)⟩,
 ⟨some 18, .pick (.t 14) (.c (.bool true)) (.t 17), none⟩])
 (.cond (.t 18)
 (.reg false [
 ⟨some 19, .mv (.t 5), none⟩,
 ⟨some 1, .mv (.t 19), none⟩])
 .skip))
 (.seq
 (.reg false [
 ⟨some 20, .mv (.t 1), none⟩,
 ⟨some 21, .mksl [.str []] 16 (.t 20) (.t 20), none⟩,
 ⟨some 6, .mv (.t 21), none⟩])
 (.seq
 (.seq
 (.reg false [
 ⟨some 7, .mv (.c (.int .i64 0)), none⟩])
 (.blk 0
 (.seq (.gh (.clr 195)) (.loop (.seq
 (.seq
 (.seq
 (.reg false [
 ⟨some 22, .mv (.t 7), none⟩,
 ⟨some 23, .mv (.t 1), none⟩,
 ⟨some 24, .bin .sub (.t 23) (.c (.int .i64 1)), none⟩,
 ⟨some 25, .bin .lss (.t 22) (.t 24), none⟩])
 (.cond (.t 25)
 .skip
 (.exit 0)))
 (.seq
 (.blk 1
 (.seq
 (.reg false [
 ⟨some 29, .mv (.t 0), none⟩,
 ⟨some 30, .pcall (.c (.fn (.f 162) [] [])) [(.t 29)], none⟩,
 ⟨some 28, .mv (.t 30), none⟩,
 ⟨some 31, .ext (.t 28) 0, none⟩,
 ⟨some 32, .ext (.t 28) 1, none⟩,
 ⟨some 8, .mv (.t 31), none⟩,
 ⟨some 9, .mv (.t 32), none⟩])
 (.seq
 (.reg false [
 ⟨some 33, .mv (.t 6), none⟩,
 ⟨some 34, .mv (.t 7), none⟩,
 ⟨some 35, .mv (.t 0), none⟩,
 ⟨some 36, .mv (.t 9), none⟩,
 ⟨some 37, .sls (.t 35) none (some (.t 36)), none⟩,
 ⟨some 38, .ia 1 (.t 33) (.t 34), none⟩,
 ⟨none, .store 1 (.t 38) (.t 37), none⟩])
 (.reg false [
 ⟨some 39, .mv (.t 0), none⟩,
 ⟨some 40, .mv (.t 9), none⟩,
 ⟨some 41, .sls (.t 39) (some (.t 40)) none, none⟩,
 ⟨some 0, .mv (.t 41), none⟩]))))
 (.reg false [
 ⟨some 26, .mv (.t 7), none⟩,
 ⟨some 27, .bin .add (.t 26) (.c (.int .i64 1)), none⟩,
 ⟨some 7, .mv (.t 27), none⟩])))
 (.gh (.clr 195)))))))
 (.seq
 (.seq
 (.reg false [
 ⟨some 42, .mv (.t 1), none⟩,
 ⟨some 43, .bin .gtr (.t 42) (.c (.int .i64 0)), none⟩])
 (.cond (.t 43)
 (.reg false [
 ⟨some 44, .mv (.t 6), none⟩,
 ⟨some 45, .mv (.t 1), none⟩,
 ⟨some 46, .bin .sub (.t 45) (.c (.int .i64 1)), none⟩,
 ⟨some 47, .mv (.t 0), none⟩,
 ⟨some 48, .ia 1 (.t 44) (.t 46), none⟩,
 ⟨none, .store 1 (.t 48) (.t 47), none⟩])
 .skip))
 (.seq
 (.reg false [
 ⟨some 49, .mv (.t 6), none⟩,
 ⟨some 4, .mv (.t 49), none⟩])
 .ret))))))),
 [.tmp 4]⟩

/-- strings.Count -/
def i186 : IFun := ⟨2, 34,
 (.seq
 (.reg false [
 ⟨some 4, .mv (.c (.int .i64 0)), none⟩])
 (.seq
 (.seq
 (.reg false [
 ⟨some 7, .mv (.t 1), none⟩,
 ⟨some 8, .len true (.t 7), none⟩,
 ⟨some 9, .bin .eql (.t 8) (.c (.int .i64 0)), none⟩])
 (.cond (.t 9)
 (.seq
 (.reg false [
 ⟨some 10, .mv (.t 0), none⟩,
 ⟨some 11, .pcall (.c (.fn (.f 202) [] [])) [(.t 10)], none⟩,
 ⟨some 12, .bin .add (.t 11) (.c (.int .i64 1)), none⟩,
 ⟨some 4, .mv (.t 12), none⟩])
 .ret)
 .skip))
 (.seq
 (.seq
 (.reg false [
 ⟨some 13, .mv (.t 1), none⟩,
 ⟨some 14, .len true (.t 13), none⟩,
 ⟨some 15, .bin .eql (.t 14) (.c (.int .i64 1)), none⟩])
 (.cond (.t 15)
 (.seq
 (.reg false [
 ⟨some 16, .mv (.t 0), none⟩,
 ⟨some 17, .mv (.t 1), none⟩,
 ⟨some 18, .ixs (.t 17) (.c (.int .i64 0)), none⟩,
 ⟨some 19, .pcall (.c (.fn (.f 203) [] [])) [(.t 16), (.t 18)], none⟩,
 ⟨some 4, .mv (.t 19), none⟩])
 .ret)
 .skip))
 (.seq
 (.reg false [
 ⟨some 5, .mv (.c (.int .i64 0)), none⟩])
 (.blk 0
 (.seq (.gh (.clr 35)) (.loop (.seq
 (.blk 1
 (.seq
 (.reg false [
 ⟨some 20, .mv (.t 0), none⟩,
 ⟨some 21, .mv (.t 1), none⟩,
 ⟨some 22, .pcall (.c (.fn (.f 163) [] [])) [(.t 20), (.t 21)], none⟩,
 ⟨some 6, .mv (.t 22), none⟩])
 (.seq
 (.seq
 (.reg false [
 ⟨some 23, .mv (.t 6), none⟩,
 ⟨some 24, .bin .eql (.t 23) (.c (.int .i64 (-1))), none⟩])
 (.cond (.t 24)
 (.seq
 (.reg false [
 ⟨some 25, .mv (.t 5), none⟩,
 ⟨some 4, .mv (.t 25), none⟩])
 .ret)
 .skip))
 (.seq
 (.reg false [
 ⟨some 26, .mv (.t 5), none⟩,
 ⟨some 27, .bin .add (.t 26) (.c (.int .i64 1)), none⟩,
 ⟨some 5, .mv (.t 27), none⟩])
 (.reg false [
 ⟨some 28, .mv (.t 0), none⟩,
 ⟨some 29, .mv (.t 6), none⟩,
 ⟨some 30, .mv (.t 1), none⟩,
 ⟨some 31, .len true (.t 30), none⟩,
 ⟨some 32, .bin .add (.t 29) (.t 31), none⟩,
 ⟨some 33, .sls (.t 28) (some (.t 32)) none, none⟩,
 ⟨some 0, .mv (.t 33), none⟩])))))
 (.gh (.clr 35)))))))))),
 [.tmp 4]⟩

/-- internal/stringslite.TrimSuffix -/
def i188 : IFun := ⟨2, 16,
 (.seq
 (.reg false [
 ⟨some 4, .mv (.c (.str [])), none⟩])
 (.seq
 (.seq
 (.reg false [
 ⟨some 5, .mv (.t 0), none⟩,
 ⟨some 6, .mv (.t 1), none⟩,
 ⟨some 7, .pcall (.c (.fn (.f 207) [] [])) [(.t 5), (.t 6)], none⟩])
 (.cond (.t 7)
 (.seq
 (.reg false [
 ⟨some 8, .mv (.t 0), none⟩,
 ⟨some 9, .mv (.t 0), none⟩,
 ⟨some 10, .len true (.t 9), none⟩,
 ⟨some 11, .mv (.t 1), none⟩,
 ⟨some 12, .len true (.t 11), none⟩,
 ⟨some 13, .bin .sub (.t 10) (.t 12), none⟩,
 ⟨some 14, .sls (.t 8) none (some (.t 13)), none⟩,
 ⟨some 4, .mv (.t 14), none⟩])
 .ret)
 .skip))
 (.seq
 (.reg false [
 ⟨some 15, .mv (.t 0), none⟩,
 ⟨some 4, .mv (.t 15), none⟩])
 .ret))),
 [.tmp 4]⟩

/-- strings.FieldsFunc -/
def i189 : IFun := ⟨2, 65,
 (.seq
 (.reg false [
 ⟨some 4, .mv (.c (.zsl true)), none⟩])
 (.seq
 (.reg false [
 ⟨some 12, .mksl [.int .i64 0, .int .i64 0] 16 (.c (.int .i64 0)) (.c (.int .i64 32)), none⟩,
 ⟨some 5, .mv (.t 12), none⟩])
 (.seq
 (.reg false [
 ⟨some 6, .mv (.c (.int .i64 (-1))), none⟩])
 (.seq
 (.seq
 (.reg false [
 ⟨some 13, .mv (.t 0), none⟩,
 ⟨some 14, .srange (.t 13), none⟩])
 (.blk 0
 (.seq (.gh (.clr 16483)) (.loop (.seq
 (.seq
 (.reg false [
 ⟨some 15, .snext (.t 14), none⟩,
 ⟨some 16, .ext (.t 15) 0, none⟩])
 (.seq
 (.cond (.t 16)
 .skip
 (.exit 0))
 (.blk 1
 (.seq
 (.reg false [
 ⟨some 17, .ext (.t 15) 1, none⟩,
 ⟨some 18, .ext (.t 15) 2, none⟩,
 ⟨some 7, .mv (.t 17), none⟩,
 ⟨some 8, .mv (.t 18), none⟩])
 (.seq
 (.reg false [
 ⟨some 19, .mv (.t 1), none⟩,
 ⟨some 20, .mv (.t 8), none⟩,
 ⟨some 21, .call (.t 19) [(.t 20)], none⟩])
 (.cond (.t 21)
 (.seq
 (.reg false [
 ⟨some 22, .mv (.t 6), none⟩,
 ⟨some 23, .bin .geq (.t 22) (.c (.int .i64 0)), none⟩])
 (.cond (.t 23)
 (.seq
 (.reg false [
 ⟨some 24, .mv (.t 5), none⟩,
 ⟨some 25, .mv (.t 6), none⟩,
 ⟨some 26, .mv (.t 7), none⟩,
 ⟨some 27, .build [.int .i64 0, .int .i64 0] [(0, 1, (.t 25)), (1, 1, (.t 26))], none⟩,
 ⟨some 28, .bsl 2 [(.t 27)], none⟩,
 ⟨some 29, .app 2 16 (.t 24) (.t 28), none⟩,
 ⟨some 5, .mv (.t 29), none⟩])
 (.reg false [
 ⟨some 30, .mv (.t 6), none⟩,
 ⟨some 31, .un .xor (.t 30), none⟩,
 ⟨some 6, .mv (.t 31), none⟩]))
 .skip))
 (.seq
 (.reg false [
 ⟨some 32, .mv (.t 6), none⟩,
 ⟨some 33, .bin .lss (.t 32) (.c (.int .i64 0)), none⟩])
 (.cond (.t 33)
 (.reg false [
 ⟨some 34, .mv (.t 7), none⟩,
 ⟨some 6, .mv (.t 34), none⟩])
 .skip))))))))
 (.gh (.clr 16483)))))))
 (.seq
 (.seq
 (.reg false [
 ⟨some 35, .mv (.t 6), none⟩,
 ⟨some 36, .bin .geq (.t 35) (.c (.int .i64 0)), none⟩])
 (.cond (.t 36)
 (.reg false [
 ⟨some 37, .mv (.t 5), none⟩,
 ⟨some 38, .mv (.t 6), none⟩,
 ⟨some 39, .mv (.t 0), none⟩,
 ⟨some 40, .len true (.t 39), none⟩,
 ⟨some 41, .build [.int .i64 0, .int .i64 0] [(0, 1, (.t 38)), (1, 1, (.t 40))], none⟩,
 ⟨some 42, .bsl 2 [(.t 41)], none⟩,
 ⟨some 43, .app 2 16 (.t 37) (.t 42), none⟩,
 ⟨some 5, .mv (.t 43), none⟩])
 .skip))
 (.seq
 (.reg false [
 ⟨some 44, .mv (.t 5), none⟩,
 ⟨some 45, .len false (.t 44), none⟩,
 ⟨some 46, .mksl [.str []] 16 (.t 45) (.t 45), none⟩,
 ⟨some 9, .mv (.t 46), none⟩])
 (.seq
 (.seq
 (.reg false [
 ⟨some 47, .mv (.t 5), none⟩,
 ⟨some 48, .len false (.t 47), none⟩,
 ⟨some 49, .mv (.c (.int .i64 0)), none⟩])
 (.blk 2
 (.seq (.gh (.clr 985162418487809)) (.loop (.seq
 (.seq
 (.reg false [
 ⟨some 50, .bin .lss (.t 49) (.t 48), none⟩])
 (.seq
 (.cond (.t 50)
 .skip
 (.exit 2))
 (.seq
 (.blk 3
 (.seq
 (.seq
 (.seq
 (.reg false [
 ⟨some 51, .mv (.t 49), none⟩,
 ⟨some 52, .ia 2 (.t 47) (.t 49), none⟩,
 ⟨some 53, .load true 2 (.t 52), none⟩,
 ⟨some 11, .alloc [.int .i64 0, .int .i64 0], none⟩,
 ⟨some 10, .mv (.t 51), none⟩,
 ⟨none, .store 2 (.t 11) (.t 53), none⟩])
 (.gh (.frz 11)))
 (.gh .pop))
 (.reg false [
 ⟨some 54, .mv (.t 9), none⟩,
 ⟨some 55, .mv (.t 10), none⟩,
 ⟨some 56, .mv (.t 0), none⟩,
 ⟨some 57, .fa (.t 11) 0, none⟩,
 ⟨some 58, .loadv false 1 (.t 57), none⟩,
 ⟨some 59, .fa (.t 11) 1, none⟩,
 ⟨some 60, .loadv false 1 (.t 59), none⟩,
 ⟨some 61, .sls (.t 56) (some (.t 58)) (some (.t 60)), none⟩,
 ⟨some 62, .ia 1 (.t 54) (.t 55), none⟩,
 ⟨none, .store 1 (.t 62) (.t 61), none⟩])))
 (.reg false [
 ⟨some 63, .bin .add (.t 49) (.c (.int .i64 1)), none⟩,
 ⟨some 49, .mv (.t 63), none⟩]))))
 (.gh (.clr 985162418487809)))))))
 (.seq
 (.reg false [
 ⟨some 64, .mv (.t 9), none⟩,
 ⟨some 4, .mv (.t 64), none⟩])
 .ret)))))))),
 [.tmp 4]⟩

/-- bloomery/tool.words$1 -/
def i190 : IFun := ⟨1, 9,
 (.seq
 (.reg false [
 ⟨some 2, .mv (.c (.bool false)), none⟩])
 (.seq
 (.reg false [
 ⟨some 3, .mv (.t 0), none⟩,
 ⟨some 4, .bin .eql (.t 3) (.c (.int .i32 32)), none⟩,
 ⟨some 5, .mv (.t 4), none⟩,
 ⟨some 6, .mv (.t 0), some (5, false)⟩,
 ⟨some 7, .bin .eql (.t 6) (.c (.int .i32 9)), some (5, false)⟩,
 ⟨some 8, .pick (.t 5) (.c (.bool true)) (.t 7), none⟩,
 ⟨some 2, .mv (.t 8), none⟩])
 .ret)),
 [.tmp 2]⟩

/-- internal/stringslite.Clone -/
def i191 : IFun := ⟨1, 18,
 (.seq
 (.reg false [
 ⟨some 2, .mv (.c (.str [])), none⟩])
 (.seq
 (.seq
 (.reg false [
 ⟨some 4, .mv (.t 0), none⟩,
 ⟨some 5, .len true (.t 4), none⟩,
 ⟨some 6, .bin .eql (.t 5) (.c (.int .i64 0)), none⟩])
 (.cond (.t 6)
 (.seq
 (.reg false [
 ⟨some 2, .mv (.c (.str [])), none⟩])
 .ret)
 .skip))
 (.seq
 (.reg false [
 ⟨some 7, .mv (.t 0), none⟩,
 ⟨some 8, .len true (.t 7), none⟩,
 ⟨some 9, .mksl [.int .u8 0] 1 (.t 8) (.t 8), none⟩,
 ⟨some 3, .mv (.t 9), none⟩])
 (.seq
 .never
 (.seq
 .never
 .ret))))),
 [.tmp 2]⟩

/-- slices.Backward[[]string,string] -/
def i192 : IFun := ⟨1, 4,
 (.seq
 (.reg false [
 ⟨some 1, .boxv (.t 0), none⟩,
 ⟨some 2, .mv (.c (.nilf)), none⟩])
 (.seq
 (.reg false [
 ⟨some 3, .mkfn 194 [] [(.t 1)], none⟩,
 ⟨some 2, .mv (.t 3), none⟩])
 .ret)),
 [.tmp 2]⟩

/-- (*bloomery/tool.Run).scan$1$1 -/
def i193 : IFun := ⟨4, 41,
 (.seq
 (.reg false [
 ⟨some 5, .loadv false 1 (.t 0), none⟩,
 ⟨some 6, .pcall (.c (.fn (.f 169) [] [])) [(.t 5)], none⟩,
 ⟨some 4, .mv (.t 6), none⟩])
 (.seq
 (.reg true [
 ⟨some 7, .mv (.t 4), none⟩,
 ⟨some 8, .len false (.t 7), none⟩,
 ⟨some 9, .bin .neq (.t 8) (.c (.int .i64 2)), none⟩,
 ⟨some 10, .mv (.t 9), none⟩,
 ⟨some 11, .mv (.t 4), some (10, false)⟩,
 ⟨some 12, .ia 1 (.t 11) (.c (.int .i64 0)), some (10, false)⟩,
 ⟨some 13, .load false 1 (.t 12), some (10, false)⟩,
 ⟨some 14, .loadv false 1 (.t 1), some (10, false)⟩,
 ⟨some 15, .bin .neq (.t 13) (.t 14), some (10, false)⟩,
 ⟨some 16, .pick (.t 10) (.c (.bool true)) (.t 15), none⟩,
 ⟨some 17, .mv (.t 16), none⟩,
 ⟨some 18, .mv (.t 4), some (17, false)⟩,
 ⟨some 19, .ia 1 (.t 18) (.c (.int .i64 1)), some (17, false)⟩,
 ⟨some 20, .load false 1 (.t 19), some (17, false)⟩,
 ⟨some 21, .pcall (.c (.fn (.f 48) [] [])) [(.t 20)], some (17, false)⟩,
 ⟨some 22, .un .not (.t 21), some (17, false)⟩,
 ⟨some 23, .pick (.t 17) (.c (.bool true)) (.t 22), none⟩])
 (.cond (.t 23)
 (.reg false [
 ⟨some 24, .loadv false 1 (.t 2), none⟩,
 ⟨some 25, .loadv false 1 (.t 0), none⟩,
 ⟨some 26, .bin .add (.t 25) (.c (.str [10])), none⟩,
 ⟨some 27, .call (.c (.fn (.f 142) [] [])) [(.t 24), (.t 26)], none⟩])
 (.seq
 (.reg true [
 ⟨some 28, .loadv false 1 (.t 3), none⟩,
 ⟨some 29, .mv (.t 4), none⟩,
 ⟨some 30, .ia 1 (.t 29) (.c (.int .i64 1)), none⟩,
 ⟨some 31, .load false 1 (.t 30), none⟩,
 ⟨some 32, .look false [2] (.t 28) (.t 31) (.bool false) false, none⟩,
 ⟨some 33, .un .not (.t 32), none⟩])
 (.cond (.t 33)
 (.reg true [
 ⟨some 34, .loadv false 1 (.t 2), none⟩,
 ⟨some 35, .mv (.t 4), none⟩,
 ⟨some 36, .ia 1 (.t 35) (.c (.int .i64 1)), none⟩,
 ⟨some 37, .load false 1 (.t 36), none⟩,
 ⟨some 38, .loadv false 1 (.t 1), none⟩,
 ⟨some 39, .loadv false 1 (.t 3), none⟩,
 ⟨some 40, .call (.c (.fn (.f 146) [] [])) [(.t 34), (.t 37), (.t 38), (.t 39)], none⟩])
 .skip))))),
 []⟩

/-- slices.Backward[[]string,string]$1 -/
def i194 : IFun := ⟨2, 19,
 (.seq
 (.reg false [
 ⟨some 4, .loadv false 1 (.t 1), none⟩,
 ⟨some 5, .len false (.t 4), none⟩,
 ⟨some 6, .bin .sub (.t 5) (.c (.int .i64 1)), none⟩,
 ⟨some 3, .mv (.t 6), none⟩])
 (.blk 0
 (.seq (.gh (.clr 11)) (.loop (.seq
 (.seq
 (.seq
 (.reg false [
 ⟨some 7, .mv (.t 3), none⟩,
 ⟨some 8, .bin .geq (.t 7) (.c (.int .i64 0)), none⟩])
 (.cond (.t 8)
 .skip
 (.exit 0)))
 (.seq
 (.blk 1
 (.seq
 (.reg false [
 ⟨some 11, .mv (.t 0), none⟩,
 ⟨some 12, .mv (.t 3), none⟩,
 ⟨some 13, .loadv false 1 (.t 1), none⟩,
 ⟨some 14, .mv (.t 3), none⟩,
 ⟨some 15, .ia 1 (.t 13) (.t 14), none⟩,
 ⟨some 16, .load false 1 (.t 15), none⟩,
 ⟨some 17, .call (.t 11) [(.t 12), (.t 16)], none⟩,
 ⟨some 18, .un .not (.t 17), none⟩])
 (.cond (.t 18)
 .ret
 .skip)))
 (.reg false [
 ⟨some 9, .mv (.t 3), none⟩,
 ⟨some 10, .bin .sub (.t 9) (.c (.int .i64 1)), none⟩,
 ⟨some 3, .mv (.t 10), none⟩])))
 (.gh (.clr 11))))))),
 []⟩

/-- (*strings.Builder).WriteString -/
def i195 : IFun := ⟨2, 19,
 (.seq
 (.reg false [
 ⟨some 4, .mv (.c (.int .i64 0)), none⟩,
 ⟨some 5, .mv (.c (.niface)), none⟩])
 (.seq
 (.reg false [
 ⟨some 6, .mv (.t 0), none⟩,
 ⟨some 7, .call (.c (.fn (.f 208) [] [])) [(.t 6)], none⟩])
 (.seq
 (.reg false [
 ⟨some 8, .mv (.t 0), none⟩,
 ⟨some 9, .mv (.t 0), none⟩,
 ⟨some 10, .nchk (.t 9), none⟩,
 ⟨some 11, .fa (.t 10) 1, none⟩,
 ⟨some 12, .load false 1 (.t 11), none⟩,
 ⟨some 13, .mv (.t 1), none⟩,
 ⟨some 14, .app 1 1 (.t 12) (.t 13), none⟩,
 ⟨some 15, .nchk (.t 8), none⟩,
 ⟨some 16, .fa (.t 15) 1, none⟩,
 ⟨none, .store 1 (.t 16) (.t 14), none⟩])
 (.seq
 (.reg false [
 ⟨some 17, .mv (.t 1), none⟩,
 ⟨some 18, .len true (.t 17), none⟩,
 ⟨some 4, .mv (.t 18), none⟩,
 ⟨some 5, .mv (.c (.niface)), none⟩])
 .ret)))),
 [.tmp 4, .tmp 5]⟩

/-- (*strings.Builder).String -/
def i196 : IFun := ⟨1, 14,
 (.seq
 (.reg false [
 ⟨some 2, .mv (.c (.str [])), none⟩])
 (.seq
 .never
 .ret)),
 [.tmp 2]⟩

/-- internal/strconv.Itoa -/
def i197 : IFun := ⟨1, 5,
 (.seq
 (.reg false [
 ⟨some 2, .mv (.c (.str [])), none⟩])
 (.seq
 (.reg false [
 ⟨some 3, .mv (.t 0), none⟩,
 ⟨some 4, .pcall (.c (.fn (.f 209) [] [])) [(.t 3), (.c (.int .i64 10))], none⟩,
 ⟨some 2, .mv (.t 4), none⟩])
 .ret)),
 [.tmp 2]⟩

/-- strings.trimRightByte -/
def i198 : IFun := ⟨2, 23,
 (.seq
 (.reg false [
 ⟨some 4, .mv (.c (.str [])), none⟩])
 (.seq
 (.blk 0
 (.seq (.gh (.clr 3)) (.loop (.seq
 (.seq
 (.seq
 (.reg false [
 ⟨some 5, .mv (.t 0), none⟩,
 ⟨some 6, .len true (.t 5), none⟩,
 ⟨some 7, .bin .gtr (.t 6) (.c (.int .i64 0)), none⟩,
 ⟨some 8, .mv (.t 7), none⟩,
 ⟨some 9, .mv (.t 0), some (8, true)⟩,
 ⟨some 10, .mv (.t 0), some (8, true)⟩,
 ⟨some 11, .len true (.t 10), some (8, true)⟩,
 ⟨some 12, .bin .sub (.t 11) (.c (.int .i64 1)), some (8, true)⟩,
 ⟨some 13, .ixs (.t 9) (.t 12), some (8, true)⟩,
 ⟨some 14, .mv (.t 1), some (8, true)⟩,
 ⟨some 15, .bin .eql (.t 13) (.t 14), some (8, true)⟩,
 ⟨some 16, .pick (.t 8) (.t 15) (.c (.bool false)), none⟩])
 (.cond (.t 16)
 .skip
 (.exit 0)))
 (.blk 1
 (.reg false [
 ⟨some 17, .mv (.t 0), none⟩,
 ⟨some 18, .mv (.t 0), none⟩,
 ⟨some 19, .len true (.t 18), none⟩,
 ⟨some 20, .bin .sub (.t 19) (.c (.int .i64 1)), none⟩,
 ⟨some 21, .sls (.t 17) none (some (.t 20)), none⟩,
 ⟨some 0, .mv (.t 21), none⟩])))
 (.gh (.clr 3))))))
 (.seq
 (.reg false [
 ⟨some 22, .mv (.t 0), none⟩,
 ⟨some 4, .mv (.t 22), none⟩])
 .ret))),
 [.tmp 4]⟩

/-- strings.trimLeftByte -/
def i199 : IFun := ⟨2, 17,
 (.seq
 (.reg false [
 ⟨some 4, .mv (.c (.str [])), none⟩])
 (.seq
 (.blk 0
 (.seq (.gh (.clr 3)) (.loop (.seq
 (.seq
 (.seq
 (.reg false [
 ⟨some 5, .mv (.t 0), none⟩,
 ⟨some 6, .len true (.t 5), none⟩,
 ⟨some 7, .bin .gtr (.t 6) (.c (.int .i64 0)), none⟩,
 ⟨some 8, .mv (.t 7), none⟩,
 ⟨some 9, .mv (.t 0), some (8, true)⟩,
 ⟨some 10, .ixs (.t 9) (.c (.int .i64 0)), some (8, true)⟩,
 ⟨some 11, .mv (.t 1), some (8, true)⟩,
 ⟨some 12, .bin .eql (.t 10) (.t 11), some (8, true)⟩,
 ⟨some 13, .pick (.t 8) (.t 12) (.c (.bool false)), none⟩])
 (.cond (.t 13)
 .skip
 (.exit 0)))
 (.blk 1
 (.reg false [
 ⟨some 14, .mv (.t 0), none⟩,
 ⟨some 15, .sls (.t 14) (some (.c (.int .i64 1))) none, none⟩,
 ⟨some 0, .mv (.t 15), none⟩])))
 (.gh (.clr 3))))))
 (.seq
 (.reg false [
 ⟨some 16, .mv (.t 0), none⟩,
 ⟨some 4, .mv (.t 16), none⟩])
 .ret))),
 [.tmp 4]⟩

/-- math/bits.RotateLeft32 -/
def i201 : IFun := ⟨2, 17,
 (.seq
 (.reg false [
 ⟨some 4, .mv (.c (.int .u32 0)), none⟩])
 (.seq
 (.reg false [
 ⟨some 6, .mv (.t 1), none⟩,
 ⟨some 7, .conv .u64 (.t 6), none⟩,
 ⟨some 8, .bin .and (.t 7) (.c (.int .u64 31)), none⟩,
 ⟨some 5, .mv (.t 8), none⟩])
 (.seq
 (.reg false [
 ⟨some 9, .mv (.t 0), none⟩,
 ⟨some 10, .mv (.t 5), none⟩,
 ⟨some 11, .bin .shl (.t 9) (.t 10), none⟩,
 ⟨some 12, .mv (.t 0), none⟩,
 ⟨some 13, .mv (.t 5), none⟩,
 ⟨some 14, .bin .sub (.c (.int .u64 32)) (.t 13), none⟩,
 ⟨some 15, .bin .shr (.t 12) (.t 14), none⟩,
 ⟨some 16, .bin .or (.t 11) (.t 15), none⟩,
 ⟨some 4, .mv (.t 16), none⟩])
 .ret))),
 [.tmp 4]⟩

/-- unicode/utf8.RuneCountInString -/
def i202 : IFun := ⟨1, 10,
 (.seq
 (.reg false [
 ⟨some 2, .mv (.c (.int .i64 0)), none⟩])
 (.seq
 (.seq
 (.reg false [
 ⟨some 3, .mv (.t 0), none⟩,
 ⟨some 4, .srange (.t 3), none⟩])
 (.blk 0
 (.seq (.gh (.clr 20)) (.loop (.seq
 (.seq
 (.reg false [
 ⟨some 5, .snext (.t 4), none⟩,
 ⟨some 6, .ext (.t 5) 0, none⟩])
 (.seq
 (.cond (.t 6)
 .skip
 (.exit 0))
 (.blk 1
 (.reg false [
 ⟨some 7, .mv (.t 2), none⟩,
 ⟨some 8, .bin .add (.t 7) (.c (.int .i64 1)), none⟩,
 ⟨some 2, .mv (.t 8), none⟩]))))
 (.gh (.clr 20)))))))
 (.seq
 (.reg false [
 ⟨some 9, .mv (.t 2), none⟩,
 ⟨some 2, .mv (.t 9), none⟩])
 .ret))),
 [.tmp 2]⟩

/-- internal/bytealg.Cutover -/
def i204 : IFun := ⟨1, 6,
 (.seq
 (.reg false [
 ⟨some 2, .mv (.c (.int .i64 0)), none⟩])
 (.seq
 (.reg false [
 ⟨some 3, .mv (.t 0), none⟩,
 ⟨some 4, .bin .add (.t 3) (.c (.int .i64 16)), none⟩,
 ⟨some 5, .bin .quo (.t 4) (.c (.int .i64 8)), none⟩,
 ⟨some 2, .mv (.t 5), none⟩])
 .ret)),
 [.tmp 2]⟩

/-- internal/bytealg.IndexRabinKarp[string] -/
def i205 : IFun := ⟨2, 81,
 (.seq
 (.reg false [
 ⟨some 4, .mv (.c (.int .i64 0)), none⟩])
 (.seq
 (.reg false [
 ⟨some 12, .mv (.t 1), none⟩,
 ⟨some 13, .pcall (.c (.fn (.f 206) [] [])) [(.t 12)], none⟩,
 ⟨some 11, .mv (.t 13), none⟩,
 ⟨some 14, .ext (.t 11) 0, none⟩,
 ⟨some 15, .ext (.t 11) 1, none⟩,
 ⟨some 5, .mv (.t 14), none⟩,
 ⟨some 6, .mv (.t 15), none⟩])
 (.seq
 (.reg false [
 ⟨some 16, .mv (.t 1), none⟩,
 ⟨some 17, .len true (.t 16), none⟩,
 ⟨some 7, .mv (.t 17), none⟩])
 (.seq
 (.reg false [
 ⟨some 8, .mv (.c (.int .u32 0)), none⟩])
 (.seq
 (.seq
 (.reg false [
 ⟨some 9, .mv (.c (.int .i64 0)), none⟩])
 (.blk 0
 (.seq (.gh (.clr 995)) (.loop (.seq
 (.seq
 (.seq
 (.reg false [
 ⟨some 18, .mv (.t 9), none⟩,
 ⟨some 19, .mv (.t 7), none⟩,
 ⟨some 20, .bin .lss (.t 18) (.t 19), none⟩])
 (.cond (.t 20)
 .skip
 (.exit 0)))
 (.seq
 (.blk 1
 (.reg false [
 ⟨some 23, .mv (.t 8), none⟩,
 ⟨some 24, .bin .mul (.t 23) (.c (.int .u32 16777619)), none⟩,
 ⟨some 25, .mv (.t 0), none⟩,
 ⟨some 26, .mv (.t 9), none⟩,
 ⟨some 27, .ixs (.t 25) (.t 26), none⟩,
 ⟨some 28, .conv .u32 (.t 27), none⟩,
 ⟨some 29, .bin .add (.t 24) (.t 28), none⟩,
 ⟨some 8, .mv (.t 29), none⟩]))
 (.reg false [
 ⟨some 21, .mv (.t 9), none⟩,
 ⟨some 22, .bin .add (.t 21) (.c (.int .i64 1)), none⟩,
 ⟨some 9, .mv (.t 22), none⟩])))
 (.gh (.clr 995)))))))
 (.seq
 (.seq
 (.reg false [
 ⟨some 30, .mv (.t 8), none⟩,
 ⟨some 31, .mv (.t 5), none⟩,
 ⟨some 32, .bin .eql (.t 30) (.t 31), none⟩,
 ⟨some 33, .mv (.t 32), none⟩,
 ⟨some 34, .mv (.t 0), some (33, true)⟩,
 ⟨some 35, .mv (.t 7), some (33, true)⟩,
 ⟨some 36, .sls (.t 34) none (some (.t 35)), some (33, true)⟩,
 ⟨some 37, .mv (.t 1), some (33, true)⟩,
 ⟨some 38, .bin .eql (.t 36) (.t 37), some (33, true)⟩,
 ⟨some 39, .pick (.t 33) (.t 38) (.c (.bool false)), none⟩])
 (.cond (.t 39)
 (.seq
 (.reg false [
 ⟨some 4, .mv (.c (.int .i64 0)), none⟩])
 .ret)
 .skip))
 (.seq
 (.seq
 (.reg false [
 ⟨some 40, .mv (.t 7), none⟩,
 ⟨some 10, .mv (.t 40), none⟩])
 (.blk 2
 (.seq (.gh (.clr 1507)) (.loop (.seq
 (.seq
 (.seq
 (.reg false [
 ⟨some 41, .mv (.t 10), none⟩,
 ⟨some 42, .mv (.t 0), none⟩,
 ⟨some 43, .len true (.t 42), none⟩,
 ⟨some 44, .bin .lss (.t 41) (.t 43), none⟩])
 (.cond (.t 44)
 .skip
 (.exit 2)))
 (.blk 3
 (.seq
 (.reg false [
 ⟨some 45, .mv (.t 8), none⟩,
 ⟨some 46, .bin .mul (.t 45) (.c (.int .u32 16777619)), none⟩,
 ⟨some 8, .mv (.t 46), none⟩])
 (.seq
 (.reg false [
 ⟨some 47, .mv (.t 8), none⟩,
 ⟨some 48, .mv (.t 0), none⟩,
 ⟨some 49, .mv (.t 10), none⟩,
 ⟨some 50, .ixs (.t 48) (.t 49), none⟩,
 ⟨some 51, .conv .u32 (.t 50), none⟩,
 ⟨some 52, .bin .add (.t 47) (.t 51), none⟩,
 ⟨some 8, .mv (.t 52), none⟩])
 (.seq
 (.reg false [
 ⟨some 53, .mv (.t 8), none⟩,
 ⟨some 54, .mv (.t 6), none⟩,
 ⟨some 55, .mv (.t 0), none⟩,
 ⟨some 56, .mv (.t 10), none⟩,
 ⟨some 57, .mv (.t 7), none⟩,
 ⟨some 58, .bin .sub (.t 56) (.t 57), none⟩,
 ⟨some 59, .ixs (.t 55) (.t 58), none⟩,
 ⟨some 60, .conv .u32 (.t 59), none⟩,
 ⟨some 61, .bin .mul (.t 54) (.t 60), none⟩,
 ⟨some 62, .bin .sub (.t 53) (.t 61), none⟩,
 ⟨some 8, .mv (.t 62), none⟩])
 (.seq
 (.reg false [
 ⟨some 63, .mv (.t 10), none⟩,
 ⟨some 64, .bin .add (.t 63) (.c (.int .i64 1)), none⟩,
 ⟨some 10, .mv (.t 64), none⟩])
 (.seq
 (.reg false [
 ⟨some 65, .mv (.t 8), none⟩,
 ⟨some 66, .mv (.t 5), none⟩,
 ⟨some 67, .bin .eql (.t 65) (.t 66), none⟩,
 ⟨some 68, .mv (.t 67), none⟩,
 ⟨some 69, .mv (.t 0), some (68, true)⟩,
 ⟨some 70, .mv (.t 10), some (68, true)⟩,
 ⟨some 71, .mv (.t 7), some (68, true)⟩,
 ⟨some 72, .bin .sub (.t 70) (.t 71), some (68, true)⟩,
 ⟨some 73, .mv (.t 10), some (68, true)⟩,
 ⟨some 74, .sls (.t 69) (some (.t 72)) (some (.t 73)), some (68, true)⟩,
 ⟨some 75, .mv (.t 1), some (68, true)⟩,
 ⟨some 76, .bin .eql (.t 74) (.t 75), some (68, true)⟩,
 ⟨some 77, .pick (.t 68) (.t 76) (.c (.bool false)), none⟩])
 (.cond (.t 77)
 (.seq
 (.reg false [
 ⟨some 78, .mv (.t 10), none⟩,
 ⟨some 79, .mv (.t 7), none⟩,
 ⟨some 80, .bin .sub (.t 78) (.t 79), none⟩,
 ⟨some 4, .mv (.t 80), none⟩])
 .ret)
 .skip))))))))
 (.gh (.clr 1507)))))))
 (.seq
 (.reg false [
 ⟨some 4, .mv (.c (.int .i64 (-1))), none⟩])
 .ret)))))))),
 [.tmp 4]⟩

/-- internal/bytealg.hashStr[string] -/
def i206 : IFun := ⟨1, 39,
 (.seq
 (.reg false [
 ⟨some 2, .mv (.c (.int .u32 0)), none⟩,
 ⟨some 3, .mv (.c (.int .u32 0)), none⟩])
 (.seq
 (.reg false [
 ⟨some 4, .mv (.c (.int .u32 0)), none⟩])
 (.seq
 (.seq
 (.reg false [
 ⟨some 5, .mv (.c (.int .i64 0)), none⟩])
 (.blk 0
 (.seq (.gh (.clr 49)) (.loop (.seq
 (.seq
 (.seq
 (.reg false [
 ⟨some 9, .mv (.t 5), none⟩,
 ⟨some 10, .mv (.t 0), none⟩,
 ⟨some 11, .len true (.t 10), none⟩,
 ⟨some 12, .bin .lss (.t 9) (.t 11), none⟩])
 (.cond (.t 12)
 .skip
 (.exit 0)))
 (.seq
 (.blk 1
 (.reg false [
 ⟨some 15, .mv (.t 4), none⟩,
 ⟨some 16, .bin .mul (.t 15) (.c (.int .u32 16777619)), none⟩,
 ⟨some 17, .mv (.t 0), none⟩,
 ⟨some 18, .mv (.t 5), none⟩,
 ⟨some 19, .ixs (.t 17) (.t 18), none⟩,
 ⟨some 20, .conv .u32 (.t 19), none⟩,
 ⟨some 21, .bin .add (.t 16) (.t 20), none⟩,
 ⟨some 4, .mv (.t 21), none⟩]))
 (.reg false [
 ⟨some 13, .mv (.t 5), none⟩,
 ⟨some 14, .bin .add (.t 13) (.c (.int .i64 1)), none⟩,
 ⟨some 5, .mv (.t 14), none⟩])))
 (.gh (.clr 49)))))))
 (.seq
 (.reg false [
 ⟨some 6, .mv (.c (.int .u32 1)), none⟩,
 ⟨some 7, .mv (.c (.int .u32 16777619)), none⟩])
 (.seq
 (.seq
 (.reg false [
 ⟨some 22, .mv (.t 0), none⟩,
 ⟨some 23, .len true (.t 22), none⟩,
 ⟨some 8, .mv (.t 23), none⟩])
 (.blk 2
 (.seq (.gh (.clr 464)) (.loop (.seq
 (.seq
 (.seq
 (.reg false [
 ⟨some 24, .mv (.t 8), none⟩,
 ⟨some 25, .bin .gtr (.t 24) (.c (.int .i64 0)), none⟩])
 (.cond (.t 25)
 .skip
 (.exit 2)))
 (.seq
 (.blk 3
 (.seq
 (.seq
 (.reg false [
 ⟨some 28, .mv (.t 8), none⟩,
 ⟨some 29, .bin .and (.t 28) (.c (.int .i64 1)), none⟩,
 ⟨some 30, .bin .neq (.t 29) (.c (.int .i64 0)), none⟩])
 (.cond (.t 30)
 (.reg false [
 ⟨some 31, .mv (.t 6), none⟩,
 ⟨some 32, .mv (.t 7), none⟩,
 ⟨some 33, .bin .mul (.t 31) (.t 32), none⟩,
 ⟨some 6, .mv (.t 33), none⟩])
 .skip))
 (.reg false [
 ⟨some 34, .mv (.t 7), none⟩,
 ⟨some 35, .mv (.t 7), none⟩,
 ⟨some 36, .bin .mul (.t 34) (.t 35), none⟩,
 ⟨some 7, .mv (.t 36), none⟩])))
 (.reg false [
 ⟨some 26, .mv (.t 8), none⟩,
 ⟨some 27, .bin .shr (.t 26) (.c (.int .u64 1)), none⟩,
 ⟨some 8, .mv (.t 27), none⟩])))
 (.gh (.clr 464)))))))
 (.seq
 (.reg false [
 ⟨some 37, .mv (.t 4), none⟩,
 ⟨some 38, .mv (.t 6), none⟩,
 ⟨some 2, .mv (.t 37), none⟩,
 ⟨some 3, .mv (.t 38), none⟩])
 .ret)))))),
 [.tmp 2, .tmp 3]⟩

/-- internal/stringslite.HasSuffix -/
def i207 : IFun := ⟨2, 21,
 (.seq
 (.reg false [
 ⟨some 4, .mv (.c (.bool false)), none⟩])
 (.seq
 (.reg false [
 ⟨some 5, .mv (.t 0), none⟩,
 ⟨some 6, .len true (.t 5), none⟩,
 ⟨some 7, .mv (.t 1), none⟩,
 ⟨some 8, .len true (.t 7), none⟩,
 ⟨some 9, .bin .geq (.t 6) (.t 8), none⟩,
 ⟨some 10, .mv (.t 9), none⟩,
 ⟨some 11, .mv (.t 0), some (10, true)⟩,
 ⟨some 12, .mv (.t 0), some (10, true)⟩,
 ⟨some 13, .len true (.t 12), some (10, true)⟩,
 ⟨some 14, .mv (.t 1), some (10, true)⟩,
 ⟨some 15, .len true (.t 14), some (10, true)⟩,
 ⟨some 16, .bin .sub (.t 13) (.t 15), some (10, true)⟩,
 ⟨some 17, .sls (.t 11) (some (.t 16)) none, some (10, true)⟩,
 ⟨some 18, .mv (.t 1), some (10, true)⟩,
 ⟨some 19, .bin .eql (.t 17) (.t 18), some (10, true)⟩,
 ⟨some 20, .pick (.t 10) (.t 19) (.c (.bool false)), none⟩,
 ⟨some 4, .mv (.t 20), none⟩])
 .ret)),
 [.tmp 4]⟩

/-- (*strings.Builder).copyCheck -/
def i208 : IFun := ⟨1, 20,
 (.seq
 (.reg false [
 ⟨some 2, .mv (.t 0), none⟩,
 ⟨some 3, .nchk (.t 2), none⟩,
 ⟨some 4, .fa (.t 3) 0, none⟩,
 ⟨some 5, .load false 1 (.t 4), none⟩,
 ⟨some 6, .nileq 0 false (.t 5), none⟩])
 (.cond (.t 6)
 .never
 (.seq
 .never
 (.cond (.t 19)
 .never
 .skip)))),
 []⟩

/-- internal/strconv.FormatInt -/
def i209 : IFun := ⟨2, 54,
 (.seq
 (.reg false [
 ⟨some 4, .mv (.c (.str [])), none⟩])
 (.seq
 (.seq
 (.reg false [
 ⟨some 10, .mv (.t 1), none⟩,
 ⟨some 11, .bin .eql (.t 10) (.c (.int .i64 10)), none⟩])
 (.cond (.t 11)
 (.seq
 (.seq
 (.reg false [
 ⟨some 12, .mv (.t 0), none⟩,
 ⟨some 13, .bin .leq (.c (.int .i64 0)) (.t 12), none⟩,
 ⟨some 14, .mv (.t 13), none⟩,
 ⟨some 15, .mv (.t 0), some (14, true)⟩,
 ⟨some 16, .bin .lss (.t 15) (.c (.int .i64 100)), some (14, true)⟩,
 ⟨some 17, .pick (.t 14) (.t 16) (.c (.bool false)), none⟩])
 (.cond (.t 17)
 (.seq
 (.reg false [
 ⟨some 18, .mv (.t 0), none⟩,
 ⟨some 19, .pcall (.c (.fn (.f 217) [] [])) [(.t 18)], none⟩,
 ⟨some 4, .mv (.t 19), none⟩])
 .ret)
 .skip))
 (.seq
 (.reg false [
 ⟨some 5, .alloc [.int .u8 0, .int .u8 0, .int .u8 0, .int .u8 0, .int .u8 0, .int .u8 0, .int .u8 0, .int .u8 0, .int .u8 0, .int .u8 0, .int .u8 0, .int .u8 0, .int .u8 0, .int .u8 0, .int .u8 0, .int .u8 0, .int .u8 0, .int .u8 0, .int .u8 0, .int .u8 0, .int .u8 0, .int .u8 0, .int .u8 0, .int .u8 0], none⟩])
 (.seq
 (.reg false [
 ⟨some 20, .mv (.t 0), none⟩,
 ⟨some 21, .conv .u64 (.t 20), none⟩,
 ⟨some 6, .mv (.t 21), none⟩])
 (.seq
 (.seq
 (.reg false [
 ⟨some 22, .mv (.t 0), none⟩,
 ⟨some 23, .bin .lss (.t 22) (.c (.int .i64 0)), none⟩])
 (.cond (.t 23)
 (.reg false [
 ⟨some 24, .mv (.t 6), none⟩,
 ⟨some 25, .un .neg (.t 24), none⟩,
 ⟨some 6, .mv (.t 25), none⟩])
 .skip))
 (.seq
 (.reg false [
 ⟨some 26, .mv (.t 6), none⟩,
 ⟨some 27, .pcall (.c (.fn (.f 218) [] [])) [(.t 26)], none⟩,
 ⟨some 7, .mv (.t 27), none⟩])
 (.seq
 .never
 (.seq
 (.seq
 (.reg false [
 ⟨some 33, .mv (.t 0), none⟩,
 ⟨some 34, .bin .lss (.t 33) (.c (.int .i64 0)), none⟩])
 (.cond (.t 34)
 (.seq
 (.reg false [
 ⟨some 35, .iaa (.t 5) (.c (.int .i64 0)) 24 1, none⟩,
 ⟨none, .store 1 (.t 35) (.c (.int .u8 45)), none⟩])
 (.seq
 .never
 .ret))
 .skip))
 (.seq
 .never
 .ret))))))))
 .skip))
 (.seq
 (.reg false [
 ⟨some 45, .mv (.t 0), none⟩,
 ⟨some 46, .conv .u64 (.t 45), none⟩,
 ⟨some 47, .mv (.t 1), none⟩,
 ⟨some 48, .mv (.t 0), none⟩,
 ⟨some 49, .bin .lss (.t 48) (.c (.int .i64 0)), none⟩,
 ⟨some 50, .pcall (.c (.fn (.f 222) [] [])) [(.c (.zsl true)), (.t 46), (.t 47), (.t 49), (.c (.bool false))], none⟩,
 ⟨some 44, .mv (.t 50), none⟩,
 ⟨some 51, .ext (.t 44) 0, none⟩,
 ⟨some 52, .ext (.t 44) 1, none⟩,
 ⟨some 8, .mv (.t 51), none⟩,
 ⟨some 9, .mv (.t 52), none⟩])
 (.seq
 (.reg false [
 ⟨some 53, .mv (.t 9), none⟩,
 ⟨some 4, .mv (.t 53), none⟩])
 .ret)))),
 [.tmp 4]⟩

/-- strings.trimLeftASCII -/
def i210 : IFun := ⟨2, 16,
 (.seq
 (.reg false [
 ⟨some 4, .mv (.c (.str [])), none⟩])
 (.seq
 (.blk 0
 (.seq (.gh (.clr 3)) (.loop (.seq
 (.seq
 (.seq
 (.reg false [
 ⟨some 5, .mv (.t 0), none⟩,
 ⟨some 6, .len true (.t 5), none⟩,
 ⟨some 7, .bin .gtr (.t 6) (.c (.int .i64 0)), none⟩])
 (.cond (.t 7)
 .skip
 (.exit 0)))
 (.blk 1
 (.seq
 (.seq
 (.reg false [
 ⟨some 8, .mv (.t 1), none⟩,
 ⟨some 9, .mv (.t 0), none⟩,
 ⟨some 10, .ixs (.t 9) (.c (.int .i64 0)), none⟩,
 ⟨some 11, .call (.c (.fn (.f 211) [] [])) [(.t 8), (.t 10)], none⟩,
 ⟨some 12, .un .not (.t 11), none⟩])
 (.cond (.t 12)
 (.exit 0)
 .skip))
 (.reg false [
 ⟨some 13, .mv (.t 0), none⟩,
 ⟨some 14, .sls (.t 13) (some (.c (.int .i64 1))) none, none⟩,
 ⟨some 0, .mv (.t 14), none⟩]))))
 (.gh (.clr 3))))))
 (.seq
 (.reg false [
 ⟨some 15, .mv (.t 0), none⟩,
 ⟨some 4, .mv (.t 15), none⟩])
 .ret))),
 [.tmp 4]⟩

/-- (*strings.asciiSet).contains -/
def i211 : IFun := ⟨2, 10,
 (.seq
 (.reg false [
 ⟨some 4, .mv (.c (.bool false)), none⟩])
 (.seq
 (.reg false [
 ⟨some 5, .mv (.t 0), none⟩,
 ⟨some 6, .mv (.t 1), none⟩,
 ⟨some 7, .nchk (.t 5), none⟩,
 ⟨some 8, .iaa (.t 7) (.t 6) 256 1, none⟩,
 ⟨some 9, .load false 1 (.t 8), none⟩,
 ⟨some 4, .mv (.t 9), none⟩])
 .ret)),
 [.tmp 4]⟩

/-- strings.trimRightASCII -/
def i212 : IFun := ⟨2, 22,
 (.seq
 (.reg false [
 ⟨some 4, .mv (.c (.str [])), none⟩])
 (.seq
 (.blk 0
 (.seq (.gh (.clr 3)) (.loop (.seq
 (.seq
 (.seq
 (.reg false [
 ⟨some 5, .mv (.t 0), none⟩,
 ⟨some 6, .len true (.t 5), none⟩,
 ⟨some 7, .bin .gtr (.t 6) (.c (.int .i64 0)), none⟩])
 (.cond (.t 7)
 .skip
 (.exit 0)))
 (.blk 1
 (.seq
 (.seq
 (.reg false [
 ⟨some 8, .mv (.t 1), none⟩,
 ⟨some 9, .mv (.t 0), none⟩,
 ⟨some 10, .mv (.t 0), none⟩,
 ⟨some 11, .len true (.t 10), none⟩,
 ⟨some 12, .bin .sub (.t 11) (.c (.int .i64 1)), none⟩,
 ⟨some 13, .ixs (.t 9) (.t 12), none⟩,
 ⟨some 14, .call (.c (.fn (.f 211) [] [])) [(.t 8), (.t 13)], none⟩,
 ⟨some 15, .un .not (.t 14), none⟩])
 (.cond (.t 15)
 (.exit 0)
 .skip))
 (.reg false [
 ⟨some 16, .mv (.t 0), none⟩,
 ⟨some 17, .mv (.t 0), none⟩,
 ⟨some 18, .len true (.t 17), none⟩,
 ⟨some 19, .bin .sub (.t 18) (.c (.int .i64 1)), none⟩,
 ⟨some 20, .sls (.t 16) none (some (.t 19)), none⟩,
 ⟨some 0, .mv (.t 20), none⟩]))))
 (.gh (.clr 3))))))
 (.seq
 (.reg false [
 ⟨some 21, .mv (.t 0), none⟩,
 ⟨some 4, .mv (.t 21), none⟩])
 .ret))),
 [.tmp 4]⟩

/-- strings.trimLeftUnicode -/
def i213 : IFun := ⟨2, 23,
 (.seq
 (.reg false [
 ⟨some 4, .mv (.c (.str [])), none⟩])
 (.seq
 (.blk 0
 (.seq (.gh (.clr 3)) (.loop (.seq
 (.seq
 (.seq
 (.reg false [
 ⟨some 7, .mv (.t 0), none⟩,
 ⟨some 8, .len true (.t 7), none⟩,
 ⟨some 9, .bin .gtr (.t 8) (.c (.int .i64 0)), none⟩])
 (.cond (.t 9)
 .skip
 (.exit 0)))
 (.blk 1
 (.seq
 (.reg false [
 ⟨some 11, .mv (.t 0), none⟩,
 ⟨some 12, .pcall (.c (.fn (.f 162) [] [])) [(.t 11)], none⟩,
 ⟨some 10, .mv (.t 12), none⟩,
 ⟨some 13, .ext (.t 10) 0, none⟩,
 ⟨some 14, .ext (.t 10) 1, none⟩,
 ⟨some 5, .mv (.t 13), none⟩,
 ⟨some 6, .mv (.t 14), none⟩])
 (.seq
 (.seq
 (.reg false [
 ⟨some 15, .mv (.t 1), none⟩,
 ⟨some 16, .mv (.t 5), none⟩,
 ⟨some 17, .pcall (.c (.fn (.f 214) [] [])) [(.t 15), (.t 16)], none⟩,
 ⟨some 18, .un .not (.t 17), none⟩])
 (.cond (.t 18)
 (.exit 0)
 .skip))
 (.reg false [
 ⟨some 19, .mv (.t 0), none⟩,
 ⟨some 20, .mv (.t 6), none⟩,
 ⟨some 21, .sls (.t 19) (some (.t 20)) none, none⟩,
 ⟨some 0, .mv (.t 21), none⟩])))))
 (.gh (.clr 3))))))
 (.seq
 (.reg false [
 ⟨some 22, .mv (.t 0), none⟩,
 ⟨some 4, .mv (.t 22), none⟩])
 .ret))),
 [.tmp 4]⟩

/-- strings.ContainsRune -/
def i214 : IFun := ⟨2, 9,
 (.seq
 (.reg false [
 ⟨some 4, .mv (.c (.bool false)), none⟩])
 (.seq
 (.reg false [
 ⟨some 5, .mv (.t 0), none⟩,
 ⟨some 6, .mv (.t 1), none⟩,
 ⟨some 7, .pcall (.c (.fn (.f 219) [] [])) [(.t 5), (.t 6)], none⟩,
 ⟨some 8, .bin .geq (.t 7) (.c (.int .i64 0)), none⟩,
 ⟨some 4, .mv (.t 8), none⟩])
 .ret)),
 [.tmp 4]⟩

/-- strings.trimRightUnicode -/
def i215 : IFun := ⟨2, 34,
 (.seq
 (.reg false [
 ⟨some 4, .mv (.c (.str [])), none⟩])
 (.seq
 (.blk 0
 (.seq (.gh (.clr 3)) (.loop (.seq
 (.seq
 (.seq
 (.reg false [
 ⟨some 7, .mv (.t 0), none⟩,
 ⟨some 8, .len true (.t 7), none⟩,
 ⟨some 9, .bin .gtr (.t 8) (.c (.int .i64 0)), none⟩])
 (.cond (.t 9)
 .skip
 (.exit 0)))
 (.blk 1
 (.seq
 (.reg false [
 ⟨some 10, .mv (.t 0), none⟩,
 ⟨some 11, .mv (.t 0), none⟩,
 ⟨some 12, .len true (.t 11), none⟩,
 ⟨some 13, .bin .sub (.t 12) (.c (.int .i64 1)), none⟩,
 ⟨some 14, .ixs (.t 10) (.t 13), none⟩,
 ⟨some 15, .conv .i32 (.t 14), none⟩,
 ⟨some 5, .mv (.t 15), none⟩,
 ⟨some 6, .mv (.c (.int .i64 1)), none⟩])
 (.seq
 (.seq
 (.reg false [
 ⟨some 16, .mv (.t 5), none⟩,
 ⟨some 17, .bin .geq (.t 16) (.c (.int .i32 128)), none⟩])
 (.cond (.t 17)
 (.reg false [
 ⟨some 19, .mv (.t 0), none⟩,
 ⟨some 20, .pcall (.c (.fn (.f 216) [] [])) [(.t 19)], none⟩,
 ⟨some 18, .mv (.t 20), none⟩,
 ⟨some 21, .ext (.t 18) 0, none⟩,
 ⟨some 22, .ext (.t 18) 1, none⟩,
 ⟨some 5, .mv (.t 21), none⟩,
 ⟨some 6, .mv (.t 22), none⟩])
 .skip))
 (.seq
 (.seq
 (.reg false [
 ⟨some 23, .mv (.t 1), none⟩,
 ⟨some 24, .mv (.t 5), none⟩,
 ⟨some 25, .pcall (.c (.fn (.f 214) [] [])) [(.t 23), (.t 24)], none⟩,
 ⟨some 26, .un .not (.t 25), none⟩])
 (.cond (.t 26)
 (.exit 0)
 .skip))
 (.reg false [
 ⟨some 27, .mv (.t 0), none⟩,
 ⟨some 28, .mv (.t 0), none⟩,
 ⟨some 29, .len true (.t 28), none⟩,
 ⟨some 30, .mv (.t 6), none⟩,
 ⟨some 31, .bin .sub (.t 29) (.t 30), none⟩,
 ⟨some 32, .sls (.t 27) none (some (.t 31)), none⟩,
 ⟨some 0, .mv (.t 32), none⟩]))))))
 (.gh (.clr 3))))))
 (.seq
 (.reg false [
 ⟨some 33, .mv (.t 0), none⟩,
 ⟨some 4, .mv (.t 33), none⟩])
 .ret))),
 [.tmp 4]⟩

/-- unicode/utf8.DecodeLastRuneInString -/
def i216 : IFun := ⟨1, 51,
 (.seq
 (.reg false [
 ⟨some 2, .mv (.c (.int .i32 0)), none⟩,
 ⟨some 3, .mv (.c (.int .i64 0)), none⟩])
 (.seq
 (.reg false [
 ⟨some 7, .mv (.t 0), none⟩,
 ⟨some 8, .len true (.t 7), none⟩,
 ⟨some 4, .mv (.t 8), none⟩])
 (.seq
 (.seq
 (.reg false [
 ⟨some 9, .mv (.t 4), none⟩,
 ⟨some 10, .bin .eql (.t 9) (.c (.int .i64 0)), none⟩])
 (.cond (.t 10)
 (.seq
 (.reg false [
 ⟨some 2, .mv (.c (.int .i32 65533)), none⟩,
 ⟨some 3, .mv (.c (.int .i64 0)), none⟩])
 .ret)
 .skip))
 (.seq
 (.reg false [
 ⟨some 11, .mv (.t 4), none⟩,
 ⟨some 12, .bin .sub (.t 11) (.c (.int .i64 1)), none⟩,
 ⟨some 5, .mv (.t 12), none⟩])
 (.seq
 (.reg false [
 ⟨some 13, .mv (.t 0), none⟩,
 ⟨some 14, .mv (.t 5), none⟩,
 ⟨some 15, .ixs (.t 13) (.t 14), none⟩,
 ⟨some 16, .conv .i32 (.t 15), none⟩,
 ⟨some 2, .mv (.t 16), none⟩])
 (.seq
 (.seq
 (.reg false [
 ⟨some 17, .mv (.t 2), none⟩,
 ⟨some 18, .bin .lss (.t 17) (.c (.int .i32 128)), none⟩])
 (.cond (.t 18)
 (.seq
 (.reg false [
 ⟨some 19, .mv (.t 2), none⟩,
 ⟨some 2, .mv (.t 19), none⟩,
 ⟨some 3, .mv (.c (.int .i64 1)), none⟩])
 .ret)
 .skip))
 (.seq
 (.reg false [
 ⟨some 20, .mv (.t 4), none⟩,
 ⟨some 21, .bin .sub (.t 20) (.c (.int .i64 4)), none⟩,
 ⟨some 22, .max2 (.t 21) (.c (.int .i64 0)), none⟩,
 ⟨some 6, .mv (.t 22), none⟩])
 (.seq
 (.seq
 (.reg false [
 ⟨some 23, .mv (.t 5), none⟩,
 ⟨some 24, .bin .sub (.t 23) (.c (.int .i64 1)), none⟩,
 ⟨some 5, .mv (.t 24), none⟩])
 (.blk 0
 (.seq (.gh (.clr 113)) (.loop (.seq
 (.seq
 (.seq
 (.reg false [
 ⟨some 25, .mv (.t 5), none⟩,
 ⟨some 26, .mv (.t 6), none⟩,
 ⟨some 27, .bin .geq (.t 25) (.t 26), none⟩])
 (.cond (.t 27)
 .skip
 (.exit 0)))
 (.seq
 (.blk 1
 (.seq
 (.reg false [
 ⟨some 30, .mv (.t 0), none⟩,
 ⟨some 31, .mv (.t 5), none⟩,
 ⟨some 32, .ixs (.t 30) (.t 31), none⟩,
 ⟨some 33, .pcall (.c (.fn (.f 223) [] [])) [(.t 32)], none⟩])
 (.cond (.t 33)
 (.exit 0)
 .skip)))
 (.reg false [
 ⟨some 28, .mv (.t 5), none⟩,
 ⟨some 29, .bin .sub (.t 28) (.c (.int .i64 1)), none⟩,
 ⟨some 5, .mv (.t 29), none⟩])))
 (.gh (.clr 113)))))))
 (.seq
 (.seq
 (.reg false [
 ⟨some 34, .mv (.t 5), none⟩,
 ⟨some 35, .bin .lss (.t 34) (.c (.int .i64 0)), none⟩])
 (.cond (.t 35)
 (.reg false [
 ⟨some 5, .mv (.c (.int .i64 0)), none⟩])
 .skip))
 (.seq
 (.reg false [
 ⟨some 37, .mv (.t 0), none⟩,
 ⟨some 38, .mv (.t 5), none⟩,
 ⟨some 39, .mv (.t 4), none⟩,
 ⟨some 40, .sls (.t 37) (some (.t 38)) (some (.t 39)), none⟩,
 ⟨some 41, .pcall (.c (.fn (.f 162) [] [])) [(.t 40)], none⟩,
 ⟨some 36, .mv (.t 41), none⟩,
 ⟨some 42, .ext (.t 36) 0, none⟩,
 ⟨some 43, .ext (.t 36) 1, none⟩,
 ⟨some 2, .mv (.t 42), none⟩,
 ⟨some 3, .mv (.t 43), none⟩])
 (.seq
 (.seq
 (.reg false [
 ⟨some 44, .mv (.t 5), none⟩,
 ⟨some 45, .mv (.t 3), none⟩,
 ⟨some 46, .bin .add (.t 44) (.t 45), none⟩,
 ⟨some 47, .mv (.t 4), none⟩,
 ⟨some 48, .bin .neq (.t 46) (.t 47), none⟩])
 (.cond (.t 48)
 (.seq
 (.reg false [
 ⟨some 2, .mv (.c (.int .i32 65533)), none⟩,
 ⟨some 3, .mv (.c (.int .i64 1)), none⟩])
 .ret)
 .skip))
 (.seq
 (.reg false [
 ⟨some 49, .mv (.t 2), none⟩,
 ⟨some 50, .mv (.t 3), none⟩,
 ⟨some 2, .mv (.t 49), none⟩,
 ⟨some 3, .mv (.t 50), none⟩])
 .ret)))))))))))),
 [.tmp 2, .tmp 3]⟩

/-- internal/strconv.small -/
def i217 : IFun := ⟨1, 15,
 (.seq
 (.reg false [
 ⟨some 2, .mv (.c (.str [])), none⟩])
 (.seq
 (.seq
 (.reg false [
 ⟨some 3, .mv (.t 0), none⟩,
 ⟨some 4, .bin .lss (.t 3) (.c (.int .i64 10)), none⟩])
 (.cond (.t 4)
 (.seq
 (.reg false [
 ⟨some 5, .mv (.t 0), none⟩,
 ⟨some 6, .mv (.t 0), none⟩,
 ⟨some 7, .bin .add (.t 6) (.c (.int .i64 1)), none⟩,
 ⟨some 8, .sls (.c (.str [48, 49, 50, 51, 52, 53, 54, 55, 56, 57, 97, 98, 99, 100, 101, 102, 103, 104, 105, 106, 107, 108, 109, 110, 111, 112, 113, 114, 115, 116, 117, 118, 119, 120, 121, 122])) (some (.t 5)) (some (.t 7)), none⟩,
 ⟨some 2, .mv (.t 8), none⟩])
 .ret)
 .skip))
 (.seq
 (.reg false [
 ⟨some 9, .mv (.t 0), none⟩,
 ⟨some 10, .bin .mul (.t 9) (.c (.int .i64 2)), none⟩,
 ⟨some 11, .mv (.t 0), none⟩,
 ⟨some 12, .bin .mul (.t 11) (.c (.int .i64 2)), none⟩,
 ⟨some 13, .bin .add (.t 12) (.c (.int .i64 2)), none⟩,
 ⟨some 14, .sls (.c (.str [48, 48, 48, 49, 48, 50, 48, 51, 48, 52, 48, 53, 48, 54, 48, 55, 48, 56, 48, 57, 49, 48, 49, 49, 49, 50, 49, 51, 49, 52, 49, 53, 49, 54, 49, 55, 49, 56, 49, 57, 50, 48, 50, 49, 50, 50, 50, 51, 50, 52, 50, 53, 50, 54, 50, 55, 50, 56, 50, 57, 51, 48, 51, 49, 51, 50, 51, 51, 51, 52, 51, 53, 51, 54, 51, 55, 51, 56, 51, 57, 52, 48, 52, 49, 52, 50, 52, 51, 52, 52, 52, 53, 52, 54, 52, 55, 52, 56, 52, 57, 53, 48, 53, 49, 53, 50, 53, 51, 53, 52, 53, 53, 53, 54, 53, 55, 53, 56, 53, 57, 54, 48, 54, 49, 54, 50, 54, 51, 54, 52, 54, 53, 54, 54, 54, 55, 54, 56, 54, 57, 55, 48, 55, 49, 55, 50, 55, 51, 55, 52, 55, 53, 55, 54, 55, 55, 55, 56, 55, 57, 56, 48, 56, 49, 56, 50, 56, 51, 56, 52, 56, 53, 56, 54, 56, 55, 56, 56, 56, 57, 57, 48, 57, 49, 57, 50, 57, 51, 57, 52, 57, 53, 57, 54, 57, 55, 57, 56, 57, 57])) (some (.t 10)) (some (.t 13)), none⟩,
 ⟨some 2, .mv (.t 14), none⟩])
 .ret))),
 [.tmp 2]⟩

/-- internal/strconv.numDigits -/
def i218 : IFun := ⟨1, 15,
 (.seq
 (.reg false [
 ⟨some 2, .mv (.c (.int .i64 0)), none⟩])
 (.seq
 (.reg false [
 ⟨some 4, .mv (.t 0), none⟩,
 ⟨some 5, .pcall (.c (.fn (.f 80) [] [])) [(.t 4)], none⟩,
 ⟨some 6, .pcall (.c (.fn (.f 220) [] [])) [(.t 5)], none⟩,
 ⟨some 3, .mv (.t 6), none⟩])
 (.seq
 .never
 .ret))),
 [.tmp 2]⟩

/-- strings.IndexRune -/
def i219 : IFun := ⟨2, 187,
 (.seq
 (.reg false [
 ⟨some 4, .mv (.c (.int .i64 0)), none⟩])
 (.blk 0
 (.seq
 (.reg false [
 ⟨some 161, .mv (.t 1), none⟩,
 ⟨some 162, .bin .leq (.c (.int .i32 0)) (.t 161), none⟩,
 ⟨some 163, .mv (.t 162), none⟩,
 ⟨some 164, .mv (.t 1), some (163, true)⟩,
 ⟨some 165, .bin .lss (.t 164) (.c (.int .i32 128)), some (163, true)⟩,
 ⟨some 166, .pick (.t 163) (.t 165) (.c (.bool false)), none⟩,
 ⟨some 160, .mv (.t 166), none⟩])
 (.cond (.t 160)
 (.seq
 (.reg false [
 ⟨some 167, .mv (.t 0), none⟩,
 ⟨some 168, .mv (.t 1), none⟩,
 ⟨some 169, .conv .u8 (.t 168), none⟩,
 ⟨some 170, .pcall (.c (.fn (.f 136) [] [])) [(.t 167), (.t 169)], none⟩,
 ⟨some 4, .mv (.t 170), none⟩])
 .ret)
 (.seq
 (.reg false [
 ⟨some 172, .mv (.t 1), none⟩,
 ⟨some 173, .bin .eql (.t 172) (.c (.int .i32 65533)), none⟩,
 ⟨some 171, .mv (.t 173), none⟩])
 (.cond (.t 171)
 (.seq
 (.seq
 (.reg false [
 ⟨some 174, .mv (.t 0), none⟩,
 ⟨some 175, .srange (.t 174), none⟩])
 (.blk 9
 (.seq (.gh (.clr 47890485652059026823698344598447161988085597568237568)) (.loop (.seq
 (.seq
 (.reg false [
 ⟨some 176, .snext (.t 175), none⟩,
 ⟨some 177, .ext (.t 176) 0, none⟩])
 (.seq
 (.cond (.t 177)
 .skip
 (.exit 9))
 (.blk 10
 (.seq
 (.reg false [
 ⟨some 178, .ext (.t 176) 1, none⟩,
 ⟨some 179, .ext (.t 176) 2, none⟩,
 ⟨some 5, .mv (.t 178), none⟩,
 ⟨some 6, .mv (.t 179), none⟩])
 (.seq
 (.reg false [
 ⟨some 180, .mv (.t 6), none⟩,
 ⟨some 181, .bin .eql (.t 180) (.c (.int .i32 65533)), none⟩])
 (.cond (.t 181)
 (.seq
 (.reg false [
 ⟨some 182, .mv (.t 5), none⟩,
 ⟨some 4, .mv (.t 182), none⟩])
 .ret)
 .skip))))))
 (.gh (.clr 47890485652059026823698344598447161988085597568237568)))))))
 (.seq
 (.reg false [
 ⟨some 4, .mv (.c (.int .i64 (-1))), none⟩])
 .ret))
 (.seq
 (.reg false [
 ⟨some 184, .mv (.t 1), none⟩,
 ⟨some 185, .pcall (.c (.fn (.f 229) [] [])) [(.t 184)], none⟩,
 ⟨some 186, .un .not (.t 185), none⟩,
 ⟨some 183, .mv (.t 186), none⟩])
 (.cond (.t 183)
 (.seq
 (.reg false [
 ⟨some 4, .mv (.c (.int .i64 (-1))), none⟩])
 .ret)
 (.scope
 (.seq
 .never
 (.seq
 (.reg false [
 ⟨some 19, .mv (.t 7), none⟩,
 ⟨some 20, .len true (.t 19), none⟩,
 ⟨some 21, .bin .sub (.t 20) (.c (.int .i64 1)), none⟩,
 ⟨some 8, .mv (.t 21), none⟩])
 (.seq
 (.reg false [
 ⟨some 22, .mv (.t 8), none⟩,
 ⟨some 9, .mv (.t 22), none⟩])
 (.seq
 (.reg false [
 ⟨some 10, .mv (.c (.int .i64 0)), none⟩])
 (.seq
 (.blk 1
 (.seq (.gh (.clr 897)) (.loop (.seq
 (.seq
 (.seq
 (.reg false [
 ⟨some 23, .mv (.t 9), none⟩,
 ⟨some 24, .mv (.t 0), none⟩,
 ⟨some 25, .len true (.t 24), none⟩,
 ⟨some 26, .bin .lss (.t 23) (.t 25), none⟩])
 (.cond (.t 26)
 .skip
 (.exit 1)))
 (.blk 2
 (.scope
 (.seq
 (.seq
 (.reg true [
 ⟨some 27, .mv (.t 0), none⟩,
 ⟨some 28, .mv (.t 9), none⟩,
 ⟨some 29, .ixs (.t 27) (.t 28), none⟩,
 ⟨some 30, .mv (.t 7), none⟩,
 ⟨some 31, .mv (.t 8), none⟩,
 ⟨some 32, .ixs (.t 30) (.t 31), none⟩,
 ⟨some 33, .bin .neq (.t 29) (.t 32), none⟩])
 (.cond (.t 33)
 (.seq
 (.reg true [
 ⟨some 34, .mv (.t 0), none⟩,
 ⟨some 35, .mv (.t 9), none⟩,
 ⟨some 36, .bin .add (.t 35) (.c (.int .i64 1)), none⟩,
 ⟨some 37, .sls (.t 34) (some (.t 36)) none, none⟩,
 ⟨some 38, .mv (.t 7), none⟩,
 ⟨some 39, .mv (.t 8), none⟩,
 ⟨some 40, .ixs (.t 38) (.t 39), none⟩,
 ⟨some 41, .pcall (.c (.fn (.f 136) [] [])) [(.t 37), (.t 40)], none⟩,
 ⟨some 11, .mv (.t 41), none⟩])
 (.seq
 (.seq
 (.reg false [
 ⟨some 42, .mv (.t 11), none⟩,
 ⟨some 43, .bin .lss (.t 42) (.c (.int .i64 0)), none⟩])
 (.cond (.t 43)
 (.seq
 (.reg false [
 ⟨some 4, .mv (.c (.int .i64 (-1))), none⟩])
 .ret)
 .skip))
 (.reg false [
 ⟨some 44, .mv (.t 9), none⟩,
 ⟨some 45, .mv (.t 11), none⟩,
 ⟨some 46, .bin .add (.t 45) (.c (.int .i64 1)), none⟩,
 ⟨some 47, .bin .add (.t 44) (.t 46), none⟩,
 ⟨some 9, .mv (.t 47), none⟩])))
 .skip))
 (.seq
 (.seq
 (.reg false [
 ⟨some 12, .mv (.c (.int .i64 1)), none⟩])
 (.blk 3
 (.seq (.gh (.clr 4993)) (.loop (.seq
 (.seq
 (.seq
 (.reg false [
 ⟨some 48, .mv (.t 12), none⟩,
 ⟨some 49, .mv (.t 7), none⟩,
 ⟨some 50, .len true (.t 49), none⟩,
 ⟨some 51, .bin .lss (.t 48) (.t 50), none⟩])
 (.cond (.t 51)
 .skip
 (.exit 3)))
 (.seq
 (.blk 4
 (.seq
 (.reg true [
 ⟨some 54, .mv (.t 0), none⟩,
 ⟨some 55, .mv (.t 9), none⟩,
 ⟨some 56, .mv (.t 12), none⟩,
 ⟨some 57, .bin .sub (.t 55) (.t 56), none⟩,
 ⟨some 58, .ixs (.t 54) (.t 57), none⟩,
 ⟨some 59, .mv (.t 7), none⟩,
 ⟨some 60, .mv (.t 8), none⟩,
 ⟨some 61, .mv (.t 12), none⟩,
 ⟨some 62, .bin .sub (.t 60) (.t 61), none⟩,
 ⟨some 63, .ixs (.t 59) (.t 62), none⟩,
 ⟨some 64, .bin .neq (.t 58) (.t 63), none⟩])
 (.cond (.t 64)
 .never
 .skip)))
 (.reg false [
 ⟨some 52, .mv (.t 12), none⟩,
 ⟨some 53, .bin .add (.t 52) (.c (.int .i64 1)), none⟩,
 ⟨some 12, .mv (.t 53), none⟩])))
 (.gh (.clr 4993)))))))
 (.seq
 (.seq
 (.reg false [
 ⟨some 65, .mv (.t 9), none⟩,
 ⟨some 66, .mv (.t 8), none⟩,
 ⟨some 67, .bin .sub (.t 65) (.t 66), none⟩,
 ⟨some 4, .mv (.t 67), none⟩])
 .ret)
 (.seq
 .skip
 (.seq
 (.reg false [
 ⟨some 68, .mv (.t 10), none⟩,
 ⟨some 69, .bin .add (.t 68) (.c (.int .i64 1)), none⟩,
 ⟨some 10, .mv (.t 69), none⟩])
 (.seq
 (.reg false [
 ⟨some 70, .mv (.t 9), none⟩,
 ⟨some 71, .bin .add (.t 70) (.c (.int .i64 1)), none⟩,
 ⟨some 9, .mv (.t 71), none⟩])
 (.seq
 (.reg false [
 ⟨some 72, .mv (.c (.bool true)), none⟩,
 ⟨some 73, .mv (.t 10), some (72, true)⟩,
 ⟨some 74, .mv (.t 9), some (72, true)⟩,
 ⟨some 75, .pcall (.c (.fn (.f 204) [] [])) [(.t 74)], some (72, true)⟩,
 ⟨some 76, .bin .gtr (.t 73) (.t 75), some (72, true)⟩,
 ⟨some 77, .pick (.t 72) (.t 76) (.c (.bool false)), none⟩,
 ⟨some 78, .mv (.t 77), none⟩,
 ⟨some 79, .mv (.t 9), some (78, true)⟩,
 ⟨some 80, .mv (.t 0), some (78, true)⟩,
 ⟨some 81, .len true (.t 80), some (78, true)⟩,
 ⟨some 82, .bin .lss (.t 79) (.t 81), some (78, true)⟩,
 ⟨some 83, .pick (.t 78) (.t 82) (.c (.bool false)), none⟩,
 ⟨some 84, .mv (.t 83), none⟩,
 ⟨some 85, .mv (.c (.bool false)), some (84, false)⟩,
 ⟨some 86, .mv (.t 10), some (85, true)⟩,
 ⟨some 87, .mv (.t 9), some (85, true)⟩,
 ⟨some 88, .bin .shr (.t 87) (.c (.int .u64 4)), some (85, true)⟩,
 ⟨some 89, .bin .add (.c (.int .i64 4)) (.t 88), some (85, true)⟩,
 ⟨some 90, .bin .geq (.t 86) (.t 89), some (85, true)⟩,
 ⟨some 91, .pick (.t 85) (.t 90) (.c (.bool false)), some (84, false)⟩,
 ⟨some 92, .mv (.t 91), some (84, false)⟩,
 ⟨some 93, .mv (.t 9), some (92, true)⟩,
 ⟨some 94, .mv (.t 0), some (92, true)⟩,
 ⟨some 95, .len true (.t 94), some (92, true)⟩,
 ⟨some 96, .bin .lss (.t 93) (.t 95), some (92, true)⟩,
 ⟨some 97, .pick (.t 92) (.t 96) (.c (.bool false)), some (84, false)⟩,
 ⟨some 98, .pick (.t 84) (.c (.bool true)) (.t 97), none⟩])
 (.cond (.t 98)
 .never
 .skip)))))))))))
 (.gh (.clr 897))))))
 (.seq
 (.seq
 (.reg false [
 ⟨some 4, .mv (.c (.int .i64 (-1))), none⟩])
 .ret)
 (.seq
 .skip
 (.seq
 (.cond (.c (.bool true))
 (.seq
 .never
 (.seq
 (.reg false [
 ⟨some 107, .mv (.t 13), none⟩,
 ⟨some 108, .bin .geq (.t 107) (.c (.int .i64 0)), none⟩])
 (.cond (.t 108)
 (.seq
 (.reg false [
 ⟨some 109, .mv (.t 9), none⟩,
 ⟨some 110, .mv (.t 13), none⟩,
 ⟨some 111, .bin .add (.t 109) (.t 110), none⟩,
 ⟨some 112, .mv (.t 8), none⟩,
 ⟨some 113, .bin .sub (.t 111) (.t 112), none⟩,
 ⟨some 4, .mv (.t 113), none⟩])
 .ret)
 .skip)))
 (.scope
 (.seq
 (.reg false [
 ⟨some 114, .mv (.t 7), none⟩,
 ⟨some 115, .mv (.t 8), none⟩,
 ⟨some 116, .ixs (.t 114) (.t 115), none⟩,
 ⟨some 14, .mv (.t 116), none⟩])
 (.seq
 (.reg false [
 ⟨some 117, .mv (.t 7), none⟩,
 ⟨some 118, .mv (.t 8), none⟩,
 ⟨some 119, .bin .sub (.t 118) (.c (.int .i64 1)), none⟩,
 ⟨some 120, .ixs (.t 117) (.t 119), none⟩,
 ⟨some 15, .mv (.t 120), none⟩])
 (.seq
 .skip
 (.blk 5
 (.seq (.gh (.clr 50049)) (.loop (.seq
 (.seq
 (.seq
 (.reg false [
 ⟨some 121, .mv (.t 9), none⟩,
 ⟨some 122, .mv (.t 0), none⟩,
 ⟨some 123, .len true (.t 122), none⟩,
 ⟨some 124, .bin .lss (.t 121) (.t 123), none⟩])
 (.cond (.t 124)
 .skip
 (.exit 5)))
 (.seq
 (.blk 6
 (.seq
 (.reg false [
 ⟨some 127, .mv (.t 0), none⟩,
 ⟨some 128, .mv (.t 9), none⟩,
 ⟨some 129, .ixs (.t 127) (.t 128), none⟩,
 ⟨some 130, .mv (.t 14), none⟩,
 ⟨some 131, .bin .eql (.t 129) (.t 130), none⟩,
 ⟨some 132, .mv (.t 131), none⟩,
 ⟨some 133, .mv (.t 0), some (132, true)⟩,
 ⟨some 134, .mv (.t 9), some (132, true)⟩,
 ⟨some 135, .bin .sub (.t 134) (.c (.int .i64 1)), some (132, true)⟩,
 ⟨some 136, .ixs (.t 133) (.t 135), some (132, true)⟩,
 ⟨some 137, .mv (.t 15), some (132, true)⟩,
 ⟨some 138, .bin .eql (.t 136) (.t 137), some (132, true)⟩,
 ⟨some 139, .pick (.t 132) (.t 138) (.c (.bool false)), none⟩])
 (.cond (.t 139)
 (.seq
 (.seq
 (.reg false [
 ⟨some 16, .mv (.c (.int .i64 2)), none⟩])
 (.blk 7
 (.seq (.gh (.clr 115585)) (.loop (.seq
 (.seq
 (.seq
 (.reg false [
 ⟨some 140, .mv (.t 16), none⟩,
 ⟨some 141, .mv (.t 7), none⟩,
 ⟨some 142, .len true (.t 141), none⟩,
 ⟨some 143, .bin .lss (.t 140) (.t 142), none⟩])
 (.cond (.t 143)
 .skip
 (.exit 7)))
 (.seq
 (.blk 8
 (.seq
 (.reg true [
 ⟨some 146, .mv (.t 0), none⟩,
 ⟨some 147, .mv (.t 9), none⟩,
 ⟨some 148, .mv (.t 16), none⟩,
 ⟨some 149, .bin .sub (.t 147) (.t 148), none⟩,
 ⟨some 150, .ixs (.t 146) (.t 149), none⟩,
 ⟨some 151, .mv (.t 7), none⟩,
 ⟨some 152, .mv (.t 8), none⟩,
 ⟨some 153, .mv (.t 16), none⟩,
 ⟨some 154, .bin .sub (.t 152) (.t 153), none⟩,
 ⟨some 155, .ixs (.t 151) (.t 154), none⟩,
 ⟨some 156, .bin .neq (.t 150) (.t 155), none⟩])
 (.cond (.t 156)
 (.exit 6)
 .skip)))
 (.reg false [
 ⟨some 144, .mv (.t 16), none⟩,
 ⟨some 145, .bin .add (.t 144) (.c (.int .i64 1)), none⟩,
 ⟨some 16, .mv (.t 145), none⟩])))
 (.gh (.clr 115585)))))))
 (.seq
 (.reg false [
 ⟨some 157, .mv (.t 9), none⟩,
 ⟨some 158, .mv (.t 8), none⟩,
 ⟨some 159, .bin .sub (.t 157) (.t 158), none⟩,
 ⟨some 4, .mv (.t 159), none⟩])
 .ret))
 .skip)))
 (.reg false [
 ⟨some 125, .mv (.t 9), none⟩,
 ⟨some 126, .bin .add (.t 125) (.c (.int .i64 1)), none⟩,
 ⟨some 9, .mv (.t 126), none⟩])))
 (.gh (.clr 50049)))))))))))
 (.seq
 (.reg false [
 ⟨some 4, .mv (.c (.int .i64 (-1))), none⟩])
 .ret)))))))))))))))))),
 [.tmp 4]⟩

/-- internal/strconv.log10Pow2 -/
def i220 : IFun := ⟨1, 6,
 (.seq
 (.reg false [
 ⟨some 2, .mv (.c (.int .i64 0)), none⟩])
 (.seq
 (.reg false [
 ⟨some 3, .mv (.t 0), none⟩,
 ⟨some 4, .bin .mul (.t 3) (.c (.int .i64 78913)), none⟩,
 ⟨some 5, .bin .shr (.t 4) (.c (.int .u64 18)), none⟩,
 ⟨some 2, .mv (.t 5), none⟩])
 .ret)),
 [.tmp 2]⟩

/-- internal/strconv.formatBits -/
def i222 : IFun := ⟨5, 102,
 (.seq
 (.reg false [
 ⟨some 10, .mv (.c (.zsl true)), none⟩,
 ⟨some 11, .mv (.c (.str [])), none⟩])
 (.seq
 (.seq
 (.reg false [
 ⟨some 19, .mv (.t 2), none⟩,
 ⟨some 20, .bin .lss (.t 19) (.c (.int .i64 2)), none⟩,
 ⟨some 21, .mv (.t 20), none⟩,
 ⟨some 22, .mv (.t 2), some (21, false)⟩,
 ⟨some 23, .bin .eql (.t 22) (.c (.int .i64 10)), some (21, false)⟩,
 ⟨some 24, .pick (.t 21) (.c (.bool true)) (.t 23), none⟩,
 ⟨some 25, .mv (.t 24), none⟩,
 ⟨some 26, .mv (.t 2), some (25, false)⟩,
 ⟨some 27, .bin .gtr (.t 26) (.c (.int .i64 36)), some (25, false)⟩,
 ⟨some 28, .pick (.t 25) (.c (.bool true)) (.t 27), none⟩])
 (.cond (.t 28)
 .never
 .skip))
 (.seq
 .never
 (.seq
 (.reg false [
 ⟨some 13, .mv (.c (.int .i64 65)), none⟩])
 (.seq
 (.seq
 (.reg false [
 ⟨some 30, .mv (.t 3), none⟩])
 (.cond (.t 30)
 (.reg false [
 ⟨some 31, .mv (.t 1), none⟩,
 ⟨some 32, .un .neg (.t 31), none⟩,
 ⟨some 1, .mv (.t 32), none⟩])
 .skip))
 (.seq
 (.seq
 (.reg false [
 ⟨some 33, .mv (.t 2), none⟩,
 ⟨some 34, .pcall (.c (.fn (.f 225) [] [])) [(.t 33)], none⟩])
 (.cond (.t 34)
 (.seq
 (.reg false [
 ⟨some 35, .mv (.t 2), none⟩,
 ⟨some 36, .conv .u64 (.t 35), none⟩,
 ⟨some 37, .pcall (.c (.fn (.f 226) [] [])) [(.t 36)], none⟩,
 ⟨some 38, .conv .u64 (.t 37), none⟩,
 ⟨some 14, .mv (.t 38), none⟩])
 (.seq
 (.reg false [
 ⟨some 39, .mv (.t 2), none⟩,
 ⟨some 40, .conv .u64 (.t 39), none⟩,
 ⟨some 15, .mv (.t 40), none⟩])
 (.seq
 (.reg false [
 ⟨some 41, .mv (.t 2), none⟩,
 ⟨some 42, .conv .u64 (.t 41), none⟩,
 ⟨some 43, .bin .sub (.t 42) (.c (.int .u64 1)), none⟩,
 ⟨some 16, .mv (.t 43), none⟩])
 (.seq
 (.blk 0
 (.seq (.gh (.clr 130075)) (.loop (.seq
 (.seq
 (.seq
 (.reg false [
 ⟨some 44, .mv (.t 1), none⟩,
 ⟨some 45, .mv (.t 15), none⟩,
 ⟨some 46, .bin .geq (.t 44) (.t 45), none⟩])
 (.cond (.t 46)
 .skip
 (.exit 0)))
 (.blk 1
 (.seq
 (.reg false [
 ⟨some 47, .mv (.t 13), none⟩,
 ⟨some 48, .bin .sub (.t 47) (.c (.int .i64 1)), none⟩,
 ⟨some 13, .mv (.t 48), none⟩])
 (.seq
 (.reg false [
 ⟨some 49, .mv (.t 13), none⟩,
 ⟨some 50, .mv (.t 1), none⟩,
 ⟨some 51, .mv (.t 16), none⟩,
 ⟨some 52, .bin .and (.t 50) (.t 51), none⟩,
 ⟨some 53, .ixs (.c (.str [48, 49, 50, 51, 52, 53, 54, 55, 56, 57, 97, 98, 99, 100, 101, 102, 103, 104, 105, 106, 107, 108, 109, 110, 111, 112, 113, 114, 115, 116, 117, 118, 119, 120, 121, 122])) (.t 52), none⟩,
 ⟨some 54, .iaa (.t 12) (.t 49) 65 1, none⟩,
 ⟨none, .store 1 (.t 54) (.t 53), none⟩])
 (.reg false [
 ⟨some 55, .mv (.t 1), none⟩,
 ⟨some 56, .mv (.t 14), none⟩,
 ⟨some 57, .bin .shr (.t 55) (.t 56), none⟩,
 ⟨some 1, .mv (.t 57), none⟩])))))
 (.gh (.clr 130075))))))
 (.seq
 (.reg false [
 ⟨some 58, .mv (.t 13), none⟩,
 ⟨some 59, .bin .sub (.t 58) (.c (.int .i64 1)), none⟩,
 ⟨some 13, .mv (.t 59), none⟩])
 (.reg false [
 ⟨some 60, .mv (.t 13), none⟩,
 ⟨some 61, .mv (.t 1), none⟩,
 ⟨some 62, .ixs (.c (.str [48, 49, 50, 51, 52, 53, 54, 55, 56, 57, 97, 98, 99, 100, 101, 102, 103, 104, 105, 106, 107, 108, 109, 110, 111, 112, 113, 114, 115, 116, 117, 118, 119, 120, 121, 122])) (.t 61), none⟩,
 ⟨some 63, .iaa (.t 12) (.t 60) 65 1, none⟩,
 ⟨none, .store 1 (.t 63) (.t 62), none⟩]))))))
 (.seq
 (.reg false [
 ⟨some 64, .mv (.t 2), none⟩,
 ⟨some 65, .conv .u64 (.t 64), none⟩,
 ⟨some 17, .mv (.t 65), none⟩])
 (.seq
 (.blk 2
 (.seq (.gh (.clr 146459)) (.loop (.seq
 (.seq
 (.seq
 (.reg false [
 ⟨some 66, .mv (.t 1), none⟩,
 ⟨some 67, .mv (.t 17), none⟩,
 ⟨some 68, .bin .geq (.t 66) (.t 67), none⟩])
 (.cond (.t 68)
 .skip
 (.exit 2)))
 (.blk 3
 (.seq
 (.reg false [
 ⟨some 69, .mv (.t 13), none⟩,
 ⟨some 70, .bin .sub (.t 69) (.c (.int .i64 1)), none⟩,
 ⟨some 13, .mv (.t 70), none⟩])
 (.seq
 (.reg false [
 ⟨some 71, .mv (.t 1), none⟩,
 ⟨some 72, .mv (.t 17), none⟩,
 ⟨some 73, .bin .quo (.t 71) (.t 72), none⟩,
 ⟨some 18, .mv (.t 73), none⟩])
 (.seq
 (.reg false [
 ⟨some 74, .mv (.t 13), none⟩,
 ⟨some 75, .mv (.t 1), none⟩,
 ⟨some 76, .mv (.t 18), none⟩,
 ⟨some 77, .mv (.t 17), none⟩,
 ⟨some 78, .bin .mul (.t 76) (.t 77), none⟩,
 ⟨some 79, .bin .sub (.t 75) (.t 78), none⟩,
 ⟨some 80, .ixs (.c (.str [48, 49, 50, 51, 52, 53, 54, 55, 56, 57, 97, 98, 99, 100, 101, 102, 103, 104, 105, 106, 107, 108, 109, 110, 111, 112, 113, 114, 115, 116, 117, 118, 119, 120, 121, 122])) (.t 79), none⟩,
 ⟨some 81, .iaa (.t 12) (.t 74) 65 1, none⟩,
 ⟨none, .store 1 (.t 81) (.t 80), none⟩])
 (.reg false [
 ⟨some 82, .mv (.t 18), none⟩,
 ⟨some 1, .mv (.t 82), none⟩]))))))
 (.gh (.clr 146459))))))
 (.seq
 (.reg false [
 ⟨some 83, .mv (.t 13), none⟩,
 ⟨some 84, .bin .sub (.t 83) (.c (.int .i64 1)), none⟩,
 ⟨some 13, .mv (.t 84), none⟩])
 (.reg false [
 ⟨some 85, .mv (.t 13), none⟩,
 ⟨some 86, .mv (.t 1), none⟩,
 ⟨some 87, .ixs (.c (.str [48, 49, 50, 51, 52, 53, 54, 55, 56, 57, 97, 98, 99, 100, 101, 102, 103, 104, 105, 106, 107, 108, 109, 110, 111, 112, 113, 114, 115, 116, 117, 118, 119, 120, 121, 122])) (.t 86), none⟩,
 ⟨some 88, .iaa (.t 12) (.t 85) 65 1, none⟩,
 ⟨none, .store 1 (.t 88) (.t 87), none⟩]))))))
 (.seq
 (.seq
 (.reg false [
 ⟨some 89, .mv (.t 3), none⟩])
 (.cond (.t 89)
 (.seq
 (.reg false [
 ⟨some 90, .mv (.t 13), none⟩,
 ⟨some 91, .bin .sub (.t 90) (.c (.int .i64 1)), none⟩,
 ⟨some 13, .mv (.t 91), none⟩])
 (.reg false [
 ⟨some 92, .mv (.t 13), none⟩,
 ⟨some 93, .iaa (.t 12) (.t 92) 65 1, none⟩,
 ⟨none, .store 1 (.t 93) (.c (.int .u8 45)), none⟩]))
 .skip))
 (.seq
 (.seq
 (.reg false [
 ⟨some 94, .mv (.t 4), none⟩])
 (.cond (.t 94)
 (.seq
 .never
 .ret)
 .skip))
 (.seq
 .never
 .ret))))))))),
 [.tmp 10, .tmp 11]⟩

/-- unicode/utf8.RuneStart -/
def i223 : IFun := ⟨1, 6,
 (.seq
 (.reg false [
 ⟨some 2, .mv (.c (.bool false)), none⟩])
 (.seq
 (.reg false [
 ⟨some 3, .mv (.t 0), none⟩,
 ⟨some 4, .bin .and (.t 3) (.c (.int .u8 192)), none⟩,
 ⟨some 5, .bin .neq (.t 4) (.c (.int .u8 128)), none⟩,
 ⟨some 2, .mv (.t 5), none⟩])
 .ret)),
 [.tmp 2]⟩

/-- internal/strconv.isPowerOfTwo -/
def i225 : IFun := ⟨1, 8,
 (.seq
 (.reg false [
 ⟨some 2, .mv (.c (.bool false)), none⟩])
 (.seq
 (.reg false [
 ⟨some 3, .mv (.t 0), none⟩,
 ⟨some 4, .mv (.t 0), none⟩,
 ⟨some 5, .bin .sub (.t 4) (.c (.int .i64 1)), none⟩,
 ⟨some 6, .bin .and (.t 3) (.t 5), none⟩,
 ⟨some 7, .bin .eql (.t 6) (.c (.int .i64 0)), none⟩,
 ⟨some 2, .mv (.t 7), none⟩])
 .ret)),
 [.tmp 2]⟩

/-- math/bits.TrailingZeros -/
def i226 : IFun := ⟨1, 8,
 (.seq
 (.reg false [
 ⟨some 2, .mv (.c (.int .i64 0)), none⟩])
 (.seq
 (.cond (.c (.bool false))
 (.seq
 (.reg false [
 ⟨some 3, .mv (.t 0), none⟩,
 ⟨some 4, .conv .u32 (.t 3), none⟩,
 ⟨some 5, .pcall (.c (.fn (.f 227) [] [])) [(.t 4)], none⟩,
 ⟨some 2, .mv (.t 5), none⟩])
 .ret)
 .skip)
 (.seq
 (.reg false [
 ⟨some 6, .mv (.t 0), none⟩,
 ⟨some 7, .pcall (.c (.fn (.f 228) [] [])) [(.t 6)], none⟩,
 ⟨some 2, .mv (.t 7), none⟩])
 .ret))),
 [.tmp 2]⟩

/-- math/bits.TrailingZeros32 -/
def i227 : IFun := ⟨1, 14,
 (.seq
 (.reg false [
 ⟨some 2, .mv (.c (.int .i64 0)), none⟩])
 (.seq
 (.seq
 (.reg false [
 ⟨some 3, .mv (.t 0), none⟩,
 ⟨some 4, .bin .eql (.t 3) (.c (.int .u32 0)), none⟩])
 (.cond (.t 4)
 (.seq
 (.reg false [
 ⟨some 2, .mv (.c (.int .i64 32)), none⟩])
 .ret)
 .skip))
 (.seq
 .never
 .ret))),
 [.tmp 2]⟩

/-- math/bits.TrailingZeros64 -/
def i228 : IFun := ⟨1, 14,
 (.seq
 (.reg false [
 ⟨some 2, .mv (.c (.int .i64 0)), none⟩])
 (.seq
 (.seq
 (.reg false [
 ⟨some 3, .mv (.t 0), none⟩,
 ⟨some 4, .bin .eql (.t 3) (.c (.int .u64 0)), none⟩])
 (.cond (.t 4)
 (.seq
 (.reg false [
 ⟨some 2, .mv (.c (.int .i64 64)), none⟩])
 .ret)
 .skip))
 (.seq
 .never
 .ret))),
 [.tmp 2]⟩

/-- unicode/utf8.ValidRune -/
def i229 : IFun := ⟨1, 17,
 (.seq
 (.reg false [
 ⟨some 2, .mv (.c (.bool false)), none⟩])
 (.seq
 (.blk 0
 (.seq
 (.reg false [
 ⟨some 4, .mv (.t 0), none⟩,
 ⟨some 5, .bin .leq (.c (.int .i32 0)) (.t 4), none⟩,
 ⟨some 6, .mv (.t 5), none⟩,
 ⟨some 7, .mv (.t 0), some (6, true)⟩,
 ⟨some 8, .bin .lss (.t 7) (.c (.int .i32 55296)), some (6, true)⟩,
 ⟨some 9, .pick (.t 6) (.t 8) (.c (.bool false)), none⟩,
 ⟨some 3, .mv (.t 9), none⟩])
 (.cond (.t 3)
 (.seq
 (.reg false [
 ⟨some 2, .mv (.c (.bool true)), none⟩])
 .ret)
 (.seq
 (.reg false [
 ⟨some 11, .mv (.t 0), none⟩,
 ⟨some 12, .bin .lss (.c (.int .i32 57343)) (.t 11), none⟩,
 ⟨some 13, .mv (.t 12), none⟩,
 ⟨some 14, .mv (.t 0), some (13, true)⟩,
 ⟨some 15, .bin .leq (.t 14) (.c (.int .i32 1114111)), some (13, true)⟩,
 ⟨some 16, .pick (.t 13) (.t 15) (.c (.bool false)), none⟩,
 ⟨some 10, .mv (.t 16), none⟩])
 (.cond (.t 10)
 (.seq
 (.reg false [
 ⟨some 2, .mv (.c (.bool true)), none⟩])
 .ret)
 .skip)))))
 (.seq
 (.reg false [
 ⟨some 2, .mv (.c (.bool false)), none⟩])
 .ret))),
 [.tmp 2]⟩

end Go.Proofs.YtleommjdeejmkaaGreatDoor.Zq
