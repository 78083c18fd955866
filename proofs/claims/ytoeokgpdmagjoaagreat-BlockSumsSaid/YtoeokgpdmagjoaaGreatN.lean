import Derived.Test.YtoeokgpdmagjoaaGreatVL
import Derived.Test.YtoeokgpdmagjoaaGreatProg
namespace Go.Proofs.Tryz
open Go Go.Proofs.VC
def noTI : TI := ⟨.none, 0, 0, []⟩
def noAnn : Ann := { loop := fun _ => none, join := fun _ => none, nf := fun _ => [] }
abbrev W64 (n : Int) : Int := IntKind.wrap .i64 n
abbrev U64 (n : Int) : Int := IntKind.wrap .u64 n
abbrev U8 (n : Int) : Int := IntKind.wrap .u8 n
abbrev W32 (n : Int) : Int := IntKind.wrap .i32 n
abbrev U32 (n : Int) : Int := IntKind.wrap .u32 n
abbrev U16 (n : Int) : Int := IntKind.wrap .u16 n
def TAB (t : Nat) : TI := cond (Nat.blt t 386) (cond (Nat.blt t 162) (cond (Nat.blt t 81) (cond (Nat.blt t 40) (cond (Nat.blt t 20) (cond (Nat.blt t 10) (cond (Nat.blt t 5) (cond (Nat.blt t 2) (cond (Nat.blt t 1) (cond (Nat.beq t 0) ⟨.tup [], 1, 0, []⟩ noTI) (cond (Nat.beq t 1) ⟨.fn, 1, 8, [.fn]⟩ noTI)) (cond (Nat.blt t 3) (cond (Nat.beq t 2) ⟨.int .i64, 1, 8, [.int .i64]⟩ noTI) (cond (Nat.blt t 4) (cond (Nat.beq t 3) ⟨.int .i64, 1, 8, [.int .i64]⟩ noTI) (cond (Nat.beq t 4) ⟨.bool, 1, 1, [.bool]⟩ noTI)))) (cond (Nat.blt t 7) (cond (Nat.blt t 6) (cond (Nat.beq t 5) ⟨.int .u8, 1, 1, [.int .u8]⟩ noTI) (cond (Nat.beq t 6) ⟨.int .u8, 1, 1, [.int .u8]⟩ noTI)) (cond (Nat.blt t 8) (cond (Nat.beq t 7) ⟨.struct [(0, 2), (1, 3), (2, 4), (3, 6)], 4, 24, [.int .i64, .int .i64, .bool, .int .u8]⟩ noTI) (cond (Nat.blt t 9) (cond (Nat.beq t 8) ⟨.struct [(0, 2), (1, 3), (2, 4), (3, 6)], 4, 24, [.int .i64, .int .i64, .bool, .int .u8]⟩ noTI) (cond (Nat.beq t 9) ⟨.str, 1, 16, [.str]⟩ noTI))))) (cond (Nat.blt t 15) (cond (Nat.blt t 12) (cond (Nat.blt t 11) (cond (Nat.beq t 10) ⟨.str, 1, 16, [.str]⟩ noTI) (cond (Nat.beq t 11) ⟨.str, 1, 16, [.str]⟩ noTI)) (cond (Nat.blt t 13) (cond (Nat.beq t 12) ⟨.int .u64, 1, 8, [.int .u64]⟩ noTI) (cond (Nat.blt t 14) (cond (Nat.beq t 13) ⟨.struct [(0, 9), (1, 12)], 2, 24, [.str, .int .u64]⟩ noTI) (cond (Nat.beq t 14) ⟨.struct [(0, 9), (1, 12)], 2, 24, [.str, .int .u64]⟩ noTI)))) (cond (Nat.blt t 17) (cond (Nat.blt t 16) (cond (Nat.beq t 15) ⟨.ptr, 1, 8, [.ptr]⟩ noTI) (cond (Nat.beq t 16) ⟨.ptr, 1, 8, [.ptr]⟩ noTI)) (cond (Nat.blt t 18) (cond (Nat.beq t 17) ⟨.ptr, 1, 8, [.ptr]⟩ noTI) (cond (Nat.blt t 19) (cond (Nat.beq t 18) ⟨.struct [(0, 17)], 1, 8, [.ptr]⟩ noTI) (cond (Nat.beq t 19) ⟨.struct [(0, 17)], 1, 8, [.ptr]⟩ noTI)))))) (cond (Nat.blt t 30) (cond (Nat.blt t 25) (cond (Nat.blt t 22) (cond (Nat.blt t 21) (cond (Nat.beq t 20) ⟨.ifc, 1, 16, [.ifc]⟩ noTI) (cond (Nat.beq t 21) ⟨.int .i32, 1, 4, [.int .i32]⟩ noTI)) (cond (Nat.blt t 23) (cond (Nat.beq t 22) ⟨.int .u64, 1, 8, [.int .u64]⟩ noTI) (cond (Nat.blt t 24) (cond (Nat.beq t 23) ⟨.struct [(0, 3), (1, 3), (2, 3), (3, 3), (4, 22)], 5, 40, [.int .i64, .int .i64, .int .i64, .int .i64, .int .u64]⟩ noTI) (cond (Nat.beq t 24) ⟨.struct [(0, 3), (1, 3), (2, 3), (3, 3), (4, 22)], 5, 40, [.int .i64, .int .i64, .int .i64, .int .i64, .int .u64]⟩ noTI)))) (cond (Nat.blt t 27) (cond (Nat.blt t 26) (cond (Nat.beq t 25) ⟨.slice 2, 1, 24, [.sl]⟩ noTI) (cond (Nat.beq t 26) ⟨.fn, 1, 8, [.fn]⟩ noTI)) (cond (Nat.blt t 28) (cond (Nat.beq t 27) ⟨.int .i64, 1, 8, [.int .i64]⟩ noTI) (cond (Nat.blt t 29) (cond (Nat.beq t 28) ⟨.tup [9, 27], 1, 0, []⟩ noTI) (cond (Nat.beq t 29) ⟨.fn, 1, 8, [.fn]⟩ noTI))))) (cond (Nat.blt t 35) (cond (Nat.blt t 32) (cond (Nat.blt t 31) (cond (Nat.beq t 30) ⟨.struct [(0, 9), (1, 3)], 2, 24, [.str, .int .i64]⟩ noTI) (cond (Nat.beq t 31) ⟨.struct [(0, 9), (1, 3)], 2, 24, [.str, .int .i64]⟩ noTI)) (cond (Nat.blt t 33) (cond (Nat.beq t 32) ⟨.fn, 1, 8, [.fn]⟩ noTI) (cond (Nat.blt t 34) (cond (Nat.beq t 33) ⟨.tup [25, 27], 1, 0, []⟩ noTI) (cond (Nat.beq t 34) ⟨.fn, 1, 8, [.fn]⟩ noTI)))) (cond (Nat.blt t 37) (cond (Nat.blt t 36) (cond (Nat.beq t 35) ⟨.struct [(0, 25), (1, 3)], 2, 32, [.sl, .int .i64]⟩ noTI) (cond (Nat.beq t 36) ⟨.struct [(0, 25), (1, 3)], 2, 32, [.sl, .int .i64]⟩ noTI)) (cond (Nat.blt t 38) (cond (Nat.beq t 37) ⟨.fn, 1, 8, [.fn]⟩ noTI) (cond (Nat.blt t 39) (cond (Nat.beq t 38) ⟨.tup [3, 25, 3, 27], 1, 0, []⟩ noTI) (cond (Nat.beq t 39) ⟨.fn, 1, 8, [.fn]⟩ noTI))))))) (cond (Nat.blt t 60) (cond (Nat.blt t 50) (cond (Nat.blt t 45) (cond (Nat.blt t 42) (cond (Nat.blt t 41) (cond (Nat.beq t 40) ⟨.struct [(0, 3), (1, 25), (2, 3), (3, 3)], 4, 48, [.int .i64, .sl, .int .i64, .int .i64]⟩ noTI) (cond (Nat.beq t 41) ⟨.struct [(0, 3), (1, 25), (2, 3), (3, 3)], 4, 48, [.int .i64, .sl, .int .i64, .int .i64]⟩ noTI)) (cond (Nat.blt t 43) (cond (Nat.beq t 42) ⟨.fn, 1, 8, [.fn]⟩ noTI) (cond (Nat.blt t 44) (cond (Nat.beq t 43) ⟨.fn, 1, 8, [.fn]⟩ noTI) (cond (Nat.beq t 44) ⟨.fn, 1, 8, [.fn]⟩ noTI)))) (cond (Nat.blt t 47) (cond (Nat.blt t 46) (cond (Nat.beq t 45) ⟨.fn, 1, 8, [.fn]⟩ noTI) (cond (Nat.beq t 46) ⟨.fn, 1, 8, [.fn]⟩ noTI)) (cond (Nat.blt t 48) (cond (Nat.beq t 47) ⟨.slice 48, 1, 24, [.sl]⟩ noTI) (cond (Nat.blt t 49) (cond (Nat.beq t 48) ⟨.int .u16, 1, 2, [.int .u16]⟩ noTI) (cond (Nat.beq t 49) ⟨.fn, 1, 8, [.fn]⟩ noTI))))) (cond (Nat.blt t 55) (cond (Nat.blt t 52) (cond (Nat.blt t 51) (cond (Nat.beq t 50) ⟨.fn, 1, 8, [.fn]⟩ noTI) (cond (Nat.beq t 51) ⟨.slice 5, 1, 24, [.sl]⟩ noTI)) (cond (Nat.blt t 53) (cond (Nat.beq t 52) ⟨.slice 9, 1, 24, [.sl]⟩ noTI) (cond (Nat.blt t 54) (cond (Nat.beq t 53) ⟨.fn, 1, 8, [.fn]⟩ noTI) (cond (Nat.beq t 54) ⟨.fn, 1, 8, [.fn]⟩ noTI)))) (cond (Nat.blt t 57) (cond (Nat.blt t 56) (cond (Nat.beq t 55) ⟨.fn, 1, 8, [.fn]⟩ noTI) (cond (Nat.beq t 56) ⟨.slice 24, 1, 24, [.sl]⟩ noTI)) (cond (Nat.blt t 58) (cond (Nat.beq t 57) ⟨.fn, 1, 8, [.fn]⟩ noTI) (cond (Nat.blt t 59) (cond (Nat.beq t 58) ⟨.fn, 1, 8, [.fn]⟩ noTI) (cond (Nat.beq t 59) ⟨.fn, 1, 8, [.fn]⟩ noTI)))))) (cond (Nat.blt t 70) (cond (Nat.blt t 65) (cond (Nat.blt t 62) (cond (Nat.blt t 61) (cond (Nat.beq t 60) ⟨.fn, 1, 8, [.fn]⟩ noTI) (cond (Nat.beq t 61) ⟨.fn, 1, 8, [.fn]⟩ noTI)) (cond (Nat.blt t 63) (cond (Nat.beq t 62) ⟨.fn, 1, 8, [.fn]⟩ noTI) (cond (Nat.blt t 64) (cond (Nat.beq t 63) ⟨.fn, 1, 8, [.fn]⟩ noTI) (cond (Nat.beq t 64) ⟨.fn, 1, 8, [.fn]⟩ noTI)))) (cond (Nat.blt t 67) (cond (Nat.blt t 66) (cond (Nat.beq t 65) ⟨.fn, 1, 8, [.fn]⟩ noTI) (cond (Nat.beq t 66) ⟨.fn, 1, 8, [.fn]⟩ noTI)) (cond (Nat.blt t 68) (cond (Nat.beq t 67) ⟨.fn, 1, 8, [.fn]⟩ noTI) (cond (Nat.blt t 69) (cond (Nat.beq t 68) ⟨.struct [(0, 24), (5, 25)], 6, 64, [.int .i64, .int .i64, .int .i64, .int .i64, .int .u64, .sl]⟩ noTI) (cond (Nat.beq t 69) ⟨.struct [(0, 24), (5, 25)], 6, 64, [.int .i64, .int .i64, .int .i64, .int .i64, .int .u64, .sl]⟩ noTI))))) (cond (Nat.blt t 75) (cond (Nat.blt t 72) (cond (Nat.blt t 71) (cond (Nat.beq t 70) ⟨.arr 4 66, 4, 32, [.fn, .fn, .fn, .fn]⟩ noTI) (cond (Nat.beq t 71) ⟨.slice 119, 1, 24, [.sl]⟩ noTI)) (cond (Nat.blt t 73) (cond (Nat.beq t 72) ⟨.fn, 1, 8, [.fn]⟩ noTI) (cond (Nat.blt t 74) (cond (Nat.beq t 73) ⟨.slice 3, 1, 24, [.sl]⟩ noTI) (cond (Nat.beq t 74) ⟨.fn, 1, 8, [.fn]⟩ noTI)))) (cond (Nat.blt t 78) (cond (Nat.blt t 76) (cond (Nat.beq t 75) ⟨.struct [(0, 73), (1, 3)], 2, 32, [.sl, .int .i64]⟩ noTI) (cond (Nat.blt t 77) (cond (Nat.beq t 76) ⟨.struct [(0, 73), (1, 3)], 2, 32, [.sl, .int .i64]⟩ noTI) (cond (Nat.beq t 77) ⟨.fn, 1, 8, [.fn]⟩ noTI))) (cond (Nat.blt t 79) (cond (Nat.beq t 78) ⟨.fn, 1, 8, [.fn]⟩ noTI) (cond (Nat.blt t 80) (cond (Nat.beq t 79) ⟨.fn, 1, 8, [.fn]⟩ noTI) (cond (Nat.beq t 80) ⟨.fn, 1, 8, [.fn]⟩ noTI)))))))) (cond (Nat.blt t 121) (cond (Nat.blt t 101) (cond (Nat.blt t 91) (cond (Nat.blt t 86) (cond (Nat.blt t 83) (cond (Nat.blt t 82) (cond (Nat.beq t 81) ⟨.fn, 1, 8, [.fn]⟩ noTI) (cond (Nat.beq t 82) ⟨.fn, 1, 8, [.fn]⟩ noTI)) (cond (Nat.blt t 84) (cond (Nat.beq t 83) ⟨.fn, 1, 8, [.fn]⟩ noTI) (cond (Nat.blt t 85) (cond (Nat.beq t 84) ⟨.struct [(0, 9), (1, 3)], 2, 24, [.str, .int .i64]⟩ noTI) (cond (Nat.beq t 85) ⟨.struct [(0, 9), (1, 3)], 2, 24, [.str, .int .i64]⟩ noTI)))) (cond (Nat.blt t 88) (cond (Nat.blt t 87) (cond (Nat.beq t 86) ⟨.arr 4 82, 4, 32, [.fn, .fn, .fn, .fn]⟩ noTI) (cond (Nat.beq t 87) ⟨.tup [25, 4], 1, 0, []⟩ noTI)) (cond (Nat.blt t 89) (cond (Nat.beq t 88) ⟨.struct [(0, 71), (1, 3)], 2, 32, [.sl, .int .i64]⟩ noTI) (cond (Nat.blt t 90) (cond (Nat.beq t 89) ⟨.struct [(0, 71), (1, 3)], 2, 32, [.sl, .int .i64]⟩ noTI) (cond (Nat.beq t 90) ⟨.struct [(0, 25), (1, 4)], 2, 32, [.sl, .bool]⟩ noTI))))) (cond (Nat.blt t 96) (cond (Nat.blt t 93) (cond (Nat.blt t 92) (cond (Nat.beq t 91) ⟨.struct [(0, 25), (1, 4)], 2, 32, [.sl, .bool]⟩ noTI) (cond (Nat.beq t 92) ⟨.fn, 1, 8, [.fn]⟩ noTI)) (cond (Nat.blt t 94) (cond (Nat.beq t 93) ⟨.struct [(0, 73), (1, 3), (2, 3)], 3, 40, [.sl, .int .i64, .int .i64]⟩ noTI) (cond (Nat.blt t 95) (cond (Nat.beq t 94) ⟨.struct [(0, 73), (1, 3), (2, 3)], 3, 40, [.sl, .int .i64, .int .i64]⟩ noTI) (cond (Nat.beq t 95) ⟨.fn, 1, 8, [.fn]⟩ noTI)))) (cond (Nat.blt t 98) (cond (Nat.blt t 97) (cond (Nat.beq t 96) ⟨.fn, 1, 8, [.fn]⟩ noTI) (cond (Nat.beq t 97) ⟨.fn, 1, 8, [.fn]⟩ noTI)) (cond (Nat.blt t 99) (cond (Nat.beq t 98) ⟨.fn, 1, 8, [.fn]⟩ noTI) (cond (Nat.blt t 100) (cond (Nat.beq t 99) ⟨.fn, 1, 8, [.fn]⟩ noTI) (cond (Nat.beq t 100) ⟨.fn, 1, 8, [.fn]⟩ noTI)))))) (cond (Nat.blt t 111) (cond (Nat.blt t 106) (cond (Nat.blt t 103) (cond (Nat.blt t 102) (cond (Nat.beq t 101) ⟨.tup [3, 3, 3, 3, 27], 1, 0, []⟩ noTI) (cond (Nat.beq t 102) ⟨.fn, 1, 8, [.fn]⟩ noTI)) (cond (Nat.blt t 104) (cond (Nat.beq t 103) ⟨.tup [22, 3, 27], 1, 0, []⟩ noTI) (cond (Nat.blt t 105) (cond (Nat.beq t 104) ⟨.fn, 1, 8, [.fn]⟩ noTI) (cond (Nat.beq t 105) ⟨.struct [(0, 22), (1, 3), (2, 3)], 3, 24, [.int .u64, .int .i64, .int .i64]⟩ noTI)))) (cond (Nat.blt t 108) (cond (Nat.blt t 107) (cond (Nat.beq t 106) ⟨.struct [(0, 22), (1, 3), (2, 3)], 3, 24, [.int .u64, .int .i64, .int .i64]⟩ noTI) (cond (Nat.beq t 107) ⟨.fn, 1, 8, [.fn]⟩ noTI)) (cond (Nat.blt t 109) (cond (Nat.beq t 108) ⟨.int .u64, 1, 8, [.int .u64]⟩ noTI) (cond (Nat.blt t 110) (cond (Nat.beq t 109) ⟨.slice 22, 1, 24, [.sl]⟩ noTI) (cond (Nat.beq t 110) ⟨.fn, 1, 8, [.fn]⟩ noTI))))) (cond (Nat.blt t 116) (cond (Nat.blt t 113) (cond (Nat.blt t 112) (cond (Nat.beq t 111) ⟨.fn, 1, 8, [.fn]⟩ noTI) (cond (Nat.beq t 112) ⟨.fn, 1, 8, [.fn]⟩ noTI)) (cond (Nat.blt t 114) (cond (Nat.beq t 113) ⟨.tup [73, 27], 1, 0, []⟩ noTI) (cond (Nat.blt t 115) (cond (Nat.beq t 114) ⟨.fn, 1, 8, [.fn]⟩ noTI) (cond (Nat.beq t 115) ⟨.fn, 1, 8, [.fn]⟩ noTI)))) (cond (Nat.blt t 118) (cond (Nat.blt t 117) (cond (Nat.beq t 116) ⟨.fn, 1, 8, [.fn]⟩ noTI) (cond (Nat.beq t 117) ⟨.fn, 1, 8, [.fn]⟩ noTI)) (cond (Nat.blt t 119) (cond (Nat.beq t 118) ⟨.struct [(0, 3), (1, 22)], 2, 16, [.int .i64, .int .u64]⟩ noTI) (cond (Nat.blt t 120) (cond (Nat.beq t 119) ⟨.struct [(0, 3), (1, 22)], 2, 16, [.int .i64, .int .u64]⟩ noTI) (cond (Nat.beq t 120) ⟨.fn, 1, 8, [.fn]⟩ noTI))))))) (cond (Nat.blt t 141) (cond (Nat.blt t 131) (cond (Nat.blt t 126) (cond (Nat.blt t 123) (cond (Nat.blt t 122) (cond (Nat.beq t 121) ⟨.fn, 1, 8, [.fn]⟩ noTI) (cond (Nat.beq t 122) ⟨.ptr, 1, 8, [.ptr]⟩ noTI)) (cond (Nat.blt t 124) (cond (Nat.beq t 123) ⟨.struct [(0, 73), (1, 3), (2, 73), (3, 73)], 4, 80, [.sl, .int .i64, .sl, .sl]⟩ noTI) (cond (Nat.blt t 125) (cond (Nat.beq t 124) ⟨.struct [(0, 73), (1, 3), (2, 73), (3, 73)], 4, 80, [.sl, .int .i64, .sl, .sl]⟩ noTI) (cond (Nat.beq t 125) ⟨.fn, 1, 8, [.fn]⟩ noTI)))) (cond (Nat.blt t 128) (cond (Nat.blt t 127) (cond (Nat.beq t 126) ⟨.fn, 1, 8, [.fn]⟩ noTI) (cond (Nat.beq t 127) ⟨.ptr, 1, 8, [.ptr]⟩ noTI)) (cond (Nat.blt t 129) (cond (Nat.beq t 128) ⟨.struct [(0, 51)], 1, 24, [.sl]⟩ noTI) (cond (Nat.blt t 130) (cond (Nat.beq t 129) ⟨.struct [(0, 51)], 1, 24, [.sl]⟩ noTI) (cond (Nat.beq t 130) ⟨.fn, 1, 8, [.fn]⟩ noTI))))) (cond (Nat.blt t 136) (cond (Nat.blt t 133) (cond (Nat.blt t 132) (cond (Nat.beq t 131) ⟨.fn, 1, 8, [.fn]⟩ noTI) (cond (Nat.beq t 132) ⟨.slice 138, 1, 24, [.sl]⟩ noTI)) (cond (Nat.blt t 134) (cond (Nat.beq t 133) ⟨.struct [(0, 132), (1, 3)], 2, 32, [.sl, .int .i64]⟩ noTI) (cond (Nat.blt t 135) (cond (Nat.beq t 134) ⟨.struct [(0, 132), (1, 3)], 2, 32, [.sl, .int .i64]⟩ noTI) (cond (Nat.beq t 135) ⟨.fn, 1, 8, [.fn]⟩ noTI)))) (cond (Nat.blt t 138) (cond (Nat.blt t 137) (cond (Nat.beq t 136) ⟨.fn, 1, 8, [.fn]⟩ noTI) (cond (Nat.beq t 137) ⟨.struct [(0, 3), (1, 3)], 2, 16, [.int .i64, .int .i64]⟩ noTI)) (cond (Nat.blt t 139) (cond (Nat.beq t 138) ⟨.struct [(0, 3), (1, 3)], 2, 16, [.int .i64, .int .i64]⟩ noTI) (cond (Nat.blt t 140) (cond (Nat.beq t 139) ⟨.fn, 1, 8, [.fn]⟩ noTI) (cond (Nat.beq t 140) ⟨.slice 145, 1, 24, [.sl]⟩ noTI)))))) (cond (Nat.blt t 151) (cond (Nat.blt t 146) (cond (Nat.blt t 143) (cond (Nat.blt t 142) (cond (Nat.beq t 141) ⟨.struct [(0, 140), (1, 3)], 2, 32, [.sl, .int .i64]⟩ noTI) (cond (Nat.beq t 142) ⟨.struct [(0, 140), (1, 3)], 2, 32, [.sl, .int .i64]⟩ noTI)) (cond (Nat.blt t 144) (cond (Nat.beq t 143) ⟨.fn, 1, 8, [.fn]⟩ noTI) (cond (Nat.blt t 145) (cond (Nat.beq t 144) ⟨.struct [(0, 3), (1, 3), (2, 3)], 3, 24, [.int .i64, .int .i64, .int .i64]⟩ noTI) (cond (Nat.beq t 145) ⟨.struct [(0, 3), (1, 3), (2, 3)], 3, 24, [.int .i64, .int .i64, .int .i64]⟩ noTI)))) (cond (Nat.blt t 148) (cond (Nat.blt t 147) (cond (Nat.beq t 146) ⟨.fn, 1, 8, [.fn]⟩ noTI) (cond (Nat.beq t 147) ⟨.ptr, 1, 8, [.ptr]⟩ noTI)) (cond (Nat.blt t 149) (cond (Nat.beq t 148) ⟨.fn, 1, 8, [.fn]⟩ noTI) (cond (Nat.blt t 150) (cond (Nat.beq t 149) ⟨.ptr, 1, 8, [.ptr]⟩ noTI) (cond (Nat.beq t 150) ⟨.fn, 1, 8, [.fn]⟩ noTI))))) (cond (Nat.blt t 156) (cond (Nat.blt t 153) (cond (Nat.blt t 152) (cond (Nat.beq t 151) ⟨.tup [73, 73], 1, 0, []⟩ noTI) (cond (Nat.beq t 152) ⟨.fn, 1, 8, [.fn]⟩ noTI)) (cond (Nat.blt t 154) (cond (Nat.beq t 153) ⟨.fn, 1, 8, [.fn]⟩ noTI) (cond (Nat.blt t 155) (cond (Nat.beq t 154) ⟨.fn, 1, 8, [.fn]⟩ noTI) (cond (Nat.beq t 155) ⟨.fn, 1, 8, [.fn]⟩ noTI)))) (cond (Nat.blt t 159) (cond (Nat.blt t 157) (cond (Nat.beq t 156) ⟨.fn, 1, 8, [.fn]⟩ noTI) (cond (Nat.blt t 158) (cond (Nat.beq t 157) ⟨.fn, 1, 8, [.fn]⟩ noTI) (cond (Nat.beq t 158) ⟨.tup [73, 3, 27], 1, 0, []⟩ noTI))) (cond (Nat.blt t 160) (cond (Nat.beq t 159) ⟨.fn, 1, 8, [.fn]⟩ noTI) (cond (Nat.blt t 161) (cond (Nat.beq t 160) ⟨.tup [71, 27], 1, 0, []⟩ noTI) (cond (Nat.beq t 161) ⟨.fn, 1, 8, [.fn]⟩ noTI))))))))) (cond (Nat.blt t 243) (cond (Nat.blt t 202) (cond (Nat.blt t 182) (cond (Nat.blt t 172) (cond (Nat.blt t 167) (cond (Nat.blt t 164) (cond (Nat.blt t 163) (cond (Nat.beq t 162) ⟨.fn, 1, 8, [.fn]⟩ noTI) (cond (Nat.beq t 163) ⟨.fn, 1, 8, [.fn]⟩ noTI)) (cond (Nat.blt t 165) (cond (Nat.beq t 164) ⟨.fn, 1, 8, [.fn]⟩ noTI) (cond (Nat.blt t 166) (cond (Nat.beq t 165) ⟨.fn, 1, 8, [.fn]⟩ noTI) (cond (Nat.beq t 166) ⟨.ptr, 1, 8, [.ptr]⟩ noTI)))) (cond (Nat.blt t 169) (cond (Nat.blt t 168) (cond (Nat.beq t 167) ⟨.fn, 1, 8, [.fn]⟩ noTI) (cond (Nat.beq t 168) ⟨.fn, 1, 8, [.fn]⟩ noTI)) (cond (Nat.blt t 170) (cond (Nat.beq t 169) ⟨.fn, 1, 8, [.fn]⟩ noTI) (cond (Nat.blt t 171) (cond (Nat.beq t 170) ⟨.ptr, 1, 8, [.ptr]⟩ noTI) (cond (Nat.beq t 171) ⟨.fn, 1, 8, [.fn]⟩ noTI))))) (cond (Nat.blt t 177) (cond (Nat.blt t 174) (cond (Nat.blt t 173) (cond (Nat.beq t 172) ⟨.struct [(0, 51)], 1, 24, [.sl]⟩ noTI) (cond (Nat.beq t 173) ⟨.ptr, 1, 8, [.ptr]⟩ noTI)) (cond (Nat.blt t 175) (cond (Nat.beq t 174) ⟨.fn, 1, 8, [.fn]⟩ noTI) (cond (Nat.blt t 176) (cond (Nat.beq t 175) ⟨.fn, 1, 8, [.fn]⟩ noTI) (cond (Nat.beq t 176) ⟨.struct [(0, 2), (1, 4)], 2, 16, [.int .i64, .bool]⟩ noTI)))) (cond (Nat.blt t 179) (cond (Nat.blt t 178) (cond (Nat.beq t 177) ⟨.struct [(0, 2), (1, 4)], 2, 16, [.int .i64, .bool]⟩ noTI) (cond (Nat.beq t 178) ⟨.fn, 1, 8, [.fn]⟩ noTI)) (cond (Nat.blt t 180) (cond (Nat.beq t 179) ⟨.arr 8 5, 8, 8, [.int .u8, .int .u8, .int .u8, .int .u8, .int .u8, .int .u8, .int .u8, .int .u8]⟩ noTI) (cond (Nat.blt t 181) (cond (Nat.beq t 180) ⟨.arr 4 22, 4, 32, [.int .u64, .int .u64, .int .u64, .int .u64]⟩ noTI) (cond (Nat.beq t 181) ⟨.arr 4 22, 4, 32, [.int .u64, .int .u64, .int .u64, .int .u64]⟩ noTI)))))) (cond (Nat.blt t 192) (cond (Nat.blt t 187) (cond (Nat.blt t 184) (cond (Nat.blt t 183) (cond (Nat.beq t 182) ⟨.fn, 1, 8, [.fn]⟩ noTI) (cond (Nat.beq t 183) ⟨.fn, 1, 8, [.fn]⟩ noTI)) (cond (Nat.blt t 185) (cond (Nat.beq t 184) ⟨.fn, 1, 8, [.fn]⟩ noTI) (cond (Nat.blt t 186) (cond (Nat.beq t 185) ⟨.fn, 1, 8, [.fn]⟩ noTI) (cond (Nat.beq t 186) ⟨.ptr, 1, 8, [.ptr]⟩ noTI)))) (cond (Nat.blt t 189) (cond (Nat.blt t 188) (cond (Nat.beq t 187) ⟨.struct [(0, 186), (1, 51)], 2, 32, [.ptr, .sl]⟩ noTI) (cond (Nat.beq t 188) ⟨.struct [(0, 186), (1, 51)], 2, 32, [.ptr, .sl]⟩ noTI)) (cond (Nat.blt t 190) (cond (Nat.beq t 189) ⟨.fn, 1, 8, [.fn]⟩ noTI) (cond (Nat.blt t 191) (cond (Nat.beq t 190) ⟨.ifc, 1, 16, [.ifc]⟩ noTI) (cond (Nat.beq t 191) ⟨.ifc, 1, 16, [.ifc]⟩ noTI))))) (cond (Nat.blt t 197) (cond (Nat.blt t 194) (cond (Nat.blt t 193) (cond (Nat.beq t 192) ⟨.tup [3, 191], 1, 0, []⟩ noTI) (cond (Nat.beq t 193) ⟨.fn, 1, 8, [.fn]⟩ noTI)) (cond (Nat.blt t 195) (cond (Nat.beq t 194) ⟨.fn, 1, 8, [.fn]⟩ noTI) (cond (Nat.blt t 196) (cond (Nat.beq t 195) ⟨.fn, 1, 8, [.fn]⟩ noTI) (cond (Nat.beq t 196) ⟨.struct [(0, 9)], 1, 16, [.str]⟩ noTI)))) (cond (Nat.blt t 199) (cond (Nat.blt t 198) (cond (Nat.beq t 197) ⟨.struct [(0, 9)], 1, 16, [.str]⟩ noTI) (cond (Nat.beq t 198) ⟨.ptr, 1, 8, [.ptr]⟩ noTI)) (cond (Nat.blt t 200) (cond (Nat.beq t 199) ⟨.slice 208, 1, 24, [.sl]⟩ noTI) (cond (Nat.blt t 201) (cond (Nat.beq t 200) ⟨.struct [(0, 73), (1, 3), (2, 199)], 3, 56, [.sl, .int .i64, .sl]⟩ noTI) (cond (Nat.beq t 201) ⟨.struct [(0, 73), (1, 3), (2, 199)], 3, 56, [.sl, .int .i64, .sl]⟩ noTI))))))) (cond (Nat.blt t 222) (cond (Nat.blt t 212) (cond (Nat.blt t 207) (cond (Nat.blt t 204) (cond (Nat.blt t 203) (cond (Nat.beq t 202) ⟨.fn, 1, 8, [.fn]⟩ noTI) (cond (Nat.beq t 203) ⟨.fn, 1, 8, [.fn]⟩ noTI)) (cond (Nat.blt t 205) (cond (Nat.beq t 204) ⟨.fn, 1, 8, [.fn]⟩ noTI) (cond (Nat.blt t 206) (cond (Nat.beq t 205) ⟨.struct [(0, 3), (1, 3), (2, 3)], 3, 24, [.int .i64, .int .i64, .int .i64]⟩ noTI) (cond (Nat.beq t 206) ⟨.struct [(0, 3), (1, 3), (2, 3)], 3, 24, [.int .i64, .int .i64, .int .i64]⟩ noTI)))) (cond (Nat.blt t 209) (cond (Nat.blt t 208) (cond (Nat.beq t 207) ⟨.struct [(0, 3), (1, 3), (2, 4), (3, 4)], 4, 24, [.int .i64, .int .i64, .bool, .bool]⟩ noTI) (cond (Nat.beq t 208) ⟨.struct [(0, 3), (1, 3), (2, 4), (3, 4)], 4, 24, [.int .i64, .int .i64, .bool, .bool]⟩ noTI)) (cond (Nat.blt t 210) (cond (Nat.beq t 209) ⟨.fn, 1, 8, [.fn]⟩ noTI) (cond (Nat.blt t 211) (cond (Nat.beq t 210) ⟨.tup [132, 27], 1, 0, []⟩ noTI) (cond (Nat.beq t 211) ⟨.fn, 1, 8, [.fn]⟩ noTI))))) (cond (Nat.blt t 217) (cond (Nat.blt t 214) (cond (Nat.blt t 213) (cond (Nat.beq t 212) ⟨.ptr, 1, 8, [.ptr]⟩ noTI) (cond (Nat.beq t 213) ⟨.fn, 1, 8, [.fn]⟩ noTI)) (cond (Nat.blt t 215) (cond (Nat.beq t 214) ⟨.tup [2, 4], 1, 0, []⟩ noTI) (cond (Nat.blt t 216) (cond (Nat.beq t 215) ⟨.fn, 1, 8, [.fn]⟩ noTI) (cond (Nat.beq t 216) ⟨.fn, 1, 8, [.fn]⟩ noTI)))) (cond (Nat.blt t 219) (cond (Nat.blt t 218) (cond (Nat.beq t 217) ⟨.fn, 1, 8, [.fn]⟩ noTI) (cond (Nat.beq t 218) ⟨.fn, 1, 8, [.fn]⟩ noTI)) (cond (Nat.blt t 220) (cond (Nat.beq t 219) ⟨.ptr, 1, 8, [.ptr]⟩ noTI) (cond (Nat.blt t 221) (cond (Nat.beq t 220) ⟨.tup [219, 27], 1, 0, []⟩ noTI) (cond (Nat.beq t 221) ⟨.fn, 1, 8, [.fn]⟩ noTI)))))) (cond (Nat.blt t 232) (cond (Nat.blt t 227) (cond (Nat.blt t 224) (cond (Nat.blt t 223) (cond (Nat.beq t 222) ⟨.fn, 1, 8, [.fn]⟩ noTI) (cond (Nat.beq t 223) ⟨.fn, 1, 8, [.fn]⟩ noTI)) (cond (Nat.blt t 225) (cond (Nat.beq t 224) ⟨.fn, 1, 8, [.fn]⟩ noTI) (cond (Nat.blt t 226) (cond (Nat.beq t 225) ⟨.arr 65 73, 65, 1560, List.replicate 65 (.sl)⟩ noTI) (cond (Nat.beq t 226) ⟨.struct [(0, 140), (1, 225), (66, 3), (67, 109), (68, 73)], 69, 1640, List.replicate 66 (.sl) ++ [.int .i64] ++ [.sl, .sl]⟩ noTI)))) (cond (Nat.blt t 229) (cond (Nat.blt t 228) (cond (Nat.beq t 227) ⟨.struct [(0, 140), (1, 225), (66, 3), (67, 109), (68, 73)], 69, 1640, List.replicate 66 (.sl) ++ [.int .i64] ++ [.sl, .sl]⟩ noTI) (cond (Nat.beq t 228) ⟨.ptr, 1, 8, [.ptr]⟩ noTI)) (cond (Nat.blt t 230) (cond (Nat.beq t 229) ⟨.fn, 1, 8, [.fn]⟩ noTI) (cond (Nat.blt t 231) (cond (Nat.beq t 230) ⟨.ptr, 1, 8, [.ptr]⟩ noTI) (cond (Nat.beq t 231) ⟨.fn, 1, 8, [.fn]⟩ noTI))))) (cond (Nat.blt t 237) (cond (Nat.blt t 234) (cond (Nat.blt t 233) (cond (Nat.beq t 232) ⟨.fn, 1, 8, [.fn]⟩ noTI) (cond (Nat.beq t 233) ⟨.fn, 1, 8, [.fn]⟩ noTI)) (cond (Nat.blt t 235) (cond (Nat.beq t 234) ⟨.fn, 1, 8, [.fn]⟩ noTI) (cond (Nat.blt t 236) (cond (Nat.beq t 235) ⟨.fn, 1, 8, [.fn]⟩ noTI) (cond (Nat.beq t 236) ⟨.slice 73, 1, 24, [.sl]⟩ noTI)))) (cond (Nat.blt t 240) (cond (Nat.blt t 238) (cond (Nat.beq t 237) ⟨.struct [(0, 73), (1, 73), (2, 73), (3, 236), (4, 3), (5, 3)], 6, 112, [.sl, .sl, .sl, .sl, .int .i64, .int .i64]⟩ noTI) (cond (Nat.blt t 239) (cond (Nat.beq t 238) ⟨.struct [(0, 73), (1, 73), (2, 73), (3, 236), (4, 3), (5, 3)], 6, 112, [.sl, .sl, .sl, .sl, .int .i64, .int .i64]⟩ noTI) (cond (Nat.beq t 239) ⟨.struct [(0, 51), (1, 22)], 2, 32, [.sl, .int .u64]⟩ noTI))) (cond (Nat.blt t 241) (cond (Nat.beq t 240) ⟨.struct [(0, 51), (1, 22)], 2, 32, [.sl, .int .u64]⟩ noTI) (cond (Nat.blt t 242) (cond (Nat.beq t 241) ⟨.fn, 1, 8, [.fn]⟩ noTI) (cond (Nat.beq t 242) ⟨.fn, 1, 8, [.fn]⟩ noTI)))))))) (cond (Nat.blt t 298) (cond (Nat.blt t 264) (cond (Nat.blt t 253) (cond (Nat.blt t 248) (cond (Nat.blt t 245) (cond (Nat.blt t 244) (cond (Nat.beq t 243) ⟨.fn, 1, 8, [.fn]⟩ noTI) (cond (Nat.beq t 244) ⟨.fn, 1, 8, [.fn]⟩ noTI)) (cond (Nat.blt t 246) (cond (Nat.beq t 245) ⟨.fn, 1, 8, [.fn]⟩ noTI) (cond (Nat.blt t 247) (cond (Nat.beq t 246) ⟨.ptr, 1, 8, [.ptr]⟩ noTI) (cond (Nat.beq t 247) ⟨.fn, 1, 8, [.fn]⟩ noTI)))) (cond (Nat.blt t 250) (cond (Nat.blt t 249) (cond (Nat.beq t 248) ⟨.tup [22, 27], 1, 0, []⟩ noTI) (cond (Nat.beq t 249) ⟨.ptr, 1, 8, [.ptr]⟩ noTI)) (cond (Nat.blt t 251) (cond (Nat.beq t 250) ⟨.map, 1, 8, [.map]⟩ noTI) (cond (Nat.blt t 252) (cond (Nat.beq t 251) ⟨.struct [(0, 246), (1, 250)], 2, 16, [.ptr, .map]⟩ noTI) (cond (Nat.beq t 252) ⟨.struct [(0, 246), (1, 250)], 2, 16, [.ptr, .map]⟩ noTI))))) (cond (Nat.blt t 258) (cond (Nat.blt t 255) (cond (Nat.blt t 254) (cond (Nat.beq t 253) ⟨.fn, 1, 8, [.fn]⟩ noTI) (cond (Nat.beq t 254) ⟨.tup [119, 27], 1, 0, []⟩ noTI)) (cond (Nat.blt t 256) (cond (Nat.beq t 255) ⟨.fn, 1, 8, [.fn]⟩ noTI) (cond (Nat.blt t 257) (cond (Nat.beq t 256) ⟨.fn, 1, 8, [.fn]⟩ noTI) (cond (Nat.beq t 257) ⟨.ptr, 1, 8, [.ptr]⟩ noTI)))) (cond (Nat.blt t 260) (cond (Nat.blt t 259) (cond (Nat.beq t 258) ⟨.tup [257, 4], 1, 0, []⟩ noTI) (cond (Nat.beq t 259) ⟨.fn, 1, 8, [.fn]⟩ noTI)) (cond (Nat.blt t 261) (cond (Nat.beq t 260) ⟨.fn, 1, 8, [.fn]⟩ noTI) (cond (Nat.blt t 262) (cond (Nat.beq t 261) ⟨.tup [119, 4], 1, 0, []⟩ noTI) (cond (Nat.beq t 262) ⟨.ptr, 1, 8, [.ptr]⟩ noTI)))))) (cond (Nat.blt t 281) (cond (Nat.blt t 273) (cond (Nat.blt t 267) (cond (Nat.blt t 265) (cond (Nat.beq t 264) ⟨.struct [(0, 219), (1, 262), (2, 246)], 3, 24, [.ptr, .ptr, .ptr]⟩ noTI) (cond (Nat.beq t 265) ⟨.ptr, 1, 8, [.ptr]⟩ noTI)) (cond (Nat.blt t 268) (cond (Nat.beq t 267) ⟨.fn, 1, 8, [.fn]⟩ noTI) (cond (Nat.blt t 271) (cond (Nat.beq t 268) ⟨.tup [3, 27], 1, 0, []⟩ noTI) (cond (Nat.beq t 271) ⟨.fn, 1, 8, [.fn]⟩ noTI)))) (cond (Nat.blt t 277) (cond (Nat.blt t 276) (cond (Nat.beq t 273) ⟨.struct [(0, 51), (1, 3)], 2, 32, [.sl, .int .i64]⟩ noTI) (cond (Nat.beq t 276) ⟨.struct [(0, 9), (1, 149), (2, 4)], 3, 32, [.str, .ptr, .bool]⟩ noTI)) (cond (Nat.blt t 279) (cond (Nat.beq t 277) ⟨.fn, 1, 8, [.fn]⟩ noTI) (cond (Nat.blt t 280) (cond (Nat.beq t 279) ⟨.arr 4 3, 4, 32, [.int .i64, .int .i64, .int .i64, .int .i64]⟩ noTI) (cond (Nat.beq t 280) ⟨.ptr, 1, 8, [.ptr]⟩ noTI))))) (cond (Nat.blt t 289) (cond (Nat.blt t 284) (cond (Nat.blt t 283) (cond (Nat.beq t 281) ⟨.ptr, 1, 8, [.ptr]⟩ noTI) (cond (Nat.beq t 283) ⟨.slice 286, 1, 24, [.sl]⟩ noTI)) (cond (Nat.blt t 286) (cond (Nat.beq t 284) ⟨.fn, 1, 8, [.fn]⟩ noTI) (cond (Nat.blt t 287) (cond (Nat.beq t 286) ⟨.struct [(0, 3), (1, 3)], 2, 16, [.int .i64, .int .i64]⟩ noTI) (cond (Nat.beq t 287) ⟨.tup [286, 4], 1, 0, []⟩ noTI)))) (cond (Nat.blt t 294) (cond (Nat.blt t 291) (cond (Nat.beq t 289) ⟨.fn, 1, 8, [.fn]⟩ noTI) (cond (Nat.blt t 293) (cond (Nat.beq t 291) ⟨.ptr, 1, 8, [.ptr]⟩ noTI) (cond (Nat.beq t 293) ⟨.slice 295, 1, 24, [.sl]⟩ noTI))) (cond (Nat.blt t 295) (cond (Nat.beq t 294) ⟨.struct [(0, 3), (1, 3)], 2, 16, [.int .i64, .int .i64]⟩ noTI) (cond (Nat.blt t 296) (cond (Nat.beq t 295) ⟨.struct [(0, 3), (1, 3)], 2, 16, [.int .i64, .int .i64]⟩ noTI) (cond (Nat.beq t 296) ⟨.tup [295, 4], 1, 0, []⟩ noTI))))))) (cond (Nat.blt t 329) (cond (Nat.blt t 314) (cond (Nat.blt t 307) (cond (Nat.blt t 302) (cond (Nat.blt t 300) (cond (Nat.beq t 298) ⟨.struct [(0, 51), (1, 3)], 2, 32, [.sl, .int .i64]⟩ noTI) (cond (Nat.beq t 300) ⟨.ptr, 1, 8, [.ptr]⟩ noTI)) (cond (Nat.blt t 304) (cond (Nat.beq t 302) ⟨.slice 304, 1, 24, [.sl]⟩ noTI) (cond (Nat.blt t 305) (cond (Nat.beq t 304) ⟨.struct [(0, 3), (1, 3)], 2, 16, [.int .i64, .int .i64]⟩ noTI) (cond (Nat.beq t 305) ⟨.ptr, 1, 8, [.ptr]⟩ noTI)))) (cond (Nat.blt t 311) (cond (Nat.blt t 310) (cond (Nat.beq t 307) ⟨.tup [140, 27], 1, 0, []⟩ noTI) (cond (Nat.beq t 310) ⟨.tup [3, 4], 1, 0, []⟩ noTI)) (cond (Nat.blt t 312) (cond (Nat.beq t 311) ⟨.fn, 1, 8, [.fn]⟩ noTI) (cond (Nat.blt t 313) (cond (Nat.beq t 312) ⟨.fn, 1, 8, [.fn]⟩ noTI) (cond (Nat.beq t 313) ⟨.slice 320, 1, 24, [.sl]⟩ noTI))))) (cond (Nat.blt t 322) (cond (Nat.blt t 317) (cond (Nat.blt t 315) (cond (Nat.beq t 314) ⟨.arr 3 313, 3, 72, [.sl, .sl, .sl]⟩ noTI) (cond (Nat.beq t 315) ⟨.arr 7 73, 7, 168, [.sl, .sl, .sl, .sl, .sl, .sl, .sl]⟩ noTI)) (cond (Nat.blt t 318) (cond (Nat.beq t 317) ⟨.struct [(0, 314), (3, 315), (10, 3), (11, 3)], 12, 256, [.sl, .sl, .sl, .sl, .sl, .sl, .sl, .sl, .sl, .sl, .int .i64, .int .i64]⟩ noTI) (cond (Nat.blt t 320) (cond (Nat.beq t 318) ⟨.arr 3 3, 3, 24, [.int .i64, .int .i64, .int .i64]⟩ noTI) (cond (Nat.beq t 320) ⟨.arr 128 3, 128, 1024, List.replicate 128 (.int .i64)⟩ noTI)))) (cond (Nat.blt t 325) (cond (Nat.blt t 323) (cond (Nat.beq t 322) ⟨.struct [(0, 51), (1, 22), (2, 22)], 3, 40, [.sl, .int .u64, .int .u64]⟩ noTI) (cond (Nat.beq t 323) ⟨.ptr, 1, 8, [.ptr]⟩ noTI)) (cond (Nat.blt t 327) (cond (Nat.beq t 325) ⟨.struct [(0, 73), (1, 154)], 2, 32, [.sl, .fn]⟩ noTI) (cond (Nat.blt t 328) (cond (Nat.beq t 327) ⟨.struct [(0, 9), (1, 3)], 2, 24, [.str, .int .i64]⟩ noTI) (cond (Nat.beq t 328) ⟨.struct [(0, 9), (1, 3)], 2, 24, [.str, .int .i64]⟩ noTI)))))) (cond (Nat.blt t 353) (cond (Nat.blt t 342) (cond (Nat.blt t 333) (cond (Nat.blt t 331) (cond (Nat.beq t 329) ⟨.tup [262, 27], 1, 0, []⟩ noTI) (cond (Nat.beq t 331) ⟨.fn, 1, 8, [.fn]⟩ noTI)) (cond (Nat.blt t 334) (cond (Nat.beq t 333) ⟨.struct [(0, 9), (1, 3)], 2, 24, [.str, .int .i64]⟩ noTI) (cond (Nat.blt t 335) (cond (Nat.beq t 334) ⟨.struct [(0, 9), (1, 3), (2, 3), (3, 22), (4, 22), (5, 4)], 6, 56, [.str, .int .i64, .int .i64, .int .u64, .int .u64, .bool]⟩ noTI) (cond (Nat.beq t 335) ⟨.struct [(0, 9), (1, 3), (2, 3), (3, 22), (4, 22), (5, 4)], 6, 56, [.str, .int .i64, .int .i64, .int .u64, .int .u64, .bool]⟩ noTI)))) (cond (Nat.blt t 348) (cond (Nat.blt t 346) (cond (Nat.beq t 342) ⟨.ifc, 1, 16, [.ifc]⟩ noTI) (cond (Nat.beq t 346) ⟨.ptr, 1, 8, [.ptr]⟩ noTI)) (cond (Nat.blt t 349) (cond (Nat.beq t 348) ⟨.struct [(0, 3), (1, 3), (2, 73)], 3, 40, [.int .i64, .int .i64, .sl]⟩ noTI) (cond (Nat.blt t 351) (cond (Nat.beq t 349) ⟨.fn, 1, 8, [.fn]⟩ noTI) (cond (Nat.beq t 351) ⟨.fn, 1, 8, [.fn]⟩ noTI))))) (cond (Nat.blt t 365) (cond (Nat.blt t 357) (cond (Nat.blt t 354) (cond (Nat.beq t 353) ⟨.ptr, 1, 8, [.ptr]⟩ noTI) (cond (Nat.beq t 354) ⟨.arr 3 353, 3, 24, [.ptr, .ptr, .ptr]⟩ noTI)) (cond (Nat.blt t 358) (cond (Nat.beq t 357) ⟨.int .i64, 1, 8, [.int .i64]⟩ noTI) (cond (Nat.blt t 364) (cond (Nat.beq t 358) ⟨.tup [3, 357], 1, 0, []⟩ noTI) (cond (Nat.beq t 364) ⟨.int .u32, 1, 4, [.int .u32]⟩ noTI)))) (cond (Nat.blt t 371) (cond (Nat.blt t 368) (cond (Nat.beq t 365) ⟨.int .u64, 1, 8, [.int .u64]⟩ noTI) (cond (Nat.blt t 370) (cond (Nat.beq t 368) ⟨.ptr, 1, 8, [.ptr]⟩ noTI) (cond (Nat.beq t 370) ⟨.ptr, 1, 8, [.ptr]⟩ noTI))) (cond (Nat.blt t 374) (cond (Nat.beq t 371) ⟨.tup [3, 3], 1, 0, []⟩ noTI) (cond (Nat.blt t 385) (cond (Nat.beq t 374) ⟨.struct [(0, 17), (1, 17), (2, 17), (3, 9)], 4, 40, [.ptr, .ptr, .ptr, .str]⟩ noTI) (cond (Nat.beq t 385) ⟨.tup [304, 4], 1, 0, []⟩ noTI)))))))))) noTI
def fok (f : Nat) : Bool := Nat.blt f 293 && Nat.ble 3 f && !(Nat.beq f 226) && !(Nat.beq f 260) && !(Nat.beq f 261) && !(Nat.beq f 262) && !(Nat.beq f 263) && !(Nat.beq f 264) && !(Nat.beq f 265) && !(Nat.beq f 266) && !(Nat.beq f 267) && !(Nat.beq f 268) && !(Nat.beq f 269) && !(Nat.beq f 270) && !(Nat.beq f 271) && !(Nat.beq f 272) && !(Nat.beq f 273) && !(Nat.beq f 274) && !(Nat.beq f 275) && !(Nat.beq f 277) && !(Nat.beq f 292)
abbrev n_main_main : Nat := 0
abbrev n_gosem_cut : Nat := 1
abbrev n_gosem_cut_init : Nat := 2
abbrev n_l21_BlockAll : Nat := 3
abbrev n_l21_BlockMade : Nat := 4
abbrev n_l21_BlockBack : Nat := 5
abbrev n_l21_BlockLong : Nat := 6
abbrev n_l21_BlockRefuses : Nat := 7
abbrev n_l21_BlockSums : Nat := 8
abbrev n_l21_BlockCuts : Nat := 9
abbrev n_l21_BlockWays : Nat := 10
abbrev n_l21_awake : Nat := 11
abbrev n_block_Load : Nat := 12
abbrev n_r20_Load : Nat := 13
abbrev n_block_Unload : Nat := 14
abbrev n_r20_Unload : Nat := 15
abbrev n_block_Put : Nat := 16
abbrev n_r20_Put : Nat := 17
abbrev n_block_Get : Nat := 18
abbrev n_r20_Get : Nat := 19
abbrev n_block_May : Nat := 20
abbrev n_r20_May : Nat := 21
abbrev n_l1_Err : Nat := 22
abbrev n_r7_SameNums : Nat := 23
abbrev n_l11_Numbers : Nat := 24
abbrev n_l21_Options : Nat := 25
abbrev n_r1_PutVint : Nat := 26
abbrev n_r1_Word : Nat := 27
abbrev n_r1_Sum : Nat := 28
abbrev n_r20_Plain : Nat := 29
abbrev n_block_isWay : Nat := 30
abbrev n_block_in : Nat := 31
abbrev n_block_loader_plain : Nat := 32
abbrev n_block_loader_codes : Nat := 33
abbrev n_block_loader_states : Nat := 34
abbrev n_block_loader_chances : Nat := 35
abbrev n_r7_Parts : Nat := 36
abbrev n_r7_Of : Nat := 37
abbrev n_r7_Lengths : Nat := 38
abbrev n_r7_PutLens : Nat := 39
abbrev n_r7_PutHuff : Nat := 40
abbrev n_r7_Norm : Nat := 41
abbrev n_r7_PutNorm : Nat := 42
abbrev n_r7_PutStates : Nat := 43
abbrev n_r15_PutModel : Nat := 44
abbrev n_block_unloader_plain : Nat := 45
abbrev n_block_unloader_codes : Nat := 46
abbrev n_block_unloader_states : Nat := 47
abbrev n_block_unloader_chances : Nat := 48
abbrev n_r20_GetPlain : Nat := 49
abbrev n_r7_GetLens : Nat := 50
abbrev n_r7_GetHuff : Nat := 51
abbrev n_r7_GetNorm : Nat := 52
abbrev n_r7_GetStates : Nat := 53
abbrev n_r15_GetModel : Nat := 54
abbrev n_r7_Values : Nat := 55
abbrev n_vint_Put : Nat := 56
abbrev n_vint_Word : Nat := 57
abbrev n_xxh_Sum : Nat := 58
abbrev n_plain_Put : Nat := 59
abbrev n_block_head : Nat := 60
abbrev n_vint_GetWord : Nat := 61
abbrev n_r1_GetVint : Nat := 62
abbrev n_r1_Round : Nat := 63
abbrev n_r1_GetWord : Nat := 64
abbrev n_r1_rol : Nat := 65
abbrev n_r1_Mix : Nat := 66
abbrev n_hist_Parts : Nat := 67
abbrev n_merge_Lengths : Nat := 68
abbrev n_hist_Of : Nat := 69
abbrev n_huff_Put : Nat := 70
abbrev n_lens_Put : Nat := 71
abbrev n_norm_Of : Nat := 72
abbrev n_states_Put : Nat := 73
abbrev n_norm_Put : Nat := 74
abbrev n_model_Put : Nat := 75
abbrev n_r1_Split : Nat := 76
abbrev n_r7_Order : Nat := 77
abbrev n_r7_best_cost : Nat := 78
abbrev n_r7_MayLens : Nat := 79
abbrev n_r1_Row_Put : Nat := 80
abbrev n_r1_Row_Bytes : Nat := 81
abbrev n_r7_Canon : Nat := 82
abbrev n_r1_MayPart : Nat := 83
abbrev n_r7_rest : Nat := 84
abbrev n_r7_freqs : Nat := 85
abbrev n_r7_isLog : Nat := 86
abbrev n_r7_Table : Nat := 87
abbrev n_r1_Seal : Nat := 88
abbrev n_r15_NewModel : Nat := 89
abbrev n_r15_New : Nat := 90
abbrev n_r15_Nodes : Nat := 91
abbrev n_r15_Model_At : Nat := 92
abbrev n_r15_Coder_Bit : Nat := 93
abbrev n_r15_Model_Learn : Nat := 94
abbrev n_r15_Model_Came : Nat := 95
abbrev n_r15_Coder_Direct : Nat := 96
abbrev n_r15_Coder_Bytes : Nat := 97
abbrev n_plain_Get : Nat := 98
abbrev n_lens_Get : Nat := 99
abbrev n_huff_Get : Nat := 100
abbrev n_hist_Values : Nat := 101
abbrev n_norm_Get : Nat := 102
abbrev n_states_Get : Nat := 103
abbrev n_model_Get : Nat := 104
abbrev n_r1_From : Nat := 105
abbrev n_r1_Walk_Get : Nat := 106
abbrev n_r1_Walk_Rest : Nat := 107
abbrev n_r7_MayNorm : Nat := 108
abbrev n_r1_FromEnd : Nat := 109
abbrev n_r1_Tail_Get : Nat := 110
abbrev n_r15_From : Nat := 111
abbrev n_r15_Reader_Bit : Nat := 112
abbrev n_r15_Reader_Direct : Nat := 113
abbrev n_r15_Reader_End : Nat := 114
abbrev n_r1_Join : Nat := 115
abbrev n_xxh_begun : Nat := 116
abbrev n_xxh_four_step : Nat := 117
abbrev n_xxh_four_joined : Nat := 118
abbrev n_xxh_Mix : Nat := 119
abbrev n_xxh_tail : Nat := 120
abbrev n_strings_Builder_WriteString : Nat := 121
abbrev n_strings_Builder_String : Nat := 122
abbrev n_vint_Get : Nat := 123
abbrev n_vint_read : Nat := 124
abbrev n_vint_reader_word : Nat := 125
abbrev n_zig_Split : Nat := 126
abbrev n_merge_may : Nat := 127
abbrev n_hist_Order : Nat := 128
abbrev n_slices_Backward_S_int_int : Nat := 129
abbrev n_merge_maker_from : Nat := 130
abbrev n_canon_Codes : Nat := 131
abbrev n_bits_New : Nat := 132
abbrev n_zig_Join : Nat := 133
abbrev n_bits_Writer_Put : Nat := 134
abbrev n_bits_Writer_Bytes : Nat := 135
abbrev n_canon_May : Nat := 136
abbrev n_lens_noughts : Nat := 137
abbrev n_slices_ContainsFunc_S_int_int : Nat := 138
abbrev n_norm_Of_1 : Nat := 139
abbrev n_norm_mayLog : Nat := 140
abbrev n_norm_sum : Nat := 141
abbrev n_norm_taken : Nat := 142
abbrev n_states_made : Nat := 143
abbrev n_states_coder_forth : Nat := 144
abbrev n_slices_Backward_S_api_Part_api_Part : Nat := 145
abbrev n_states_coder_put : Nat := 146
abbrev n_back_Seal : Nat := 147
abbrev n_model_made : Nat := 148
abbrev n_chance_New : Nat := 149
abbrev n_model_model_forth : Nat := 150
abbrev n_chance_Encoder_Bit : Nat := 151
abbrev n_chance_Encoder_Direct : Nat := 152
abbrev n_chance_Encoder_Bytes : Nat := 153
abbrev n_r1_Map : Nat := 154
abbrev n_r1_length : Nat := 155
abbrev n_r7_best_key : Nat := 156
abbrev n_r7_Spread : Nat := 157
abbrev n_r15_halves : Nat := 158
abbrev n_r15_Mix : Nat := 159
abbrev n_r15_Model_inputs : Nat := 160
abbrev n_r15_chance : Nat := 161
abbrev n_r15_Coder_add : Nat := 162
abbrev n_r15_Coder_grow : Nat := 163
abbrev n_r15_Train : Nat := 164
abbrev n_r15_Move : Nat := 165
abbrev n_bits_From : Nat := 166
abbrev n_bits_Reader_Get : Nat := 167
abbrev n_huff_reader_code : Nat := 168
abbrev n_huff_reader_only : Nat := 169
abbrev n_huff_reader_read : Nat := 170
abbrev n_bits_Reader_Rest : Nat := 171
abbrev n_norm_Get_1 : Nat := 172
abbrev n_norm_May : Nat := 173
abbrev n_states_opened : Nat := 174
abbrev n_states_reader_back : Nat := 175
abbrev n_back_Reader_Left : Nat := 176
abbrev n_chance_From : Nat := 177
abbrev n_chance_Decoder_Bit : Nat := 178
abbrev n_model_model_class : Nat := 179
abbrev n_chance_Decoder_Direct : Nat := 180
abbrev n_chance_Decoder_End : Nat := 181
abbrev n_r1_Bits : Nat := 182
abbrev n_r1_number : Nat := 183
abbrev n_r15_Reader_ahead : Nat := 184
abbrev n_r1_Back : Nat := 185
abbrev n_xxh_Round : Nat := 186
abbrev n_bits_RotateLeft64 : Nat := 187
abbrev n_strings_Builder_copyCheck : Nat := 188
abbrev n_vint_reader_vint : Nat := 189
abbrev n_zig_Map : Nat := 190
abbrev n_bits_Len64 : Nat := 191
abbrev n_zig_top : Nat := 192
abbrev n_merge_may_1 : Nat := 193
abbrev n_heap_Push : Nat := 194
abbrev n_hist_places_Len : Nat := 195
abbrev n_heap_Pop : Nat := 196
abbrev n_slices_Backward_S_int_int_1 : Nat := 197
abbrev n_merge_maker_at : Nat := 198
abbrev n_canon_classes_Len : Nat := 199
abbrev n_zig_Back : Nat := 200
abbrev n_bits_Writer_bit : Nat := 201
abbrev n_slices_IndexFunc_S_int_int : Nat := 202
abbrev n_heap_Fix : Nat := 203
abbrev n_spread_Table : Nat := 204
abbrev n_slices_SortFunc_S_int_int : Nat := 205
abbrev n_states_made_1 : Nat := 206
abbrev n_slices_BinarySearchFunc_S_int_int_int : Nat := 207
abbrev n_states_coder_forth_1 : Nat := 208
abbrev n_slices_Backward_S_api_Part_api_Part_1 : Nat := 209
abbrev n_tree_Nodes : Nat := 210
abbrev n_model_told_next : Nat := 211
abbrev n_chance_share : Nat := 212
abbrev n_chance_Encoder_more : Nat := 213
abbrev n_chance_Encoder_grow : Nat := 214
abbrev n_r15_cut : Nat := 215
abbrev n_r15_Squash : Nat := 216
abbrev n_r15_Stretch : Nat := 217
abbrev n_bits_Reader_left : Nat := 218
abbrev n_bits_Reader_bit : Nat := 219
abbrev n_back_From : Nat := 220
abbrev n_states_reader_take : Nat := 221
abbrev n_chance_Decoder_gate : Nat := 222
abbrev n_chance_Decoder_part : Nat := 223
abbrev n_chance_Decoder_grow : Nat := 224
abbrev n_model_model_bit : Nat := 225
abbrev n_abi_NoEscape : Nat := 226
abbrev n_bits_Len8 : Nat := 227
abbrev n_heap_up : Nat := 228
abbrev n_heap_down : Nat := 229
abbrev n_spread_Spread : Nat := 230
abbrev n_spread_maker_cell : Nat := 231
abbrev n_slices_pdqsortCmpFunc_int : Nat := 232
abbrev n_bits_Len : Nat := 233
abbrev n_tree_isClass : Nat := 234
abbrev n_chance_cut : Nat := 235
abbrev n_back_Reader_Get : Nat := 236
abbrev n_model_model_rows : Nat := 237
abbrev n_squash_Stretch : Nat := 238
abbrev n_mixer_Mix : Nat := 239
abbrev n_mixer_Train : Nat := 240
abbrev n_tree_Move : Nat := 241
abbrev n_slices_insertionSortCmpFunc_int : Nat := 242
abbrev n_slices_heapSortCmpFunc_int : Nat := 243
abbrev n_slices_breakPatternsCmpFunc_int : Nat := 244
abbrev n_slices_choosePivotCmpFunc_int : Nat := 245
abbrev n_slices_reverseRangeCmpFunc_int : Nat := 246
abbrev n_slices_partialInsertionSortCmpFunc_int : Nat := 247
abbrev n_slices_partitionEqualCmpFunc_int : Nat := 248
abbrev n_slices_partitionCmpFunc_int : Nat := 249
abbrev n_bits_Len32 : Nat := 250
abbrev n_squash_Squash : Nat := 251
abbrev n_mixer_weight : Nat := 252
abbrev n_mixer_input : Nat := 253
abbrev n_slices_siftDownCmpFunc_int : Nat := 254
abbrev n_slices_nextPowerOfTwo : Nat := 255
abbrev n_slices_xorshift_Next : Nat := 256
abbrev n_slices_medianAdjacentCmpFunc_int : Nat := 257
abbrev n_slices_medianCmpFunc_int : Nat := 258
abbrev n_slices_order2CmpFunc_int : Nat := 259
abbrev n_runtime_boundsError_Error : Nat := 260
abbrev n_runtime_boundsError_RuntimeError : Nat := 261
abbrev n_runtime_errorString_Error : Nat := 262
abbrev n_runtime_errorString_RuntimeError : Nat := 263
abbrev n_runtime_plainError_Error : Nat := 264
abbrev n_runtime_plainError_RuntimeError : Nat := 265
abbrev n_runtime_errorAddressString_Error : Nat := 266
abbrev n_runtime_errorAddressString_RuntimeError : Nat := 267
abbrev n_runtime_TypeAssertionError_Error : Nat := 268
abbrev n_runtime_TypeAssertionError_RuntimeError : Nat := 269
abbrev n_runtime_PanicNilError_Error : Nat := 270
abbrev n_runtime_PanicNilError_RuntimeError : Nat := 271
abbrev n_abi_Type_Align : Nat := 272
abbrev n_abi_Type_Len : Nat := 273
abbrev n_maps_unhashableTypeError_Error : Nat := 274
abbrev n_maps_unhashableTypeError_RuntimeError : Nat := 275
abbrev n_strings_Builder_Len : Nat := 276
abbrev n_strings_Builder_Reset : Nat := 277
abbrev n_bits_Writer_Len : Nat := 278
abbrev n_hist_places_Less : Nat := 279
abbrev n_hist_places_Pop : Nat := 280
abbrev n_hist_places_Push : Nat := 281
abbrev n_hist_places_Swap : Nat := 282
abbrev n_canon_classes_Less : Nat := 283
abbrev n_canon_classes_Pop : Nat := 284
abbrev n_canon_classes_Push : Nat := 285
abbrev n_canon_classes_Swap : Nat := 286
abbrev n_norm_classes_Len : Nat := 287
abbrev n_norm_classes_Less : Nat := 288
abbrev n_norm_classes_Pop : Nat := 289
abbrev n_norm_classes_Push : Nat := 290
abbrev n_norm_classes_Swap : Nat := 291
abbrev n_abi_Kind_String : Nat := 292
abbrev t_unit : Nat := 0
abbrev t_func : Nat := 1
abbrev t_int64 : Nat := 2
abbrev t_int : Nat := 3
abbrev t_bool : Nat := 4
abbrev t_uint8 : Nat := 5
abbrev t_abi_BoundsErrorCode : Nat := 6
abbrev t_struct_x_int64_y_int_signed_bool_code_abi_BoundsErrorCode : Nat := 7
abbrev t_runtime_boundsError : Nat := 8
abbrev t_string : Nat := 9
abbrev t_runtime_errorString : Nat := 10
abbrev t_runtime_plainError : Nat := 11
abbrev t_uintptr : Nat := 12
abbrev t_struct_msg_string_addr_uintptr : Nat := 13
abbrev t_runtime_errorAddressString : Nat := 14
abbrev t_P_runtime_TypeAssertionError : Nat := 15
abbrev t_P_runtime_PanicNilError : Nat := 16
abbrev t_P_abi_Type : Nat := 17
abbrev t_struct_typ_P_abi_Type : Nat := 18
abbrev t_maps_unhashableTypeError : Nat := 19
abbrev t_interface : Nat := 20
abbrev t_int32 : Nat := 21
abbrev t_uint64 : Nat := 22
abbrev t_struct_Block_int_Limit_int_Log_int_Way_int_Seed_uint64 : Nat := 23
abbrev t_api_Options : Nat := 24
abbrev t_S_int64 : Nat := 25
abbrev t_func_bool : Nat := 26
abbrev t_api_Errno : Nat := 27
abbrev t_string_api_Errno : Nat := 28
abbrev t_func_int_api_Options_S_int64_string_api_Errno : Nat := 29
abbrev t_struct_S_string_E_int : Nat := 30
abbrev t_r7_Text : Nat := 31
abbrev t_func_int_api_Options_S_int64_r7_Text : Nat := 32
abbrev t_S_int64_api_Errno : Nat := 33
abbrev t_func_int_string_int_S_int64_api_Errno : Nat := 34
abbrev t_struct_L_S_int64_E_int : Nat := 35
abbrev t_r20_Nums : Nat := 36
abbrev t_func_int_string_int_r20_Nums : Nat := 37
abbrev t_int_S_int64_int_api_Errno : Nat := 38
abbrev t_func_string_int_uint64_int_int_S_int64_int_api_Errno : Nat := 39
abbrev t_struct_Way_int_L_S_int64_Next_int_E_int : Nat := 40
abbrev t_r20_Block : Nat := 41
abbrev t_func_string_int_uint64_int_r20_Block : Nat := 42
abbrev t_func_api_Options_bool : Nat := 43
abbrev t_func_api_Errno_int : Nat := 44
abbrev t_func_S_int64_S_int64_bool : Nat := 45
abbrev t_func_int_api_Options_S_int64_string_int_int_uint64_int_bool : Nat := 46
abbrev t_S_uint16 : Nat := 47
abbrev t_uint16 : Nat := 48
abbrev t_func_S_uint16_S_int64 : Nat := 49
abbrev t_func_uint8_uint8_uint8_uint8_uint64_api_Options : Nat := 50
abbrev t_S_uint8 : Nat := 51
abbrev t_S_string : Nat := 52
abbrev t_func_S_uint16_uint8_uint8_uint8_uint8_uint64_uint16_uint8_uint16_bool : Nat := 53
abbrev t_func_S_uint16_uint8_uint8_uint8_uint8_uint64_uint64_string_bool : Nat := 54
abbrev t_func_S_uint16_uint8_uint8_uint8_S_int64_bool : Nat := 55
abbrev t_S_api_Options : Nat := 56
abbrev t_func_uint8_int_bool : Nat := 57
abbrev t_func_S_uint16_uint64_uint16_uint8_bool : Nat := 58
abbrev t_func_uint64_string : Nat := 59
abbrev t_func_uint64_string_uint64 : Nat := 60
abbrev t_func_S_int64_string : Nat := 61
abbrev t_func_S_uint16_uint8_uint8_uint8_uint8_uint64_uint16_bool : Nat := 62
abbrev t_func_S_uint16_uint8_uint8_uint8_uint8_uint8_bool : Nat := 63
abbrev t_func_int_bool : Nat := 64
abbrev t_func_int_int_int_bool : Nat := 65
abbrev t_func_block_loader_string_api_Errno : Nat := 66
abbrev t_func_string_api_Errno : Nat := 67
abbrev t_struct_o_api_Options_l_S_int64 : Nat := 68
abbrev t_block_loader : Nat := 69
abbrev t_A4_func_block_loader_string_api_Errno : Nat := 70
abbrev t_S_api_Part : Nat := 71
abbrev t_func_S_int64_S_api_Part : Nat := 72
abbrev t_S_int : Nat := 73
abbrev t_func_S_api_Part_S_int : Nat := 74
abbrev t_struct_L_S_int_E_int : Nat := 75
abbrev t_r7_Ints : Nat := 76
abbrev t_func_S_int_int_r7_Ints : Nat := 77
abbrev t_func_S_int_string : Nat := 78
abbrev t_func_S_api_Part_S_int_r7_Text : Nat := 79
abbrev t_func_S_api_Part_S_int_int_r7_Text : Nat := 80
abbrev t_func_S_api_Part_r7_Text : Nat := 81
abbrev t_func_block_unloader_S_int64_bool : Nat := 82
abbrev t_func_S_int64_bool : Nat := 83
abbrev t_struct_s_string_n_int : Nat := 84
abbrev t_block_unloader : Nat := 85
abbrev t_A4_func_block_unloader_S_int64_bool : Nat := 86
abbrev t_S_int64_bool : Nat := 87
abbrev t_struct_L_S_api_Part_E_int : Nat := 88
abbrev t_r7_Told : Nat := 89
abbrev t_struct_L_S_int64_Ok_bool : Nat := 90
abbrev t_r7_Nums : Nat := 91
abbrev t_func_string_r7_Nums : Nat := 92
abbrev t_struct_L_S_int_Next_int_E_int : Nat := 93
abbrev t_r7_Lens : Nat := 94
abbrev t_func_string_int_r7_Lens : Nat := 95
abbrev t_func_string_int_S_int_r7_Told : Nat := 96
abbrev t_func_string_int_int_r7_Lens : Nat := 97
abbrev t_func_string_int_S_int_int_r7_Told : Nat := 98
abbrev t_func_string_int_r7_Told : Nat := 99
abbrev t_func_S_api_Part_r7_Nums : Nat := 100
abbrev t_int_int_int_int_api_Errno : Nat := 101
abbrev t_func_string_int_int_int_int_int_int_api_Errno : Nat := 102
abbrev t_uint64_int_api_Errno : Nat := 103
abbrev t_func_string_int_uint64_int_api_Errno : Nat := 104
abbrev t_struct_N_uint64_Next_int_E_int : Nat := 105
abbrev t_r1_Got : Nat := 106
abbrev t_func_string_int_r1_Got : Nat := 107
abbrev t_uint : Nat := 108
abbrev t_S_uint64 : Nat := 109
abbrev t_func_uint64_uint64_uint64 : Nat := 110
abbrev t_func_uint64_int_uint64 : Nat := 111
abbrev t_func_uint64_uint64 : Nat := 112
abbrev t_S_int_api_Errno : Nat := 113
abbrev t_func_S_int_int_S_int_api_Errno : Nat := 114
abbrev t_func_S_api_Part_S_int_string_api_Errno : Nat := 115
abbrev t_func_S_api_Part_S_int_int_string_api_Errno : Nat := 116
abbrev t_func_S_api_Part_string_api_Errno : Nat := 117
abbrev t_struct_Class_int_Rest_uint64 : Nat := 118
abbrev t_api_Part : Nat := 119
abbrev t_func_int64_api_Part : Nat := 120
abbrev t_func_S_int_S_int : Nat := 121
abbrev t_P_r7_best : Nat := 122
abbrev t_struct_freq_S_int_limit_int_known_S_int_sums_S_int : Nat := 123
abbrev t_r7_best : Nat := 124
abbrev t_func_int_int_int_int : Nat := 125
abbrev t_func_S_int_bool : Nat := 126
abbrev t_P_r1_Row : Nat := 127
abbrev t_struct_L_S_uint8 : Nat := 128
abbrev t_r1_Row : Nat := 129
abbrev t_func_uint64_int : Nat := 130
abbrev t_func_string : Nat := 131
abbrev t_S_api_Code : Nat := 132
abbrev t_struct_L_S_api_Code_E_int : Nat := 133
abbrev t_r7_Codes : Nat := 134
abbrev t_func_S_int_r7_Codes : Nat := 135
abbrev t_func_api_Part_bool : Nat := 136
abbrev t_struct_Bits_int_Len_int : Nat := 137
abbrev t_api_Code : Nat := 138
abbrev t_func_P_r1_Row_api_Part : Nat := 139
abbrev t_S_api_Cell : Nat := 140
abbrev t_struct_L_S_api_Cell_E_int : Nat := 141
abbrev t_r7_Cells : Nat := 142
abbrev t_func_S_int_int_r7_Cells : Nat := 143
abbrev t_struct_Class_int_Bits_int_Base_int : Nat := 144
abbrev t_api_Cell : Nat := 145
abbrev t_func_S_uint64_S_int_string : Nat := 146
abbrev t_P_r15_Model : Nat := 147
abbrev t_func_P_r15_Model : Nat := 148
abbrev t_P_r15_Coder : Nat := 149
abbrev t_func_P_r15_Coder : Nat := 150
abbrev t_S_int_S_int : Nat := 151
abbrev t_func_int_S_int_S_int : Nat := 152
abbrev t_func_int_int_int : Nat := 153
abbrev t_func_int_int : Nat := 154
abbrev t_func_int_int_int_int_v2 : Nat := 155
abbrev t_func_int : Nat := 156
abbrev t_func_string_S_int64_bool : Nat := 157
abbrev t_S_int_int_api_Errno : Nat := 158
abbrev t_func_string_int_S_int_int_api_Errno : Nat := 159
abbrev t_S_api_Part_api_Errno : Nat := 160
abbrev t_func_string_int_S_int_S_api_Part_api_Errno : Nat := 161
abbrev t_func_S_api_Part_S_int64_bool : Nat := 162
abbrev t_func_string_int_int_S_int_int_api_Errno : Nat := 163
abbrev t_func_string_int_S_int_int_S_api_Part_api_Errno : Nat := 164
abbrev t_func_string_int_S_api_Part_api_Errno : Nat := 165
abbrev t_P_r1_Walk : Nat := 166
abbrev t_func_string_P_r1_Walk : Nat := 167
abbrev t_func_int_r1_Got : Nat := 168
abbrev t_func_S_int_int_bool : Nat := 169
abbrev t_P_r1_Tail : Nat := 170
abbrev t_func_string_P_r1_Tail : Nat := 171
abbrev t_r1_Tail : Nat := 172
abbrev t_P_r15_Reader : Nat := 173
abbrev t_func_string_P_r15_Reader : Nat := 174
abbrev t_func_int_v2 : Nat := 175
abbrev t_struct_V_int64_Ok_bool : Nat := 176
abbrev t_r1_Num : Nat := 177
abbrev t_func_api_Part_r1_Num : Nat := 178
abbrev t_A8_uint8 : Nat := 179
abbrev t_A4_uint64 : Nat := 180
abbrev t_xxh_four : Nat := 181
abbrev t_func_uint64_xxh_four : Nat := 182
abbrev t_func_xxh_four_string_xxh_four : Nat := 183
abbrev t_func_string_xxh_four : Nat := 184
abbrev t_func_uint64 : Nat := 185
abbrev t_P_strings_Builder : Nat := 186
abbrev t_struct_addr_P_strings_Builder_buf_S_uint8 : Nat := 187
abbrev t_strings_Builder : Nat := 188
abbrev t_func_string_int_error : Nat := 189
abbrev t_interface_Error_string : Nat := 190
abbrev t_error : Nat := 191
abbrev t_int_error : Nat := 192
abbrev t_func_string_int_func_vint_reader_uint64_int_api_Errno_uint64_int_api_Errno : Nat := 193
abbrev t_func_vint_reader_uint64_int_api_Errno : Nat := 194
abbrev t_func_uint64_int_api_Errno : Nat := 195
abbrev t_struct_s_string : Nat := 196
abbrev t_vint_reader : Nat := 197
abbrev t_P_merge_maker : Nat := 198
abbrev t_S_merge_best : Nat := 199
abbrev t_struct_sums_S_int_limit_int_had_S_merge_best : Nat := 200
abbrev t_merge_maker : Nat := 201
abbrev t_func_func_int_int_bool : Nat := 202
abbrev t_iter_Seq2_int_int : Nat := 203
abbrev t_func_S_int_iter_Seq2_int_int : Nat := 204
abbrev t_struct_deep_int_done_int_open_int : Nat := 205
abbrev t_merge_node : Nat := 206
abbrev t_struct_cost_int_leaves_int_is_bool_known_bool : Nat := 207
abbrev t_merge_best : Nat := 208
abbrev t_func_merge_node_merge_best : Nat := 209
abbrev t_S_api_Code_api_Errno : Nat := 210
abbrev t_func_S_int_S_api_Code_api_Errno : Nat := 211
abbrev t_P_bits_Writer : Nat := 212
abbrev t_func_P_bits_Writer : Nat := 213
abbrev t_int64_bool : Nat := 214
abbrev t_func_api_Part_int64_bool : Nat := 215
abbrev t_func_S_int_int : Nat := 216
abbrev t_func_S_int_func_int_bool_bool : Nat := 217
abbrev t_func_S_int_int_v2 : Nat := 218
abbrev t_P_states_coder : Nat := 219
abbrev t_P_states_coder_api_Errno : Nat := 220
abbrev t_func_S_int_int_P_states_coder_api_Errno : Nat := 221
abbrev t_func_func_int_api_Part_bool : Nat := 222
abbrev t_iter_Seq2_int_wringer_api_Part : Nat := 223
abbrev t_func_S_api_Part_iter_Seq2_int_wringer_api_Part : Nat := 224
abbrev t_A65_S_int : Nat := 225
abbrev t_struct_table_S_api_Cell_of_A65_S_int_state_int_vals_S_uint64_lens_S_int : Nat := 226
abbrev t_states_coder : Nat := 227
abbrev t_P_model_model : Nat := 228
abbrev t_func_P_model_model : Nat := 229
abbrev t_P_chance_Encoder : Nat := 230
abbrev t_func_P_chance_Encoder : Nat := 231
abbrev t_func_int_func_int_int : Nat := 232
abbrev t_func_int64_uint64 : Nat := 233
abbrev t_func_uint64_int_v2 : Nat := 234
abbrev t_func_int_S_int : Nat := 235
abbrev t_S_S_int : Nat := 236
abbrev t_struct_First_S_int_Second_S_int_Third_S_int_Weights_S_S_int_A_int_B_int : Nat := 237
abbrev t_r15_Model : Nat := 238
abbrev t_struct_Low_S_uint8_Range_uint64 : Nat := 239
abbrev t_r15_Coder : Nat := 240
abbrev t_func_S_int_S_int_int : Nat := 241
abbrev t_func_int_uint64 : Nat := 242
abbrev t_func_uint64_v2 : Nat := 243
abbrev t_func_S_int_S_int_int_int_S_int : Nat := 244
abbrev t_func_int_uint64_api_Errno : Nat := 245
abbrev t_P_bits_Reader : Nat := 246
abbrev t_func_string_P_bits_Reader : Nat := 247
abbrev t_uint64_api_Errno : Nat := 248
abbrev t_P_huff_reader : Nat := 249
abbrev t_M_api_Code_int : Nat := 250
abbrev t_struct_r_P_bits_Reader_class_M_api_Code_int : Nat := 251
abbrev t_huff_reader : Nat := 252
abbrev t_func_int_api_Errno : Nat := 253
abbrev t_api_Part_api_Errno : Nat := 254
abbrev t_func_func_int_api_Errno_api_Part_api_Errno : Nat := 255
abbrev t_func_uint64_api_Errno : Nat := 256
abbrev t_P_states_reader : Nat := 257
abbrev t_P_states_reader_bool : Nat := 258
abbrev t_func_string_P_states_coder_int_P_states_reader_bool : Nat := 259
abbrev t_func_api_Part_bool_v2 : Nat := 260
abbrev t_api_Part_bool : Nat := 261
abbrev t_P_back_Reader : Nat := 262
abbrev t_struct_P_states_coder_sealed_P_back_Reader_rests_P_bits_Reader : Nat := 263
abbrev t_states_reader : Nat := 264
abbrev t_P_chance_Decoder : Nat := 265
abbrev t_func_string_P_chance_Decoder : Nat := 266
abbrev t_func_int_int_api_Errno : Nat := 267
abbrev t_int_api_Errno : Nat := 268
abbrev t_func_func_int_int_api_Errno_int_api_Errno : Nat := 269
abbrev t_func_api_Errno : Nat := 270
abbrev t_func_string_S_uint8 : Nat := 271
abbrev t_struct_L_S_uint8_At_int : Nat := 272
abbrev t_r1_Walk : Nat := 273
abbrev t_func_S_uint8_uint64 : Nat := 274
abbrev t_struct_S_string_C_P_r15_Coder_Bad_bool : Nat := 275
abbrev t_r15_Reader : Nat := 276
abbrev t_func_r1_Got : Nat := 277
abbrev t_func_uint64_int64 : Nat := 278
abbrev t_A4_int : Nat := 279
abbrev t_P_uint8 : Nat := 280
abbrev t_P_hist_places : Nat := 281
abbrev t_S_hist_place : Nat := 282
abbrev t_hist_places : Nat := 283
abbrev t_func_heap_Interface_interface : Nat := 284
abbrev t_struct_at_int_n_int : Nat := 285
abbrev t_hist_place : Nat := 286
abbrev t_hist_place_bool : Nat := 287
abbrev t_func_heap_Interface_interface_v2 : Nat := 288
abbrev t_func_int_int_bool : Nat := 289
abbrev t_func_merge_node_int : Nat := 290
abbrev t_P_canon_classes : Nat := 291
abbrev t_S_canon_class : Nat := 292
abbrev t_canon_classes : Nat := 293
abbrev t_struct_at_int_size_int : Nat := 294
abbrev t_canon_class : Nat := 295
abbrev t_canon_class_bool : Nat := 296
abbrev t_struct_b_S_uint8_n_int : Nat := 297
abbrev t_bits_Writer : Nat := 298
abbrev t_func_S_int_func_int_bool_int : Nat := 299
abbrev t_P_norm_classes : Nat := 300
abbrev t_S_norm_class : Nat := 301
abbrev t_norm_classes : Nat := 302
abbrev t_struct_at_int_n_int_v2 : Nat := 303
abbrev t_norm_class : Nat := 304
abbrev t_P_norm_class : Nat := 305
abbrev t_func_heap_Interface_int : Nat := 306
abbrev t_S_api_Cell_api_Errno : Nat := 307
abbrev t_func_S_int_int_S_api_Cell_api_Errno : Nat := 308
abbrev t_func_S_int_func_int_int_int : Nat := 309
abbrev t_int_bool : Nat := 310
abbrev t_func_S_int_int_func_int_int_int_int_bool : Nat := 311
abbrev t_func_int_api_Part_bool : Nat := 312
abbrev t_S_model_row : Nat := 313
abbrev t_A3_S_model_row : Nat := 314
abbrev t_A7_S_int : Nat := 315
abbrev t_struct_l_A3_S_model_row_weights_A7_S_int_a_int_b_int : Nat := 316
abbrev t_model_model : Nat := 317
abbrev t_A3_int : Nat := 318
abbrev t_A128_int : Nat := 319
abbrev t_model_row : Nat := 320
abbrev t_struct_done_S_uint8_low_uint64_size_uint64 : Nat := 321
abbrev t_chance_Encoder : Nat := 322
abbrev t_P_model_told : Nat := 323
abbrev t_struct_bits_S_int_put_func_int_int : Nat := 324
abbrev t_model_told : Nat := 325
abbrev t_func_int_int_v2 : Nat := 326
abbrev t_struct_s_string_at_int : Nat := 327
abbrev t_bits_Reader : Nat := 328
abbrev t_P_back_Reader_api_Errno : Nat := 329
abbrev t_func_string_P_back_Reader_api_Errno : Nat := 330
abbrev t_func_int_int_bool_v2 : Nat := 331
abbrev t_struct_s_string_left_int : Nat := 332
abbrev t_back_Reader : Nat := 333
abbrev t_struct_s_string_at_int_need_int_v_uint64_size_uint64_dead_bool : Nat := 334
abbrev t_chance_Decoder : Nat := 335
abbrev t_func_uint64_bool : Nat := 336
abbrev t_func_int_int_func_int_int_api_Errno_int_api_Errno : Nat := 337
abbrev t_unsafe_Pointer : Nat := 338
abbrev t_func_unsafe_Pointer_unsafe_Pointer : Nat := 339
abbrev t_func_uint8_int : Nat := 340
abbrev t_interface_Len_int_Less_int_int_bool_Pop_interface_Push_interface_Swap_int_int : Nat := 341
abbrev t_heap_Interface : Nat := 342
abbrev t_func_interface : Nat := 343
abbrev t_func_heap_Interface_int_int_bool : Nat := 344
abbrev t_func_interface_v2 : Nat := 345
abbrev t_P_spread_maker : Nat := 346
abbrev t_struct_size_int_log_int_next_S_int : Nat := 347
abbrev t_spread_maker : Nat := 348
abbrev t_func_P_spread_maker_int_api_Cell : Nat := 349
abbrev t_func_int_api_Cell : Nat := 350
abbrev t_func_S_int_int_int_int_func_int_int_int : Nat := 351
abbrev t_func_uint_int : Nat := 352
abbrev t_P_model_row : Nat := 353
abbrev t_A3_P_model_row : Nat := 354
abbrev t_func_A3_P_model_row : Nat := 355
abbrev t_func_S_int_int_int_func_int_int_int : Nat := 356
abbrev t_slices_sortedHint : Nat := 357
abbrev t_int_slices_sortedHint : Nat := 358
abbrev t_func_S_int_int_int_func_int_int_int_int_slices_sortedHint : Nat := 359
abbrev t_func_S_int_int_int_func_int_int_int_bool : Nat := 360
abbrev t_func_S_int_int_int_int_func_int_int_int_int : Nat := 361
abbrev t_func_S_int_int_int_int_func_int_int_int_int_bool : Nat := 362
abbrev t_func_uint32_int : Nat := 363
abbrev t_uint32 : Nat := 364
abbrev t_slices_xorshift : Nat := 365
abbrev t_func_int_uint : Nat := 366
abbrev t_func_S_int_int_P_int_func_int_int_int_int : Nat := 367
abbrev t_P_int : Nat := 368
abbrev t_func_S_int_int_int_int_P_int_func_int_int_int_int : Nat := 369
abbrev t_P_slices_xorshift : Nat := 370
abbrev t_int_int : Nat := 371
abbrev t_func_S_int_int_int_P_int_func_int_int_int_int_int : Nat := 372
abbrev t_struct_interface_P_abi_Type_concrete_P_abi_Type_asserted_P_abi_Type_missingMethod_string : Nat := 373
abbrev t_runtime_TypeAssertionError : Nat := 374
abbrev t_A0_P_runtime_PanicNilError : Nat := 375
abbrev t_struct_A0_P_runtime_PanicNilError : Nat := 376
abbrev t_runtime_PanicNilError : Nat := 377
abbrev t_abi_TFlag : Nat := 378
abbrev t_abi_Kind : Nat := 379
abbrev t_func_unsafe_Pointer_unsafe_Pointer_bool : Nat := 380
abbrev t_abi_NameOff : Nat := 381
abbrev t_abi_TypeOff : Nat := 382
abbrev t_struct_Size_uintptr_PtrBytes_uintptr_Hash_uint32_TFlag_abi_TFlag_Align_uint8_FieldAlign_uint8_Kind_abi_Kind_Equal_func_unsafe_Pointer_unsafe_Pointer_bool_GCData_P_uint8_Str_abi_NameOff_PtrToThis_abi_TypeOff : Nat := 383
abbrev t_abi_Type : Nat := 384
abbrev t_norm_class_bool : Nat := 385
theorem u_int64 : prog.underlying t_int64 = some (.int .i64) := underlying2
theorem u_int : prog.underlying t_int = some (.int .i64) := underlying3
theorem u_bool : prog.underlying t_bool = some (.bool) := underlying4
theorem u_uint8 : prog.underlying t_uint8 = some (.int .u8) := underlying5
theorem u_abi_BoundsErrorCode : prog.underlying t_abi_BoundsErrorCode = some (.int .u8) := underlying6
theorem u_string : prog.underlying t_string = some (.string) := underlying9
theorem u_runtime_errorString : prog.underlying t_runtime_errorString = some (.string) := underlying10
theorem u_runtime_plainError : prog.underlying t_runtime_plainError = some (.string) := underlying11
theorem u_uintptr : prog.underlying t_uintptr = some (.int .u64) := underlying12
theorem u_P_runtime_TypeAssertionError : prog.underlying t_P_runtime_TypeAssertionError = some (.pointer t_runtime_TypeAssertionError) := underlying15
theorem u_P_runtime_PanicNilError : prog.underlying t_P_runtime_PanicNilError = some (.pointer t_runtime_PanicNilError) := underlying16
theorem u_P_abi_Type : prog.underlying t_P_abi_Type = some (.pointer t_abi_Type) := underlying17
theorem u_int32 : prog.underlying t_int32 = some (.int .i32) := underlying21
theorem u_uint64 : prog.underlying t_uint64 = some (.int .u64) := underlying22
theorem u_S_int64 : prog.underlying t_S_int64 = some (.slice t_int64) := underlying25
theorem u_api_Errno : prog.underlying t_api_Errno = some (.int .i64) := underlying27
theorem u_S_uint16 : prog.underlying t_S_uint16 = some (.slice t_uint16) := underlying47
theorem u_uint16 : prog.underlying t_uint16 = some (.int .u16) := underlying48
theorem u_S_uint8 : prog.underlying t_S_uint8 = some (.slice t_uint8) := underlying51
theorem u_S_string : prog.underlying t_S_string = some (.slice t_string) := underlying52
theorem u_S_api_Options : prog.underlying t_S_api_Options = some (.slice t_api_Options) := underlying56
theorem u_A4_func_block_loader_string_api_Errno : prog.underlying t_A4_func_block_loader_string_api_Errno = some (.array 4 t_func_block_loader_string_api_Errno) := underlying70
theorem u_S_api_Part : prog.underlying t_S_api_Part = some (.slice t_api_Part) := underlying71
theorem u_S_int : prog.underlying t_S_int = some (.slice t_int) := underlying73
theorem u_A4_func_block_unloader_S_int64_bool : prog.underlying t_A4_func_block_unloader_S_int64_bool = some (.array 4 t_func_block_unloader_S_int64_bool) := underlying86
theorem u_uint : prog.underlying t_uint = some (.int .u64) := underlying108
theorem u_S_uint64 : prog.underlying t_S_uint64 = some (.slice t_uint64) := underlying109
theorem u_P_r7_best : prog.underlying t_P_r7_best = some (.pointer t_r7_best) := underlying122
theorem u_P_r1_Row : prog.underlying t_P_r1_Row = some (.pointer t_r1_Row) := underlying127
theorem u_S_api_Code : prog.underlying t_S_api_Code = some (.slice t_api_Code) := underlying132
theorem u_S_api_Cell : prog.underlying t_S_api_Cell = some (.slice t_api_Cell) := underlying140
theorem u_P_r15_Model : prog.underlying t_P_r15_Model = some (.pointer t_r15_Model) := underlying147
theorem u_P_r15_Coder : prog.underlying t_P_r15_Coder = some (.pointer t_r15_Coder) := underlying149
theorem u_P_r1_Walk : prog.underlying t_P_r1_Walk = some (.pointer t_r1_Walk) := underlying166
theorem u_P_r1_Tail : prog.underlying t_P_r1_Tail = some (.pointer t_r1_Tail) := underlying170
theorem u_P_r15_Reader : prog.underlying t_P_r15_Reader = some (.pointer t_r15_Reader) := underlying173
theorem u_A8_uint8 : prog.underlying t_A8_uint8 = some (.array 8 t_uint8) := underlying179
theorem u_A4_uint64 : prog.underlying t_A4_uint64 = some (.array 4 t_uint64) := underlying180
theorem u_xxh_four : prog.underlying t_xxh_four = some (.array 4 t_uint64) := underlying181
theorem u_P_strings_Builder : prog.underlying t_P_strings_Builder = some (.pointer t_strings_Builder) := underlying186
theorem u_P_merge_maker : prog.underlying t_P_merge_maker = some (.pointer t_merge_maker) := underlying198
theorem u_S_merge_best : prog.underlying t_S_merge_best = some (.slice t_merge_best) := underlying199
theorem u_P_bits_Writer : prog.underlying t_P_bits_Writer = some (.pointer t_bits_Writer) := underlying212
theorem u_P_states_coder : prog.underlying t_P_states_coder = some (.pointer t_states_coder) := underlying219
theorem u_A65_S_int : prog.underlying t_A65_S_int = some (.array 65 t_S_int) := underlying225
theorem u_P_model_model : prog.underlying t_P_model_model = some (.pointer t_model_model) := underlying228
theorem u_P_chance_Encoder : prog.underlying t_P_chance_Encoder = some (.pointer t_chance_Encoder) := underlying230
theorem u_S_S_int : prog.underlying t_S_S_int = some (.slice t_S_int) := underlying236
theorem u_P_bits_Reader : prog.underlying t_P_bits_Reader = some (.pointer t_bits_Reader) := underlying246
theorem u_P_huff_reader : prog.underlying t_P_huff_reader = some (.pointer t_huff_reader) := underlying249
theorem u_M_api_Code_int : prog.underlying t_M_api_Code_int = some (.map t_api_Code t_int) := underlying250
theorem u_P_states_reader : prog.underlying t_P_states_reader = some (.pointer t_states_reader) := underlying257
theorem u_P_back_Reader : prog.underlying t_P_back_Reader = some (.pointer t_back_Reader) := underlying262
theorem u_P_chance_Decoder : prog.underlying t_P_chance_Decoder = some (.pointer t_chance_Decoder) := underlying265
theorem u_A4_int : prog.underlying t_A4_int = some (.array 4 t_int) := underlying279
theorem u_P_uint8 : prog.underlying t_P_uint8 = some (.pointer t_uint8) := underlying280
theorem u_P_hist_places : prog.underlying t_P_hist_places = some (.pointer t_hist_places) := underlying281
theorem u_hist_places : prog.underlying t_hist_places = some (.slice t_hist_place) := underlying283
theorem u_P_canon_classes : prog.underlying t_P_canon_classes = some (.pointer t_canon_classes) := underlying291
theorem u_canon_classes : prog.underlying t_canon_classes = some (.slice t_canon_class) := underlying293
theorem u_P_norm_classes : prog.underlying t_P_norm_classes = some (.pointer t_norm_classes) := underlying300
theorem u_norm_classes : prog.underlying t_norm_classes = some (.slice t_norm_class) := underlying302
theorem u_P_norm_class : prog.underlying t_P_norm_class = some (.pointer t_norm_class) := underlying305
theorem u_S_model_row : prog.underlying t_S_model_row = some (.slice t_model_row) := underlying313
theorem u_A3_S_model_row : prog.underlying t_A3_S_model_row = some (.array 3 t_S_model_row) := underlying314
theorem u_A7_S_int : prog.underlying t_A7_S_int = some (.array 7 t_S_int) := underlying315
theorem u_A3_int : prog.underlying t_A3_int = some (.array 3 t_int) := underlying318
theorem u_model_row : prog.underlying t_model_row = some (.array 128 t_int) := underlying320
theorem u_P_model_told : prog.underlying t_P_model_told = some (.pointer t_model_told) := underlying323
theorem u_P_spread_maker : prog.underlying t_P_spread_maker = some (.pointer t_spread_maker) := underlying346
theorem u_P_model_row : prog.underlying t_P_model_row = some (.pointer t_model_row) := underlying353
theorem u_A3_P_model_row : prog.underlying t_A3_P_model_row = some (.array 3 t_P_model_row) := underlying354
theorem u_slices_sortedHint : prog.underlying t_slices_sortedHint = some (.int .i64) := underlying357
theorem u_uint32 : prog.underlying t_uint32 = some (.int .u32) := underlying364
theorem u_slices_xorshift : prog.underlying t_slices_xorshift = some (.int .u64) := underlying365
theorem u_P_int : prog.underlying t_P_int = some (.pointer t_int) := underlying368
theorem u_P_slices_xorshift : prog.underlying t_P_slices_xorshift = some (.pointer t_slices_xorshift) := underlying370
theorem i_int64 : ∃ i, prog.info? t_int64 = some i ∧ i.zero = some (.int .i64 0) ∧ i.size = 1 ∧ i.bytes = 8 := ⟨(prog.info? t_int64).get (by kernel_rfl), by kernel_rfl, by kernel_rfl, by kernel_rfl, by kernel_rfl⟩
theorem i_int : ∃ i, prog.info? t_int = some i ∧ i.zero = some (.int .i64 0) ∧ i.size = 1 ∧ i.bytes = 8 := ⟨(prog.info? t_int).get (by kernel_rfl), by kernel_rfl, by kernel_rfl, by kernel_rfl, by kernel_rfl⟩
theorem i_uint8 : ∃ i, prog.info? t_uint8 = some i ∧ i.zero = some (.int .u8 0) ∧ i.size = 1 ∧ i.bytes = 1 := ⟨(prog.info? t_uint8).get (by kernel_rfl), by kernel_rfl, by kernel_rfl, by kernel_rfl, by kernel_rfl⟩
theorem i_string : ∃ i, prog.info? t_string = some i ∧ i.zero = some (.string ByteArray.empty) ∧ i.size = 1 ∧ i.bytes = 16 := ⟨(prog.info? t_string).get (by kernel_rfl), by kernel_rfl, by kernel_rfl, by kernel_rfl, by kernel_rfl⟩
theorem i_uint64 : ∃ i, prog.info? t_uint64 = some i ∧ i.zero = some (.int .u64 0) ∧ i.size = 1 ∧ i.bytes = 8 := ⟨(prog.info? t_uint64).get (by kernel_rfl), by kernel_rfl, by kernel_rfl, by kernel_rfl, by kernel_rfl⟩
theorem i_api_Options : ∃ i, prog.info? t_api_Options = some i ∧ i.zero = some (.agg #[.int .i64 0, .int .i64 0, .int .i64 0, .int .i64 0, .int .u64 0]) ∧ i.size = 5 ∧ i.bytes = 40 := ⟨(prog.info? t_api_Options).get (by kernel_rfl), by kernel_rfl, by kernel_rfl, by kernel_rfl, by kernel_rfl⟩
theorem i_uint16 : ∃ i, prog.info? t_uint16 = some i ∧ i.zero = some (.int .u16 0) ∧ i.size = 1 ∧ i.bytes = 2 := ⟨(prog.info? t_uint16).get (by kernel_rfl), by kernel_rfl, by kernel_rfl, by kernel_rfl, by kernel_rfl⟩
theorem i_func_block_loader_string_api_Errno : ∃ i, prog.info? t_func_block_loader_string_api_Errno = some i ∧ i.zero = some (.nilFunc) ∧ i.size = 1 ∧ i.bytes = 8 := ⟨(prog.info? t_func_block_loader_string_api_Errno).get (by kernel_rfl), by kernel_rfl, by kernel_rfl, by kernel_rfl, by kernel_rfl⟩
theorem i_S_int : ∃ i, prog.info? t_S_int = some i ∧ i.zero = some (.slice none 0 0) ∧ i.size = 1 ∧ i.bytes = 24 := ⟨(prog.info? t_S_int).get (by kernel_rfl), by kernel_rfl, by kernel_rfl, by kernel_rfl, by kernel_rfl⟩
theorem i_func_block_unloader_S_int64_bool : ∃ i, prog.info? t_func_block_unloader_S_int64_bool = some i ∧ i.zero = some (.nilFunc) ∧ i.size = 1 ∧ i.bytes = 8 := ⟨(prog.info? t_func_block_unloader_S_int64_bool).get (by kernel_rfl), by kernel_rfl, by kernel_rfl, by kernel_rfl, by kernel_rfl⟩
theorem i_api_Part : ∃ i, prog.info? t_api_Part = some i ∧ i.zero = some (.agg #[.int .i64 0, .int .u64 0]) ∧ i.size = 2 ∧ i.bytes = 16 := ⟨(prog.info? t_api_Part).get (by kernel_rfl), by kernel_rfl, by kernel_rfl, by kernel_rfl, by kernel_rfl⟩
theorem i_api_Code : ∃ i, prog.info? t_api_Code = some i ∧ i.zero = some (.agg #[.int .i64 0, .int .i64 0]) ∧ i.size = 2 ∧ i.bytes = 16 := ⟨(prog.info? t_api_Code).get (by kernel_rfl), by kernel_rfl, by kernel_rfl, by kernel_rfl, by kernel_rfl⟩
theorem i_api_Cell : ∃ i, prog.info? t_api_Cell = some i ∧ i.zero = some (.agg #[.int .i64 0, .int .i64 0, .int .i64 0]) ∧ i.size = 3 ∧ i.bytes = 24 := ⟨(prog.info? t_api_Cell).get (by kernel_rfl), by kernel_rfl, by kernel_rfl, by kernel_rfl, by kernel_rfl⟩
theorem i_merge_best : ∃ i, prog.info? t_merge_best = some i ∧ i.zero = some (.agg #[.int .i64 0, .int .i64 0, .bool false, .bool false]) ∧ i.size = 4 ∧ i.bytes = 24 := ⟨(prog.info? t_merge_best).get (by kernel_rfl), by kernel_rfl, by kernel_rfl, by kernel_rfl, by kernel_rfl⟩
theorem i_hist_place : ∃ i, prog.info? t_hist_place = some i ∧ i.zero = some (.agg #[.int .i64 0, .int .i64 0]) ∧ i.size = 2 ∧ i.bytes = 16 := ⟨(prog.info? t_hist_place).get (by kernel_rfl), by kernel_rfl, by kernel_rfl, by kernel_rfl, by kernel_rfl⟩
theorem i_canon_class : ∃ i, prog.info? t_canon_class = some i ∧ i.zero = some (.agg #[.int .i64 0, .int .i64 0]) ∧ i.size = 2 ∧ i.bytes = 16 := ⟨(prog.info? t_canon_class).get (by kernel_rfl), by kernel_rfl, by kernel_rfl, by kernel_rfl, by kernel_rfl⟩
theorem i_norm_class : ∃ i, prog.info? t_norm_class = some i ∧ i.zero = some (.agg #[.int .i64 0, .int .i64 0]) ∧ i.size = 2 ∧ i.bytes = 16 := ⟨(prog.info? t_norm_class).get (by kernel_rfl), by kernel_rfl, by kernel_rfl, by kernel_rfl, by kernel_rfl⟩
theorem i_S_model_row : ∃ i, prog.info? t_S_model_row = some i ∧ i.zero = some (.slice none 0 0) ∧ i.size = 1 ∧ i.bytes = 24 := ⟨(prog.info? t_S_model_row).get (by kernel_rfl), by kernel_rfl, by kernel_rfl, by kernel_rfl, by kernel_rfl⟩
theorem i_P_model_row : ∃ i, prog.info? t_P_model_row = some i ∧ i.zero = some (.pointer none) ∧ i.size = 1 ∧ i.bytes = 8 := ⟨(prog.info? t_P_model_row).get (by kernel_rfl), by kernel_rfl, by kernel_rfl, by kernel_rfl, by kernel_rfl⟩
theorem tab_ok : (List.range 386).all (fun t => tiOk prog t (TAB t)) = true := by decide +kernel
def fnOk (P : Program) (fok : Nat → Bool) (f : Nat) : Bool := !(fok f) || (match P.funcs[f]? with | some g => !(g.name == "runtime.NumGoroutine") && !g.body.isNone | none => false)
theorem fn_ok : (List.range 293).all (fun f => fnOk prog fok f) = true := by decide +kernel
theorem tiOk_none (P : Program) (t : Nat) : tiOk P t noTI = true := rfl
theorem tab : Tab prog TAB fok where
  ok t := by
    by_cases h : t < 386
    · exact List.all_eq_true.1 tab_ok t (List.mem_range.2 h)
    · have : TAB t = noTI := by
        unfold TAB
        have e : Nat.blt t 386 = false := by
          cases hb : Nat.blt t 386 with
          | false => rfl
          | true => rw [Nat.blt_eq] at hb; exact absurd hb h
        rw [e]; rfl
      rw [this]; rfl
  fn f hf := by
    have hlt : f < 293 := by
      unfold fok at hf
      cases hb : Nat.blt f 293 with
      | true => rwa [Nat.blt_eq] at hb
      | false => rw [hb] at hf; simp at hf
    have h := List.all_eq_true.1 fn_ok f (List.mem_range.2 hlt)
    unfold fnOk at h
    rw [hf] at h
    split at h
    · rename_i g hg
      simp only [Bool.not_true, Bool.false_or, Bool.and_eq_true, Bool.not_eq_true'] at h
      exact ⟨g, hg, h.1, h.2⟩
    · cases h
  mixed := rfl
end Go.Proofs.Tryz
