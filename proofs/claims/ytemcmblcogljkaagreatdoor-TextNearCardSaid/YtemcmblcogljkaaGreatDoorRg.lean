/- A call of a function comes to what its text says. -/
import Derived.Test.YtemcmblcogljkaaGreatDoorMb
import Derived.Test.YtemcmblcogljkaaGreatDoorRa
import Derived.Test.YtemcmblcogljkaaGreatDoorRb
import Derived.Test.YtemcmblcogljkaaGreatDoorRc
import Derived.Test.YtemcmblcogljkaaGreatDoorRd
import Derived.Test.YtemcmblcogljkaaGreatDoorRe
import Derived.Test.YtemcmblcogljkaaGreatDoorRf
set_option linter.all false
set_option linter.unusedSimpArgs false
set_option linter.unusedVariables false
set_option maxRecDepth 100000
namespace Go.Proofs.YtemcmblcogljkaaGreatDoor
namespace AM
open Go
def ks4 : Keeps := fun i => match i with
 | 2006 => some [1, 2, 3, 4, 13, 44]
 | 2020 => some [10]
 | 3000 => some [13, 16]
 | 4006 => some [44]
 | 4020 => some [10]
 | 1017 => some [0, 1, 2, 3, 5, 6, 8, 9, 10, 4, 7, 11, 12]
 | _ => none
def f4_n : Nat := 105
def f4T0 (t13 : ByteArray) (t16b : Option Addr) (t16n t16k : Nat) (H : AH) : St := (((Tr.leaf.put 13 (.string t13)).put 16 (.slice t16b t16n t16k)), H)
def f4J0 (cw : CallW) (Q : Value → AH → Prop) (t13 : ByteArray) (t16b : Option Addr) (t16n t16k : Nat) (H : AH) : Prop := (kSeq (execW Tryz.prog cw ks4 f4_n (cR (cR (cR (cR (cR (cR (cR (cR (cR (bodyOf Tryz.f4))))))))))) (kRet Tryz.prog Tryz.f4 Q)) .normal (f4T0 t13 t16b t16n t16k H)
def f4K0 (cw : CallW) (Q : Value → AH → Prop) (t13 : ByteArray) (t16b : Option Addr) (t16n t16k : Nat) (H : AH) : Prop :=
 join2 (fun J1 =>
 cw 6 ⟨[.string t13]⟩ H fun v2 H3 =>
 obB (some v2) fun c4 =>
 ifB c4 (
 obS (ofBytes H3 (.slice t16b t16n t16k)) fun s5 =>
 cw 6 ⟨[.string s5]⟩ H3 fun v6 H7 =>
 obB (some v6) fun c8 =>
 ifB c8 (
 cw 7 ⟨[]⟩ H7 fun v9 H10 =>
 obB (some v9) fun c11 =>
 J1 c11 H10) (
 J1 false H7)) (
 J1 false H3)) fun c12 H13 =>
 Q (.bool c12) H13
theorem f4J0_eq (cw : CallW) (Q : Value → AH → Prop) (t13 : ByteArray) (t16b : Option Addr) (t16n t16k : Nat) (H : AH) : f4J0 cw Q t13 t16b t16n t16k H = f4K0 cw Q t13 t16b t16n t16k H := by kernel_rfl
def plainS : ByteArray := bs [110, 101, 116, 119, 111, 114, 107, 32, 48, 32, 49, 32, 57, 32, 50, 32, 50, 32, 51, 32, 49, 32, 49, 32, 48, 10, 112, 97, 116, 105, 101, 110, 99, 101, 32, 53, 32, 53, 32, 53, 10, 114, 117, 108, 101, 32, 48, 32, 48, 32, 49, 10, 111, 117, 116, 101, 114, 32, 48, 32, 48, 10, 102, 97, 100, 101, 32, 48, 32, 48, 32, 48, 32, 53, 48, 32, 48, 10, 116, 101, 114, 109, 105, 110, 97, 108, 32, 48, 32, 48, 32, 49, 48, 48, 32, 48, 32, 49, 32, 48, 32, 49, 32, 48, 32, 49, 32, 48, 32, 48, 32, 48, 10, 98, 101, 97, 114, 101, 114, 32, 49, 32, 48, 32, 48, 32, 54, 32, 51, 32, 54, 32, 49, 32, 57, 32, 51, 32, 48, 32, 57, 32, 48, 32, 48, 32, 48, 32, 48, 10, 112, 97, 99, 107, 101, 116, 32, 48, 32, 48, 32, 48, 32, 48, 32, 48, 49, 102, 102, 10]
def f4E (cw : CallW) (Q : Value → AH → Prop) (s86 : ByteArray) (a1 a2 a3 a4 : Int) (H93 : AH) : Prop :=
 cw 14 ⟨[I a1, I (s86.size : Int)]⟩ H93 fun v125 H126 =>
 obI .i64 (some v125) fun x127 =>
 letH (H126.new 1 (bytesV s86)) fun H128 =>
 obI .u8 (aInt .rem .u8 a4 5) fun x129 =>
 ifB (x129 == 0) (
 obA (elemS 1 (.slice (some ⟨H126.next, 0, none⟩) s86.size s86.size) (I x127)) fun h130 i130 =>
 obH (H128.storeN h130 i130 [.int .u8 a3]) fun H131 =>
 f4J0 cw Q s86 (some ⟨H126.next, 0, none⟩) s86.size s86.size H131) (
 ifB (x129 == 1) (
 obL (sliceV 1 H128 (.slice (some ⟨H126.next, 0, none⟩) s86.size s86.size) none (some (I x127))) fun b132 n132 k132 =>
 obL (sliceV 1 H128 (.slice (some ⟨H126.next, 0, none⟩) s86.size s86.size) (some (I (IntKind.wrap .i64 (x127 + 1)))) none) fun b133 n133 k133 =>
 obG (appendV 1 1 H128 (.slice b132 n132 k132) (.slice b133 n133 k133)) fun b134 n134 k134 H135 =>
 f4J0 cw Q s86 b134 n134 k134 H135) (
 ifB (x129 == 2) (
 letH (H128.new 1 []) fun H136 =>
 obL (sliceV 1 H136 (.slice (some ⟨H126.next, 0, none⟩) s86.size s86.size) none (some (I x127))) fun b137 n137 k137 =>
 letH (H136.new 1 [.int .u8 a3]) fun H138 =>
 obL (sliceV 1 H138 (.slice (some ⟨H126.next, 0, none⟩) s86.size s86.size) (some (I x127)) none) fun b139 n139 k139 =>
 obG (appendV 1 1 H138 (.slice (some ⟨H128.next, 0, none⟩) 0 0) (.slice b137 n137 k137)) fun b140 n140 k140 H141 =>
 obG (appendV 1 1 H141 (.slice b140 n140 k140) (.slice (some ⟨H136.next, 0, none⟩) 1 1)) fun b142 n142 k142 H143 =>
 obG (appendV 1 1 H143 (.slice b142 n142 k142) (.slice b139 n139 k139)) fun b144 n144 k144 H145 =>
 obE (sliceV 1 H138 (.slice (some ⟨H126.next, 0, none⟩) s86.size s86.size) none (some (I x127))) (.slice b137 n137 k137) (
 obE (sliceV 1 H143 (.slice (some ⟨H126.next, 0, none⟩) s86.size s86.size) (some (I x127)) none) (.slice b139 n139 k139) (
 obE (sliceV 1 H141 (.slice (some ⟨H126.next, 0, none⟩) s86.size s86.size) (some (I x127)) none) (.slice b139 n139 k139) (
 obE (sliceV 1 H138 (.slice (some ⟨H126.next, 0, none⟩) s86.size s86.size) (some (I x127)) none) (.slice b139 n139 k139) (
 f4J0 cw Q s86 b144 n144 k144 H145))))) (
 ifB (x129 == 3) (
 obL (sliceV 1 H128 (.slice (some ⟨H126.next, 0, none⟩) s86.size s86.size) none (some (I x127))) fun b146 n146 k146 =>
 f4J0 cw Q s86 b146 n146 k146 H128) (
 letH (H128.new 1 []) fun H147 =>
 obG (appendV 1 1 H147 (.slice (some ⟨H128.next, 0, none⟩) 0 0) (.slice (some ⟨H126.next, 0, none⟩) s86.size s86.size)) fun b148 n148 k148 H149 =>
 cw 14 ⟨[I a2, I 170]⟩ H149 fun v150 H151 =>
 obI .i64 (some v150) fun x152 =>
 obS (sliceS (.string plainS) (some (I x152)) none) fun s153 =>
 obG (appendV 1 1 H151 (.slice b148 n148 k148) (.string s153)) fun b154 n154 k154 H155 =>
 f4J0 cw Q s86 b154 n154 k154 H155))))
def f4R (cw : CallW) (a0b : Option Addr) (a0n a0k : Nat) (a1 a2 a3 a4 : Int) (H : AH) (Q : Value → AH → Prop) : Prop :=
 cw 8 ⟨[.slice a0b a0n a0k]⟩ H fun v1 H2 =>
 obB (some v1) fun c3 =>
 ifB (!c3) (
 cw 7 ⟨[]⟩ H2 fun v4 H5 =>
 obB (some v4) fun c6 =>
 Q (.bool c6) H5) (
 cw 9 ⟨[.slice a0b a0n a0k]⟩ H2 fun v7 H8 =>
 obA (some v7) fun h9 i9 =>
 cw 11 ⟨[.pointer (some ⟨h9, i9, none⟩), I 2]⟩ H8 fun v10 H11 =>
 obI .i64 (some v10) fun x12 =>
 cw 10 ⟨[.pointer (some ⟨h9, i9, none⟩), .bool true, .bool (x12 == 0)]⟩ H11 fun v13 H14 =>
 obN 20 v13 (
 obI .i64 (cellAt v13 0) fun x15 =>
 obI .i64 (cellAt v13 1) fun x16 =>
 obI .i64 (cellAt v13 2) fun x17 =>
 obI .i64 (cellAt v13 3) fun x18 =>
 obI .i64 (cellAt v13 4) fun x19 =>
 obI .i64 (cellAt v13 5) fun x20 =>
 obI .i64 (cellAt v13 6) fun x21 =>
 obI .i64 (cellAt v13 7) fun x22 =>
 obI .i64 (cellAt v13 8) fun x23 =>
 obI .i64 (cellAt v13 9) fun x24 =>
 obI .i64 (cellAt v13 10) fun x25 =>
 obI .i64 (cellAt v13 11) fun x26 =>
 obI .i64 (cellAt v13 12) fun x27 =>
 obI .i64 (cellAt v13 13) fun x28 =>
 obI .i64 (cellAt v13 14) fun x29 =>
 obI .i64 (cellAt v13 15) fun x30 =>
 obI .i64 (cellAt v13 16) fun x31 =>
 obI .i64 (cellAt v13 17) fun x32 =>
 obL (cellAt v13 18) fun b33 n33 k33 =>
 obL (cellAt v13 19) fun b34 n34 k34 =>
 letH (H14.new 0 [I 0, I 0, I 0, I 0, I 0, I 0, I 0, I 0, I 0, I 0, I 0, I 0, I 0, I 0, I 0, I 0, I 0, I 0, .slice none 0 0, .slice none 0 0]) fun H35 =>
 obH (H35.storeN H14.next 0 [I x15, I x16, I x17, I x18, I x19, I x20, I x21, I x22, I x23, I x24, I x25, I x26, I x27, I x28, I x29, I x30, I x31, I x32, .slice b33 n33 k33, .slice b34 n34 k34]) fun H36 =>
 obI .i64 (H36.load H14.next (0 + 0)) fun x37 =>
 obI .i64 (H36.load H14.next (0 + 1)) fun x38 =>
 obI .i64 (H36.load H14.next (0 + 2)) fun x39 =>
 obI .i64 (H36.load H14.next (0 + 3)) fun x40 =>
 obI .i64 (H36.load H14.next (0 + 4)) fun x41 =>
 obI .i64 (H36.load H14.next (0 + 5)) fun x42 =>
 obI .i64 (H36.load H14.next (0 + 6)) fun x43 =>
 obI .i64 (H36.load H14.next (0 + 7)) fun x44 =>
 obI .i64 (H36.load H14.next (0 + 8)) fun x45 =>
 obI .i64 (H36.load H14.next (0 + 9)) fun x46 =>
 obI .i64 (H36.load H14.next (0 + 10)) fun x47 =>
 obI .i64 (H36.load H14.next (0 + 11)) fun x48 =>
 obI .i64 (H36.load H14.next (0 + 12)) fun x49 =>
 obI .i64 (H36.load H14.next (0 + 13)) fun x50 =>
 obI .i64 (H36.load H14.next (0 + 14)) fun x51 =>
 obI .i64 (H36.load H14.next (0 + 15)) fun x52 =>
 obI .i64 (H36.load H14.next (0 + 16)) fun x53 =>
 obI .i64 (H36.load H14.next (0 + 17)) fun x54 =>
 obL (H36.load H14.next (0 + 18)) fun b55 n55 k55 =>
 obL (H36.load H14.next (0 + 19)) fun b56 n56 k56 =>
 obI .i64 (H36.load H14.next (0 + 0)) fun x57 =>
 obI .i64 (H36.load H14.next (0 + 1)) fun x58 =>
 obI .i64 (H36.load H14.next (0 + 2)) fun x59 =>
 obI .i64 (H36.load H14.next (0 + 3)) fun x60 =>
 obI .i64 (H36.load H14.next (0 + 4)) fun x61 =>
 obI .i64 (H36.load H14.next (0 + 5)) fun x62 =>
 obI .i64 (H36.load H14.next (0 + 6)) fun x63 =>
 obI .i64 (H36.load H14.next (0 + 7)) fun x64 =>
 obI .i64 (H36.load H14.next (0 + 8)) fun x65 =>
 obI .i64 (H36.load H14.next (0 + 9)) fun x66 =>
 obI .i64 (H36.load H14.next (0 + 10)) fun x67 =>
 obI .i64 (H36.load H14.next (0 + 11)) fun x68 =>
 obI .i64 (H36.load H14.next (0 + 12)) fun x69 =>
 obI .i64 (H36.load H14.next (0 + 13)) fun x70 =>
 obI .i64 (H36.load H14.next (0 + 14)) fun x71 =>
 obI .i64 (H36.load H14.next (0 + 15)) fun x72 =>
 obI .i64 (H36.load H14.next (0 + 16)) fun x73 =>
 obI .i64 (H36.load H14.next (0 + 17)) fun x74 =>
 obL (H36.load H14.next (0 + 18)) fun b75 n75 k75 =>
 obL (H36.load H14.next (0 + 19)) fun b76 n76 k76 =>
 cw 11 ⟨[.pointer (some ⟨h9, i9, none⟩), I 5]⟩ H36 fun v77 H78 =>
 obI .i64 (some v77) fun x79 =>
 cw 13 ⟨[.pointer (some ⟨h9, i9, none⟩), .agg ⟨[I x57, I x58, I x59, I x60, I x61, I x62, I x63, I x64, I x65, I x66, I x67, I x68, I x69, I x70, I x71, I x72, I x73, I x74, .slice b75 n75 k75, .slice b76 n76 k76]⟩, I x79, I 40]⟩ H78 fun v80 H81 =>
 obL (some v80) fun b82 n82 k82 =>
 cw 12 ⟨[.agg ⟨[I x37, I x38, I x39, I x40, I x41, I x42, I x43, I x44, I x45, I x46, I x47, I x48, I x49, I x50, I x51, I x52, I x53, I x54, .slice b55 n55 k55, .slice b56 n56 k56]⟩, .slice b82 n82 k82]⟩ H81 fun v83 H84 =>
 obS (tupV 0 v83) fun s86 =>
 obI .i64 (tupV 1 v83) fun x87 =>
 obE1 (H81.load H14.next (0 + 0)) (I x37) (
 obE1 (H81.load H14.next (0 + 1)) (I x38) (
 obE1 (H81.load H14.next (0 + 2)) (I x39) (
 obE1 (H81.load H14.next (0 + 3)) (I x40) (
 obE1 (H81.load H14.next (0 + 4)) (I x41) (
 obE1 (H81.load H14.next (0 + 5)) (I x42) (
 obE1 (H81.load H14.next (0 + 6)) (I x43) (
 obE1 (H81.load H14.next (0 + 7)) (I x44) (
 obE1 (H81.load H14.next (0 + 8)) (I x45) (
 obE1 (H81.load H14.next (0 + 9)) (I x46) (
 obE1 (H81.load H14.next (0 + 10)) (I x47) (
 obE1 (H81.load H14.next (0 + 11)) (I x48) (
 obE1 (H81.load H14.next (0 + 12)) (I x49) (
 obE1 (H81.load H14.next (0 + 13)) (I x50) (
 obE1 (H81.load H14.next (0 + 14)) (I x51) (
 obE1 (H81.load H14.next (0 + 15)) (I x52) (
 obE1 (H81.load H14.next (0 + 16)) (I x53) (
 obE1 (H81.load H14.next (0 + 17)) (I x54) (
 obE1 (H81.load H14.next (0 + 18)) (.slice b55 n55 k55) (
 obE1 (H81.load H14.next (0 + 19)) (.slice b56 n56 k56) (
 obE1 (H78.load H14.next (0 + 0)) (I x37) (
 obE1 (H78.load H14.next (0 + 1)) (I x38) (
 obE1 (H78.load H14.next (0 + 2)) (I x39) (
 obE1 (H78.load H14.next (0 + 3)) (I x40) (
 obE1 (H78.load H14.next (0 + 4)) (I x41) (
 obE1 (H78.load H14.next (0 + 5)) (I x42) (
 obE1 (H78.load H14.next (0 + 6)) (I x43) (
 obE1 (H78.load H14.next (0 + 7)) (I x44) (
 obE1 (H78.load H14.next (0 + 8)) (I x45) (
 obE1 (H78.load H14.next (0 + 9)) (I x46) (
 obE1 (H78.load H14.next (0 + 10)) (I x47) (
 obE1 (H78.load H14.next (0 + 11)) (I x48) (
 obE1 (H78.load H14.next (0 + 12)) (I x49) (
 obE1 (H78.load H14.next (0 + 13)) (I x50) (
 obE1 (H78.load H14.next (0 + 14)) (I x51) (
 obE1 (H78.load H14.next (0 + 15)) (I x52) (
 obE1 (H78.load H14.next (0 + 16)) (I x53) (
 obE1 (H78.load H14.next (0 + 17)) (I x54) (
 obE1 (H78.load H14.next (0 + 18)) (.slice b55 n55 k55) (
 obE1 (H78.load H14.next (0 + 19)) (.slice b56 n56 k56) (
 obE1 (H78.load H14.next (0 + 0)) (I x57) (
 obE1 (H78.load H14.next (0 + 1)) (I x58) (
 obE1 (H78.load H14.next (0 + 2)) (I x59) (
 obE1 (H78.load H14.next (0 + 3)) (I x60) (
 obE1 (H78.load H14.next (0 + 4)) (I x61) (
 obE1 (H78.load H14.next (0 + 5)) (I x62) (
 obE1 (H78.load H14.next (0 + 6)) (I x63) (
 obE1 (H78.load H14.next (0 + 7)) (I x64) (
 obE1 (H78.load H14.next (0 + 8)) (I x65) (
 obE1 (H78.load H14.next (0 + 9)) (I x66) (
 obE1 (H78.load H14.next (0 + 10)) (I x67) (
 obE1 (H78.load H14.next (0 + 11)) (I x68) (
 obE1 (H78.load H14.next (0 + 12)) (I x69) (
 obE1 (H78.load H14.next (0 + 13)) (I x70) (
 obE1 (H78.load H14.next (0 + 14)) (I x71) (
 obE1 (H78.load H14.next (0 + 15)) (I x72) (
 obE1 (H78.load H14.next (0 + 16)) (I x73) (
 obE1 (H78.load H14.next (0 + 17)) (I x74) (
 obE1 (H78.load H14.next (0 + 18)) (.slice b75 n75 k75) (
 obE1 (H78.load H14.next (0 + 19)) (.slice b76 n76 k76) (
 join2 (fun J88 =>
 cw 11 ⟨[.pointer (some ⟨h9, i9, none⟩), I 3]⟩ H84 fun v89 H90 =>
 obI .i64 (some v89) fun x91 =>
 ifB (x91 == 0) (
 J88 true H90) (
 J88 (s86.data.toList == (bs []).data.toList) H90)) fun c92 H93 =>
 ifB c92 (f4E cw Q plainS a1 a2 a3 a4 H93) (f4E cw Q s86 a1 a2 a3 a4 H93)))))))))))))))))))))))))))))))))))))))))))))))))))))))))))))))
def ks5 : Keeps := fun i => match i with
 | 4 => some [0, 1, 2, 3, 9]
 | 2001 => some [0, 1, 2, 3, 32]
 | 2020 => some [11, 12, 13, 14, 119]
 | 2024 => some [8]
 | 3002 => some [1, 11, 12]
 | 4001 => some [32]
 | 4020 => some [119]
 | 4024 => some [8]
 | _ => none
def ks15 : Keeps := fun i => match i with
 | 7 => some [1, 2, 7, 8, 26]
 | 12 => some [1, 2, 8, 38, 39, 40]
 | 17 => some [1, 8, 51, 52, 53]
 | 21 => some [1, 8, 13, 51, 52, 53, 63, 64, 65]
 | 27 => some [8, 81, 82, 83]
 | 1029 => some [0, 4, 5, 1, 2, 3, 6, 7, 8, 9, 10]
 | _ => none
def ks26 : Keeps := fun i => match i with
 | 3 => some [5, 11, 12, 13]
 | _ => none
end AM
end Go.Proofs.YtemcmblcogljkaaGreatDoor

namespace Go.Proofs.YtemcmblcogljkaaGreatDoor
namespace AM
open Go
def ksAll : FuncId → Keeps := fun f => match f with
  | 3 => ks3
  | 4 => ks4
  | 5 => ks5
  | 6 => ks6
  | 7 => ks7
  | 8 => ks8
  | 9 => ks9
  | 10 => ks10
  | 11 => ks11
  | 12 => ks12
  | 13 => ks13
  | 14 => ks14
  | 15 => ks15
  | 16 => ks16
  | 17 => ks17
  | 18 => ks18
  | 20 => ks20
  | 21 => ks21
  | 22 => ks22
  | 23 => ks23
  | 24 => ks24
  | 25 => ks25
  | 26 => ks26
  | 27 => ks27
  | 28 => ks28
  | 29 => ks29
  | 30 => ks30
  | 31 => ks31
  | 35 => ks35
  | 36 => ks36
  | 37 => ks37
  | 38 => ks38
  | 43 => ks43
  | 44 => ks44
  | 45 => ks45
  | 46 => ks46
  | 47 => ks47
  | 48 => ks48
  | 49 => ks49
  | 50 => ks50
  | 55 => ks55
  | 57 => ks57
  | 58 => ks58
  | 59 => ks59
  | 60 => ks60
  | 62 => ks62
  | 63 => ks63
  | 64 => ks64
  | 65 => ks65
  | 66 => ks66
  | 67 => ks67
  | 68 => ks68
  | 69 => ks69
  | 70 => ks70
  | 71 => ks71
  | 72 => ks72
  | 73 => ks73
  | 74 => ks74
  | 75 => ks75
  | 76 => ks76
  | 77 => ks77
  | 78 => ks78
  | 79 => ks79
  | 80 => ks80
  | 81 => ks81
  | 90 => ks90
  | 91 => ks91
  | 93 => ks93
  | 94 => ks94
  | 95 => ks95
  | 96 => ks96
  | 97 => ks97
  | 98 => ks98
  | 99 => ks99
  | 100 => ks100
  | 101 => ks101
  | 102 => ks102
  | 103 => ks103
  | 108 => ks108
  | 109 => ks109
  | 110 => ks110
  | 111 => ks111
  | 112 => ks112
  | 113 => ks113
  | 123 => ks123
  | 124 => ks124
  | 125 => ks125
  | 130 => ks130
  | 131 => ks131
  | 132 => ks132
  | 133 => ks133
  | 134 => ks134
  | 135 => ks135
  | 136 => ks136
  | 151 => ks151
  | 153 => ks153
  | 154 => ks154
  | 155 => ks155
  | 165 => ks165
  | 166 => ks166
  | _ => fun _ => none
def primId (f : FuncId) : Bool := [32, 33, 34, 51, 56, 87, 89, 19, 7].contains f
abbrev OK (pm : Prims) : CallW := Ok Tryz.prog pm ksAll
def Only (pm : Prims) : Prop := ∀ f, primId f = false → pm f = none
section
variable {pm : Prims}
theorem f3_ok (hp : Only pm) {a0 : ByteArray} {H : AH} {Q : Value → AH → Prop} (h : f3R (OK pm) a0 H Q) : OK pm 3 ⟨[.string a0]⟩ H Q := Ok.of_run (fn := Tryz.f3) (hp 3 rfl) (by kernel_rfl) (of_eq (by kernel_rfl) h)
theorem f4_ok (hp : Only pm) {a0b : Option Addr} {a0n a0k : Nat} {a1 a2 a3 a4 : Int} {H : AH} {Q : Value → AH → Prop} (h : f4R (OK pm) a0b a0n a0k a1 a2 a3 a4 H Q) : OK pm 4 ⟨[.slice a0b a0n a0k, I a1, I a2, .int .u8 a3, .int .u8 a4]⟩ H Q := Ok.of_run (fn := Tryz.f4) (hp 4 rfl) (by kernel_rfl) (of_eq (by kernel_rfl) h)
theorem f6_ok (hp : Only pm) {a0 : ByteArray} {H : AH} {Q : Value → AH → Prop} (h : f6R (OK pm) a0 H Q) : OK pm 6 ⟨[.string a0]⟩ H Q := Ok.of_run (fn := Tryz.f6) (hp 6 rfl) (by kernel_rfl) (of_eq (by kernel_rfl) h)
theorem f8_ok (hp : Only pm) {a0b : Option Addr} {a0n a0k : Nat} {H : AH} {Q : Value → AH → Prop} (h : f8R (OK pm) a0b a0n a0k H Q) : OK pm 8 ⟨[.slice a0b a0n a0k]⟩ H Q := Ok.of_run (fn := Tryz.f8) (hp 8 rfl) (by kernel_rfl) (of_eq (by kernel_rfl) h)
theorem f9_ok (hp : Only pm) {a0b : Option Addr} {a0n a0k : Nat} {H : AH} {Q : Value → AH → Prop} (h : f9R (OK pm) a0b a0n a0k H Q) : OK pm 9 ⟨[.slice a0b a0n a0k]⟩ H Q := Ok.of_run (fn := Tryz.f9) (hp 9 rfl) (by kernel_rfl) (of_eq (by kernel_rfl) h)
theorem f10_ok (hp : Only pm) {a0h a0i : Nat} {a1 a2 : Bool} {H : AH} {Q : Value → AH → Prop} (h : f10R (OK pm) a0h a0i a1 a2 H Q) : OK pm 10 ⟨[.pointer (some ⟨a0h, a0i, none⟩), .bool a1, .bool a2]⟩ H Q := Ok.of_run (fn := Tryz.f10) (hp 10 rfl) (by kernel_rfl) (of_eq (by kernel_rfl) h)
theorem f11_ok (hp : Only pm) {a0h a0i : Nat} {a1 : Int} {H : AH} {Q : Value → AH → Prop} (h : f11R (OK pm) a0h a0i a1 H Q) : OK pm 11 ⟨[.pointer (some ⟨a0h, a0i, none⟩), I a1]⟩ H Q := Ok.of_run (fn := Tryz.f11) (hp 11 rfl) (by kernel_rfl) (of_eq (by kernel_rfl) h)
theorem f12_ok (hp : Only pm) {a0_0 a0_1 a0_2 a0_3 a0_4 a0_5 a0_6 a0_7 a0_8 a0_9 a0_10 a0_11 a0_12 a0_13 a0_14 a0_15 a0_16 a0_17 : Int} {a0_18b : Option Addr} {a0_18n a0_18k : Nat} {a0_19b : Option Addr} {a0_19n a0_19k : Nat} {a1b : Option Addr} {a1n a1k : Nat} {H : AH} {Q : Value → AH → Prop} (h : f12R (OK pm) a0_0 a0_1 a0_2 a0_3 a0_4 a0_5 a0_6 a0_7 a0_8 a0_9 a0_10 a0_11 a0_12 a0_13 a0_14 a0_15 a0_16 a0_17 a0_18b a0_18n a0_18k a0_19b a0_19n a0_19k a1b a1n a1k H Q) : OK pm 12 ⟨[.agg ⟨[I a0_0, I a0_1, I a0_2, I a0_3, I a0_4, I a0_5, I a0_6, I a0_7, I a0_8, I a0_9, I a0_10, I a0_11, I a0_12, I a0_13, I a0_14, I a0_15, I a0_16, I a0_17, .slice a0_18b a0_18n a0_18k, .slice a0_19b a0_19n a0_19k]⟩, .slice a1b a1n a1k]⟩ H Q := Ok.of_run (fn := Tryz.f12) (hp 12 rfl) (by kernel_rfl) (of_eq (by kernel_rfl) h)
theorem f13_ok (hp : Only pm) {a0h a0i : Nat} {a1_0 a1_1 a1_2 a1_3 a1_4 a1_5 a1_6 a1_7 a1_8 a1_9 a1_10 a1_11 a1_12 a1_13 a1_14 a1_15 a1_16 a1_17 : Int} {a1_18b : Option Addr} {a1_18n a1_18k : Nat} {a1_19b : Option Addr} {a1_19n a1_19k : Nat} {a2 a3 : Int} {H : AH} {Q : Value → AH → Prop} (h : f13R (OK pm) a0h a0i a1_0 a1_1 a1_2 a1_3 a1_4 a1_5 a1_6 a1_7 a1_8 a1_9 a1_10 a1_11 a1_12 a1_13 a1_14 a1_15 a1_16 a1_17 a1_18b a1_18n a1_18k a1_19b a1_19n a1_19k a2 a3 H Q) : OK pm 13 ⟨[.pointer (some ⟨a0h, a0i, none⟩), .agg ⟨[I a1_0, I a1_1, I a1_2, I a1_3, I a1_4, I a1_5, I a1_6, I a1_7, I a1_8, I a1_9, I a1_10, I a1_11, I a1_12, I a1_13, I a1_14, I a1_15, I a1_16, I a1_17, .slice a1_18b a1_18n a1_18k, .slice a1_19b a1_19n a1_19k]⟩, I a2, I a3]⟩ H Q := Ok.of_run (fn := Tryz.f13) (hp 13 rfl) (by kernel_rfl) (of_eq (by kernel_rfl) h)
theorem f14_ok (hp : Only pm) {a0 a1 : Int} {H : AH} {Q : Value → AH → Prop} (h : f14R (OK pm) a0 a1 H Q) : OK pm 14 ⟨[I a0, I a1]⟩ H Q := Ok.of_run (fn := Tryz.f14) (hp 14 rfl) (by kernel_rfl) (of_eq (by kernel_rfl) h)
theorem f16_ok (hp : Only pm) {a0 : ByteArray} {H : AH} {Q : Value → AH → Prop} (h : f16R (OK pm) a0 H Q) : OK pm 16 ⟨[.string a0]⟩ H Q := Ok.of_run (fn := Tryz.f16) (hp 16 rfl) (by kernel_rfl) (of_eq (by kernel_rfl) h)
theorem f17_ok (hp : Only pm) {a0_0 a0_1 a0_2 a0_3 a0_4 a0_5 a0_6 a0_7 a0_8 a0_9 a0_10 a0_11 a0_12 a0_13 a0_14 a0_15 a0_16 a0_17 : Int} {a0_18b : Option Addr} {a0_18n a0_18k : Nat} {a0_19b : Option Addr} {a0_19n a0_19k : Nat} {a1_0 a1_1 a1_2 a1_3 a1_4 a1_5 a1_6 a1_7 a1_8 a1_9 a1_10 a1_11 a1_12 a1_13 a1_14 a1_15 a1_16 a1_17 : Int} {a1_18b : Option Addr} {a1_18n a1_18k : Nat} {a1_19b : Option Addr} {a1_19n a1_19k : Nat} {a2b : Option Addr} {a2n a2k : Nat} {a3b : Option Addr} {a3n a3k : Nat} {H : AH} {Q : Value → AH → Prop} (h : f17R (OK pm) a0_0 a0_1 a0_2 a0_3 a0_4 a0_5 a0_6 a0_7 a0_8 a0_9 a0_10 a0_11 a0_12 a0_13 a0_14 a0_15 a0_16 a0_17 a0_18b a0_18n a0_18k a0_19b a0_19n a0_19k a1_0 a1_1 a1_2 a1_3 a1_4 a1_5 a1_6 a1_7 a1_8 a1_9 a1_10 a1_11 a1_12 a1_13 a1_14 a1_15 a1_16 a1_17 a1_18b a1_18n a1_18k a1_19b a1_19n a1_19k a2b a2n a2k a3b a3n a3k H Q) : OK pm 17 ⟨[.agg ⟨[I a0_0, I a0_1, I a0_2, I a0_3, I a0_4, I a0_5, I a0_6, I a0_7, I a0_8, I a0_9, I a0_10, I a0_11, I a0_12, I a0_13, I a0_14, I a0_15, I a0_16, I a0_17, .slice a0_18b a0_18n a0_18k, .slice a0_19b a0_19n a0_19k]⟩, .agg ⟨[I a1_0, I a1_1, I a1_2, I a1_3, I a1_4, I a1_5, I a1_6, I a1_7, I a1_8, I a1_9, I a1_10, I a1_11, I a1_12, I a1_13, I a1_14, I a1_15, I a1_16, I a1_17, .slice a1_18b a1_18n a1_18k, .slice a1_19b a1_19n a1_19k]⟩, .slice a2b a2n a2k, .slice a3b a3n a3k]⟩ H Q := Ok.of_run (fn := Tryz.f17) (hp 17 rfl) (by kernel_rfl) (of_eq (by kernel_rfl) h)
theorem f18_ok (hp : Only pm) {a0 : ByteArray} {H : AH} {Q : Value → AH → Prop} (h : f18R (OK pm) a0 H Q) : OK pm 18 ⟨[.string a0]⟩ H Q := Ok.of_run (fn := Tryz.f18) (hp 18 rfl) (by kernel_rfl) (of_eq (by kernel_rfl) h)
theorem f20_ok (hp : Only pm) {a0h a0i : Nat} {a1 : Int} {H : AH} {Q : Value → AH → Prop} (h : f20R (OK pm) a0h a0i a1 H Q) : OK pm 20 ⟨[.pointer (some ⟨a0h, a0i, none⟩), I a1]⟩ H Q := Ok.of_run (fn := Tryz.f20) (hp 20 rfl) (by kernel_rfl) (of_eq (by kernel_rfl) h)
theorem f21_ok (hp : Only pm) {a0h a0i : Nat} {a1_0 a1_1 a1_2 a1_3 a1_4 a1_5 a1_6 a1_7 a1_8 a1_9 a1_10 a1_11 a1_12 a1_13 a1_14 a1_15 a1_16 a1_17 : Int} {a1_18b : Option Addr} {a1_18n a1_18k : Nat} {a1_19b : Option Addr} {a1_19n a1_19k : Nat} {a2 : Int} {a3 a4 : Bool} {H : AH} {Q : Value → AH → Prop} (h : f21R (OK pm) a0h a0i a1_0 a1_1 a1_2 a1_3 a1_4 a1_5 a1_6 a1_7 a1_8 a1_9 a1_10 a1_11 a1_12 a1_13 a1_14 a1_15 a1_16 a1_17 a1_18b a1_18n a1_18k a1_19b a1_19n a1_19k a2 a3 a4 H Q) : OK pm 21 ⟨[.pointer (some ⟨a0h, a0i, none⟩), .agg ⟨[I a1_0, I a1_1, I a1_2, I a1_3, I a1_4, I a1_5, I a1_6, I a1_7, I a1_8, I a1_9, I a1_10, I a1_11, I a1_12, I a1_13, I a1_14, I a1_15, I a1_16, I a1_17, .slice a1_18b a1_18n a1_18k, .slice a1_19b a1_19n a1_19k]⟩, I a2, .bool a3, .bool a4]⟩ H Q := Ok.of_run (fn := Tryz.f21) (hp 21 rfl) (by kernel_rfl) (of_eq (by kernel_rfl) h)
theorem f22_ok (hp : Only pm) {a0_0 a0_1 a0_2 a0_3 a0_4 a0_5 a0_6 a0_7 a0_8 a0_9 a0_10 a0_11 a0_12 a0_13 a0_14 a0_15 a0_16 a0_17 : Int} {a0_18b : Option Addr} {a0_18n a0_18k : Nat} {a0_19b : Option Addr} {a0_19n a0_19k : Nat} {a1b : Option Addr} {a1n a1k : Nat} {H : AH} {Q : Value → AH → Prop} (h : f22R (OK pm) a0_0 a0_1 a0_2 a0_3 a0_4 a0_5 a0_6 a0_7 a0_8 a0_9 a0_10 a0_11 a0_12 a0_13 a0_14 a0_15 a0_16 a0_17 a0_18b a0_18n a0_18k a0_19b a0_19n a0_19k a1b a1n a1k H Q) : OK pm 22 ⟨[.agg ⟨[I a0_0, I a0_1, I a0_2, I a0_3, I a0_4, I a0_5, I a0_6, I a0_7, I a0_8, I a0_9, I a0_10, I a0_11, I a0_12, I a0_13, I a0_14, I a0_15, I a0_16, I a0_17, .slice a0_18b a0_18n a0_18k, .slice a0_19b a0_19n a0_19k]⟩, .slice a1b a1n a1k]⟩ H Q := Ok.of_run (fn := Tryz.f22) (hp 22 rfl) (by kernel_rfl) (of_eq (by kernel_rfl) h)
theorem f23_ok (hp : Only pm) {a0_0 a0_1 a0_2 a0_3 a0_4 a0_5 a0_6 a0_7 a0_8 a0_9 a0_10 a0_11 a0_12 a0_13 a0_14 a0_15 a0_16 a0_17 : Int} {a0_18b : Option Addr} {a0_18n a0_18k : Nat} {a0_19b : Option Addr} {a0_19n a0_19k : Nat} {a1b : Option Addr} {a1n a1k : Nat} {H : AH} {Q : Value → AH → Prop} (h : f23R (OK pm) a0_0 a0_1 a0_2 a0_3 a0_4 a0_5 a0_6 a0_7 a0_8 a0_9 a0_10 a0_11 a0_12 a0_13 a0_14 a0_15 a0_16 a0_17 a0_18b a0_18n a0_18k a0_19b a0_19n a0_19k a1b a1n a1k H Q) : OK pm 23 ⟨[.agg ⟨[I a0_0, I a0_1, I a0_2, I a0_3, I a0_4, I a0_5, I a0_6, I a0_7, I a0_8, I a0_9, I a0_10, I a0_11, I a0_12, I a0_13, I a0_14, I a0_15, I a0_16, I a0_17, .slice a0_18b a0_18n a0_18k, .slice a0_19b a0_19n a0_19k]⟩, .slice a1b a1n a1k]⟩ H Q := Ok.of_run (fn := Tryz.f23) (hp 23 rfl) (by kernel_rfl) (of_eq (by kernel_rfl) h)
theorem f24_ok (hp : Only pm) {a0h a0i : Nat} {a1 : Int} {H : AH} {Q : Value → AH → Prop} (h : f24R (OK pm) a0h a0i a1 H Q) : OK pm 24 ⟨[.pointer (some ⟨a0h, a0i, none⟩), I a1]⟩ H Q := Ok.of_run (fn := Tryz.f24) (hp 24 rfl) (by kernel_rfl) (of_eq (by kernel_rfl) h)
theorem f25_ok (hp : Only pm) {a0_0 a0_1 a0_2 a0_3 a0_4 a0_5 a0_6 a0_7 a0_8 a0_9 a0_10 a0_11 a0_12 a0_13 a0_14 a0_15 a0_16 a0_17 : Int} {a0_18b : Option Addr} {a0_18n a0_18k : Nat} {a0_19b : Option Addr} {a0_19n a0_19k : Nat} {a1b : Option Addr} {a1n a1k : Nat} {H : AH} {Q : Value → AH → Prop} (h : f25R (OK pm) a0_0 a0_1 a0_2 a0_3 a0_4 a0_5 a0_6 a0_7 a0_8 a0_9 a0_10 a0_11 a0_12 a0_13 a0_14 a0_15 a0_16 a0_17 a0_18b a0_18n a0_18k a0_19b a0_19n a0_19k a1b a1n a1k H Q) : OK pm 25 ⟨[.agg ⟨[I a0_0, I a0_1, I a0_2, I a0_3, I a0_4, I a0_5, I a0_6, I a0_7, I a0_8, I a0_9, I a0_10, I a0_11, I a0_12, I a0_13, I a0_14, I a0_15, I a0_16, I a0_17, .slice a0_18b a0_18n a0_18k, .slice a0_19b a0_19n a0_19k]⟩, .slice a1b a1n a1k]⟩ H Q := Ok.of_run (fn := Tryz.f25) (hp 25 rfl) (by kernel_rfl) (of_eq (by kernel_rfl) h)
theorem f27_ok (hp : Only pm) {a0h a0i : Nat} {a1 : Int} {H : AH} {Q : Value → AH → Prop} (h : f27R (OK pm) a0h a0i a1 H Q) : OK pm 27 ⟨[.pointer (some ⟨a0h, a0i, none⟩), I a1]⟩ H Q := Ok.of_run (fn := Tryz.f27) (hp 27 rfl) (by kernel_rfl) (of_eq (by kernel_rfl) h)
theorem f28_ok (hp : Only pm) {a0h a0i : Nat} {H : AH} {Q : Value → AH → Prop} (h : f28R (OK pm) a0h a0i H Q) : OK pm 28 ⟨[.pointer (some ⟨a0h, a0i, none⟩)]⟩ H Q :=
  Ok.of_run (fn := Tryz.f28) (hp 28 rfl) (by kernel_rfl) (by rw [show ksAll 28 = ks28 from rfl, f28R_eq]; exact h)
theorem f29_ok (hp : Only pm) {a0h a0i : Nat} {H : AH} {Q : Value → AH → Prop} (h : f29R (OK pm) a0h a0i H Q) : OK pm 29 ⟨[.pointer (some ⟨a0h, a0i, none⟩)]⟩ H Q :=
  Ok.of_run (fn := Tryz.f29) (hp 29 rfl) (by kernel_rfl) (by rw [show ksAll 29 = ks29 from rfl, f29R_eq]; exact h)
theorem f30_ok (hp : Only pm) {a0h a0i a1h a1i : Nat} {H : AH} {Q : Value → AH → Prop} (h : f30R (OK pm) a0h a0i a1h a1i H Q) : OK pm 30 ⟨[.pointer (some ⟨a0h, a0i, none⟩), .pointer (some ⟨a1h, a1i, none⟩)]⟩ H Q :=
  Ok.of_run (fn := Tryz.f30) (hp 30 rfl) (by kernel_rfl) (by rw [show ksAll 30 = ks30 from rfl, f30R_eq]; exact h)
theorem f31_ok (hp : Only pm) {a0h a0i : Nat} {H : AH} {Q : Value → AH → Prop} (h : f31R (OK pm) a0h a0i H Q) : OK pm 31 ⟨[.pointer (some ⟨a0h, a0i, none⟩)]⟩ H Q := Ok.of_run (fn := Tryz.f31) (hp 31 rfl) (by kernel_rfl) (of_eq (by kernel_rfl) h)
theorem f35_ok (hp : Only pm) {a0 : ByteArray} {a1 : Int} {a2b : Option Addr} {a2n a2k : Nat} {H : AH} {Q : Value → AH → Prop} (h : f35R (OK pm) a0 a1 a2b a2n a2k H Q) : OK pm 35 ⟨[.string a0, I a1, .slice a2b a2n a2k]⟩ H Q := Ok.of_run (fn := Tryz.f35) (hp 35 rfl) (by kernel_rfl) (of_eq (by kernel_rfl) h)
theorem f36_ok (hp : Only pm) {a0h a0i : Nat} {a1 : ByteArray} {a2 : Int} {H : AH} {Q : Value → AH → Prop} (h : f36R (OK pm) a0h a0i a1 a2 H Q) : OK pm 36 ⟨[.pointer (some ⟨a0h, a0i, none⟩), .string a1, I a2]⟩ H Q := Ok.of_run (fn := Tryz.f36) (hp 36 rfl) (by kernel_rfl) (of_eq (by kernel_rfl) h)
theorem f37_ok (hp : Only pm) {a0 : ByteArray} {a1 : Int} {H : AH} {Q : Value → AH → Prop} (h : f37R (OK pm) a0 a1 H Q) : OK pm 37 ⟨[.string a0, .int .u8 a1]⟩ H Q := Ok.of_run (fn := Tryz.f37) (hp 37 rfl) (by kernel_rfl) (of_eq (by kernel_rfl) h)
theorem f38_ok (hp : Only pm) {a0h a0i : Nat} {a1 : ByteArray} {H : AH} {Q : Value → AH → Prop} (h : f38R (OK pm) a0h a0i a1 H Q) : OK pm 38 ⟨[.pointer (some ⟨a0h, a0i, none⟩), .string a1]⟩ H Q := Ok.of_run (fn := Tryz.f38) (hp 38 rfl) (by kernel_rfl) (of_eq (by kernel_rfl) h)
theorem f43_ok (hp : Only pm) {a0_0 a0_1 a0_2 a0_3 a0_4 a0_5 a0_6 a0_7 a0_8 a0_9 a0_10 a0_11 a0_12 a0_13 a0_14 a0_15 a0_16 a0_17 : Int} {a0_18b : Option Addr} {a0_18n a0_18k : Nat} {a0_19b : Option Addr} {a0_19n a0_19k : Nat} {H : AH} {Q : Value → AH → Prop} (h : f43R (OK pm) a0_0 a0_1 a0_2 a0_3 a0_4 a0_5 a0_6 a0_7 a0_8 a0_9 a0_10 a0_11 a0_12 a0_13 a0_14 a0_15 a0_16 a0_17 a0_18b a0_18n a0_18k a0_19b a0_19n a0_19k H Q) : OK pm 43 ⟨[.agg ⟨[I a0_0, I a0_1, I a0_2, I a0_3, I a0_4, I a0_5, I a0_6, I a0_7, I a0_8, I a0_9, I a0_10, I a0_11, I a0_12, I a0_13, I a0_14, I a0_15, I a0_16, I a0_17, .slice a0_18b a0_18n a0_18k, .slice a0_19b a0_19n a0_19k]⟩]⟩ H Q := Ok.of_run (fn := Tryz.f43) (hp 43 rfl) (by kernel_rfl) (of_eq (by kernel_rfl) h)
theorem f44_ok (hp : Only pm) {a0 : Int} {H : AH} {Q : Value → AH → Prop} (h : f44R (OK pm) a0 H Q) : OK pm 44 ⟨[I a0]⟩ H Q := Ok.of_run (fn := Tryz.f44) (hp 44 rfl) (by kernel_rfl) (of_eq (by kernel_rfl) h)
theorem f45_ok (hp : Only pm) {a0 : ByteArray} {a1b : Option Addr} {a1n a1k : Nat} {H : AH} {Q : Value → AH → Prop} (h : f45R (OK pm) a0 a1b a1n a1k H Q) : OK pm 45 ⟨[.string a0, .slice a1b a1n a1k]⟩ H Q := Ok.of_run (fn := Tryz.f45) (hp 45 rfl) (by kernel_rfl) (of_eq (by kernel_rfl) h)
theorem f46_ok (hp : Only pm) {a0b : Option Addr} {a0n a0k : Nat} {H : AH} {Q : Value → AH → Prop} (h : f46R (OK pm) a0b a0n a0k H Q) : OK pm 46 ⟨[.slice a0b a0n a0k]⟩ H Q := Ok.of_run (fn := Tryz.f46) (hp 46 rfl) (by kernel_rfl) (of_eq (by kernel_rfl) h)
theorem f47_ok (hp : Only pm) {a0h a0i : Nat} {a1 : Int} {H : AH} {Q : Value → AH → Prop} (h : f47R (OK pm) a0h a0i a1 H Q) : OK pm 47 ⟨[.pointer (some ⟨a0h, a0i, none⟩), I a1]⟩ H Q := Ok.of_run (fn := Tryz.f47) (hp 47 rfl) (by kernel_rfl) (of_eq (by kernel_rfl) h)
theorem f48_ok (hp : Only pm) {a0_0 a0_1 a0_2 a0_3 a0_4 a0_5 a0_6 a0_7 a0_8 a0_9 a0_10 a0_11 a0_12 a0_13 a0_14 : Int} {a1b : Option Addr} {a1n a1k : Nat} {H : AH} {Q : Value → AH → Prop} (h : f48R (OK pm) a0_0 a0_1 a0_2 a0_3 a0_4 a0_5 a0_6 a0_7 a0_8 a0_9 a0_10 a0_11 a0_12 a0_13 a0_14 a1b a1n a1k H Q) : OK pm 48 ⟨[.agg ⟨[I a0_0, I a0_1, I a0_2, I a0_3, I a0_4, I a0_5, I a0_6, I a0_7, I a0_8, I a0_9, I a0_10, I a0_11, I a0_12, I a0_13, I a0_14]⟩, .slice a1b a1n a1k]⟩ H Q := Ok.of_run (fn := Tryz.f48) (hp 48 rfl) (by kernel_rfl) (of_eq (by kernel_rfl) h)
theorem f49_ok (hp : Only pm) {a0_0 a0_1 a0_2 a0_3 a0_4 a0_5 a0_6 a0_7 a0_8 a0_9 a0_10 a0_11 a0_12 a0_13 a0_14 a0_15 a0_16 a0_17 : Int} {a0_18b : Option Addr} {a0_18n a0_18k : Nat} {a0_19b : Option Addr} {a0_19n a0_19k : Nat} {H : AH} {Q : Value → AH → Prop} (h : f49R (OK pm) a0_0 a0_1 a0_2 a0_3 a0_4 a0_5 a0_6 a0_7 a0_8 a0_9 a0_10 a0_11 a0_12 a0_13 a0_14 a0_15 a0_16 a0_17 a0_18b a0_18n a0_18k a0_19b a0_19n a0_19k H Q) : OK pm 49 ⟨[.agg ⟨[I a0_0, I a0_1, I a0_2, I a0_3, I a0_4, I a0_5, I a0_6, I a0_7, I a0_8, I a0_9, I a0_10, I a0_11, I a0_12, I a0_13, I a0_14, I a0_15, I a0_16, I a0_17, .slice a0_18b a0_18n a0_18k, .slice a0_19b a0_19n a0_19k]⟩]⟩ H Q := Ok.of_run (fn := Tryz.f49) (hp 49 rfl) (by kernel_rfl) (of_eq (by kernel_rfl) h)
theorem f50_ok (hp : Only pm) {H : AH} {Q : Value → AH → Prop} (h : f50R (OK pm) H Q) : OK pm 50 ⟨[]⟩ H Q := Ok.of_run (fn := Tryz.f50) (hp 50 rfl) (by kernel_rfl) (of_eq (by kernel_rfl) h)
theorem f55_ok (hp : Only pm) {a0 : ByteArray} {a1 : Int} {a2b : Option Addr} {a2n a2k : Nat} {H : AH} {Q : Value → AH → Prop} (h : f55R (OK pm) a0 a1 a2b a2n a2k H Q) : OK pm 55 ⟨[.string a0, I a1, .slice a2b a2n a2k]⟩ H Q := Ok.of_run (fn := Tryz.f55) (hp 55 rfl) (by kernel_rfl) (of_eq (by kernel_rfl) h)
theorem f57_ok (hp : Only pm) {a0h a0i : Nat} {H : AH} {Q : Value → AH → Prop} (h : f57R (OK pm) a0h a0i H Q) : OK pm 57 ⟨[.pointer (some ⟨a0h, a0i, none⟩)]⟩ H Q := Ok.of_run (fn := Tryz.f57) (hp 57 rfl) (by kernel_rfl) (of_eq (by kernel_rfl) h)
theorem f58_ok (hp : Only pm) {a0 : ByteArray} {H : AH} {Q : Value → AH → Prop} (h : f58R (OK pm) a0 H Q) : OK pm 58 ⟨[.string a0]⟩ H Q := Ok.of_run (fn := Tryz.f58) (hp 58 rfl) (by kernel_rfl) (of_eq (by kernel_rfl) h)
theorem f59_ok (hp : Only pm) {a0 : ByteArray} {a1 : Int} {H : AH} {Q : Value → AH → Prop} (h : f59R (OK pm) a0 a1 H Q) : OK pm 59 ⟨[.string a0, I a1]⟩ H Q := Ok.of_run (fn := Tryz.f59) (hp 59 rfl) (by kernel_rfl) (of_eq (by kernel_rfl) h)
theorem f60_ok (hp : Only pm) {a0 : ByteArray} {H : AH} {Q : Value → AH → Prop} (h : f60R (OK pm) a0 H Q) : OK pm 60 ⟨[.string a0]⟩ H Q := Ok.of_run (fn := Tryz.f60) (hp 60 rfl) (by kernel_rfl) (of_eq (by kernel_rfl) h)
theorem f62_ok (hp : Only pm) {a0 : Int} {H : AH} {Q : Value → AH → Prop} (h : f62R (OK pm) a0 H Q) : OK pm 62 ⟨[I a0]⟩ H Q := Ok.of_run (fn := Tryz.f62) (hp 62 rfl) (by kernel_rfl) (of_eq (by kernel_rfl) h)
theorem f63_ok (hp : Only pm) {a0_0 a0_1 a0_2 : Int} {a0_3b : Option Addr} {a0_3n a0_3k : Nat} {H : AH} {Q : Value → AH → Prop} (h : f63R (OK pm) a0_0 a0_1 a0_2 a0_3b a0_3n a0_3k H Q) : OK pm 63 ⟨[.agg ⟨[I a0_0, I a0_1, I a0_2, .slice a0_3b a0_3n a0_3k]⟩]⟩ H Q := Ok.of_run (fn := Tryz.f63) (hp 63 rfl) (by kernel_rfl) (of_eq (by kernel_rfl) h)
theorem f64_ok (hp : Only pm) {a0_0 a0_1 a0_2 a0_3 a0_4 a0_5 a0_6 a0_7 a0_8 a0_9 a0_10 a0_11 a0_12 a0_13 a0_14 a0_15 a0_16 a0_17 : Int} {a0_18b : Option Addr} {a0_18n a0_18k : Nat} {a0_19b : Option Addr} {a0_19n a0_19k : Nat} {H : AH} {Q : Value → AH → Prop} (h : f64R (OK pm) a0_0 a0_1 a0_2 a0_3 a0_4 a0_5 a0_6 a0_7 a0_8 a0_9 a0_10 a0_11 a0_12 a0_13 a0_14 a0_15 a0_16 a0_17 a0_18b a0_18n a0_18k a0_19b a0_19n a0_19k H Q) : OK pm 64 ⟨[.agg ⟨[I a0_0, I a0_1, I a0_2, I a0_3, I a0_4, I a0_5, I a0_6, I a0_7, I a0_8, I a0_9, I a0_10, I a0_11, I a0_12, I a0_13, I a0_14, I a0_15, I a0_16, I a0_17, .slice a0_18b a0_18n a0_18k, .slice a0_19b a0_19n a0_19k]⟩]⟩ H Q := Ok.of_run (fn := Tryz.f64) (hp 64 rfl) (by kernel_rfl) (of_eq (by kernel_rfl) h)
theorem f65_ok (hp : Only pm) {a0_0 a0_1 a0_2 : Int} {H : AH} {Q : Value → AH → Prop} (h : f65R (OK pm) a0_0 a0_1 a0_2 H Q) : OK pm 65 ⟨[.agg ⟨[I a0_0, I a0_1, I a0_2]⟩]⟩ H Q := Ok.of_run (fn := Tryz.f65) (hp 65 rfl) (by kernel_rfl) (of_eq (by kernel_rfl) h)
theorem f66_ok (hp : Only pm) {a0_0 a0_1 a0_2 : Int} {a1_0b : Option Addr} {a1_0n a1_0k : Nat} {a1_1b : Option Addr} {a1_1n a1_1k : Nat} {H : AH} {Q : Value → AH → Prop} (h : f66R (OK pm) a0_0 a0_1 a0_2 a1_0b a1_0n a1_0k a1_1b a1_1n a1_1k H Q) : OK pm 66 ⟨[.agg ⟨[I a0_0, I a0_1, I a0_2]⟩, .agg ⟨[.slice a1_0b a1_0n a1_0k, .slice a1_1b a1_1n a1_1k]⟩]⟩ H Q := Ok.of_run (fn := Tryz.f66) (hp 66 rfl) (by kernel_rfl) (of_eq (by kernel_rfl) h)
theorem f67_ok (hp : Only pm) {a0b : Option Addr} {a0n a0k : Nat} {H : AH} {Q : Value → AH → Prop} (h : f67R (OK pm) a0b a0n a0k H Q) : OK pm 67 ⟨[.slice a0b a0n a0k]⟩ H Q := Ok.of_run (fn := Tryz.f67) (hp 67 rfl) (by kernel_rfl) (of_eq (by kernel_rfl) h)
theorem f68_ok (hp : Only pm) {a0_0 a0_1 a0_2 a0_3 a0_4 a0_5 a0_6 a0_7 a0_8 a0_9 a0_10 a0_11 a0_12 a0_13 a0_14 a0_15 a0_16 a0_17 : Int} {a0_18b : Option Addr} {a0_18n a0_18k : Nat} {a0_19b : Option Addr} {a0_19n a0_19k : Nat} {a1_0 a1_1 : Int} {a1_2b : Option Addr} {a1_2n a1_2k : Nat} {a1_3b : Option Addr} {a1_3n a1_3k : Nat} {a1_4 a1_5 a1_6 a1_7 a1_8 a1_9 a1_10 a1_11 a1_12 a1_13 : Int} {H : AH} {Q : Value → AH → Prop} (h : f68R (OK pm) a0_0 a0_1 a0_2 a0_3 a0_4 a0_5 a0_6 a0_7 a0_8 a0_9 a0_10 a0_11 a0_12 a0_13 a0_14 a0_15 a0_16 a0_17 a0_18b a0_18n a0_18k a0_19b a0_19n a0_19k a1_0 a1_1 a1_2b a1_2n a1_2k a1_3b a1_3n a1_3k a1_4 a1_5 a1_6 a1_7 a1_8 a1_9 a1_10 a1_11 a1_12 a1_13 H Q) : OK pm 68 ⟨[.agg ⟨[I a0_0, I a0_1, I a0_2, I a0_3, I a0_4, I a0_5, I a0_6, I a0_7, I a0_8, I a0_9, I a0_10, I a0_11, I a0_12, I a0_13, I a0_14, I a0_15, I a0_16, I a0_17, .slice a0_18b a0_18n a0_18k, .slice a0_19b a0_19n a0_19k]⟩, .agg ⟨[I a1_0, I a1_1, .slice a1_2b a1_2n a1_2k, .slice a1_3b a1_3n a1_3k, I a1_4, I a1_5, I a1_6, I a1_7, I a1_8, I a1_9, I a1_10, I a1_11, I a1_12, I a1_13]⟩]⟩ H Q := Ok.of_run (fn := Tryz.f68) (hp 68 rfl) (by kernel_rfl) (of_eq (by kernel_rfl) h)
theorem f69_ok (hp : Only pm) {a0 : Int} {H : AH} {Q : Value → AH → Prop} (h : f69R (OK pm) a0 H Q) : OK pm 69 ⟨[I a0]⟩ H Q := Ok.of_run (fn := Tryz.f69) (hp 69 rfl) (by kernel_rfl) (of_eq (by kernel_rfl) h)
theorem f70_ok (hp : Only pm) {a0_0 a0_1 a0_2 a0_3 a0_4 a0_5 a0_6 a0_7 a0_8 a0_9 a0_10 a0_11 a0_12 a0_13 a0_14 : Int} {H : AH} {Q : Value → AH → Prop} (h : f70R (OK pm) a0_0 a0_1 a0_2 a0_3 a0_4 a0_5 a0_6 a0_7 a0_8 a0_9 a0_10 a0_11 a0_12 a0_13 a0_14 H Q) : OK pm 70 ⟨[.agg ⟨[I a0_0, I a0_1, I a0_2, I a0_3, I a0_4, I a0_5, I a0_6, I a0_7, I a0_8, I a0_9, I a0_10, I a0_11, I a0_12, I a0_13, I a0_14]⟩]⟩ H Q := Ok.of_run (fn := Tryz.f70) (hp 70 rfl) (by kernel_rfl) (of_eq (by kernel_rfl) h)
theorem f71_ok (hp : Only pm) {a0_0 a0_1 a0_2 a0_3 a0_4 a0_5 a0_6 a0_7 a0_8 a0_9 a0_10 a0_11 a0_12 a0_13 a0_14 : Int} {H : AH} {Q : Value → AH → Prop} (h : f71R (OK pm) a0_0 a0_1 a0_2 a0_3 a0_4 a0_5 a0_6 a0_7 a0_8 a0_9 a0_10 a0_11 a0_12 a0_13 a0_14 H Q) : OK pm 71 ⟨[.agg ⟨[I a0_0, I a0_1, I a0_2, I a0_3, I a0_4, I a0_5, I a0_6, I a0_7, I a0_8, I a0_9, I a0_10, I a0_11, I a0_12, I a0_13, I a0_14]⟩]⟩ H Q := Ok.of_run (fn := Tryz.f71) (hp 71 rfl) (by kernel_rfl) (of_eq (by kernel_rfl) h)
theorem f72_ok (hp : Only pm) {a0b : Option Addr} {a0n a0k : Nat} {a1 a2 : Int} {H : AH} {Q : Value → AH → Prop} (h : f72R (OK pm) a0b a0n a0k a1 a2 H Q) : OK pm 72 ⟨[.slice a0b a0n a0k, I a1, I a2]⟩ H Q := Ok.of_run (fn := Tryz.f72) (hp 72 rfl) (by kernel_rfl) (of_eq (by kernel_rfl) h)
theorem f73_ok (hp : Only pm) {a0b : Option Addr} {a0n a0k : Nat} {H : AH} {Q : Value → AH → Prop} (h : f73R (OK pm) a0b a0n a0k H Q) : OK pm 73 ⟨[.slice a0b a0n a0k]⟩ H Q := Ok.of_run (fn := Tryz.f73) (hp 73 rfl) (by kernel_rfl) (of_eq (by kernel_rfl) h)
theorem f74_ok (hp : Only pm) {a0 a1 a2 : Int} {H : AH} {Q : Value → AH → Prop} (h : f74R (OK pm) a0 a1 a2 H Q) : OK pm 74 ⟨[I a0, I a1, I a2]⟩ H Q := Ok.of_run (fn := Tryz.f74) (hp 74 rfl) (by kernel_rfl) (of_eq (by kernel_rfl) h)
theorem f75_ok (hp : Only pm) {a0 : Int} {H : AH} {Q : Value → AH → Prop} (h : f75R (OK pm) a0 H Q) : OK pm 75 ⟨[I a0]⟩ H Q := Ok.of_run (fn := Tryz.f75) (hp 75 rfl) (by kernel_rfl) (of_eq (by kernel_rfl) h)
theorem f76_ok (hp : Only pm) {a0_0 a0_1 a0_2 : Int} {a0_3b : Option Addr} {a0_3n a0_3k : Nat} {H : AH} {Q : Value → AH → Prop} (h : f76R (OK pm) a0_0 a0_1 a0_2 a0_3b a0_3n a0_3k H Q) : OK pm 76 ⟨[.agg ⟨[I a0_0, I a0_1, I a0_2, .slice a0_3b a0_3n a0_3k]⟩]⟩ H Q := Ok.of_run (fn := Tryz.f76) (hp 76 rfl) (by kernel_rfl) (of_eq (by kernel_rfl) h)
theorem f77_ok (hp : Only pm) {a0_0 a0_1 a0_2 a0_3 a0_4 a0_5 a0_6 a0_7 a0_8 a0_9 a0_10 a0_11 a0_12 a0_13 a0_14 a0_15 a0_16 a0_17 : Int} {a0_18b : Option Addr} {a0_18n a0_18k : Nat} {a0_19b : Option Addr} {a0_19n a0_19k : Nat} {H : AH} {Q : Value → AH → Prop} (h : f77R (OK pm) a0_0 a0_1 a0_2 a0_3 a0_4 a0_5 a0_6 a0_7 a0_8 a0_9 a0_10 a0_11 a0_12 a0_13 a0_14 a0_15 a0_16 a0_17 a0_18b a0_18n a0_18k a0_19b a0_19n a0_19k H Q) : OK pm 77 ⟨[.agg ⟨[I a0_0, I a0_1, I a0_2, I a0_3, I a0_4, I a0_5, I a0_6, I a0_7, I a0_8, I a0_9, I a0_10, I a0_11, I a0_12, I a0_13, I a0_14, I a0_15, I a0_16, I a0_17, .slice a0_18b a0_18n a0_18k, .slice a0_19b a0_19n a0_19k]⟩]⟩ H Q := Ok.of_run (fn := Tryz.f77) (hp 77 rfl) (by kernel_rfl) (of_eq (by kernel_rfl) h)
theorem f78_ok (hp : Only pm) {a0_0 a0_1 a0_2 : Int} {H : AH} {Q : Value → AH → Prop} (h : f78R (OK pm) a0_0 a0_1 a0_2 H Q) : OK pm 78 ⟨[.agg ⟨[I a0_0, I a0_1, I a0_2]⟩]⟩ H Q := Ok.of_run (fn := Tryz.f78) (hp 78 rfl) (by kernel_rfl) (of_eq (by kernel_rfl) h)
theorem f79_ok (hp : Only pm) {a0_0 a0_1 a0_2 : Int} {a1_0b : Option Addr} {a1_0n a1_0k : Nat} {a1_1b : Option Addr} {a1_1n a1_1k : Nat} {H : AH} {Q : Value → AH → Prop} (h : f79R (OK pm) a0_0 a0_1 a0_2 a1_0b a1_0n a1_0k a1_1b a1_1n a1_1k H Q) : OK pm 79 ⟨[.agg ⟨[I a0_0, I a0_1, I a0_2]⟩, .agg ⟨[.slice a1_0b a1_0n a1_0k, .slice a1_1b a1_1n a1_1k]⟩]⟩ H Q := Ok.of_run (fn := Tryz.f79) (hp 79 rfl) (by kernel_rfl) (of_eq (by kernel_rfl) h)
theorem f80_ok (hp : Only pm) {a0b : Option Addr} {a0n a0k : Nat} {H : AH} {Q : Value → AH → Prop} (h : f80R (OK pm) a0b a0n a0k H Q) : OK pm 80 ⟨[.slice a0b a0n a0k]⟩ H Q := Ok.of_run (fn := Tryz.f80) (hp 80 rfl) (by kernel_rfl) (of_eq (by kernel_rfl) h)
theorem f81_ok (hp : Only pm) {a0_0 a0_1 a0_2 a0_3 a0_4 a0_5 a0_6 a0_7 a0_8 a0_9 a0_10 a0_11 a0_12 a0_13 a0_14 a0_15 a0_16 a0_17 : Int} {a0_18b : Option Addr} {a0_18n a0_18k : Nat} {a0_19b : Option Addr} {a0_19n a0_19k : Nat} {a1_0 a1_1 : Int} {a1_2b : Option Addr} {a1_2n a1_2k : Nat} {a1_3b : Option Addr} {a1_3n a1_3k : Nat} {a1_4 a1_5 a1_6 a1_7 a1_8 a1_9 a1_10 a1_11 a1_12 a1_13 : Int} {H : AH} {Q : Value → AH → Prop} (h : f81R (OK pm) a0_0 a0_1 a0_2 a0_3 a0_4 a0_5 a0_6 a0_7 a0_8 a0_9 a0_10 a0_11 a0_12 a0_13 a0_14 a0_15 a0_16 a0_17 a0_18b a0_18n a0_18k a0_19b a0_19n a0_19k a1_0 a1_1 a1_2b a1_2n a1_2k a1_3b a1_3n a1_3k a1_4 a1_5 a1_6 a1_7 a1_8 a1_9 a1_10 a1_11 a1_12 a1_13 H Q) : OK pm 81 ⟨[.agg ⟨[I a0_0, I a0_1, I a0_2, I a0_3, I a0_4, I a0_5, I a0_6, I a0_7, I a0_8, I a0_9, I a0_10, I a0_11, I a0_12, I a0_13, I a0_14, I a0_15, I a0_16, I a0_17, .slice a0_18b a0_18n a0_18k, .slice a0_19b a0_19n a0_19k]⟩, .agg ⟨[I a1_0, I a1_1, .slice a1_2b a1_2n a1_2k, .slice a1_3b a1_3n a1_3k, I a1_4, I a1_5, I a1_6, I a1_7, I a1_8, I a1_9, I a1_10, I a1_11, I a1_12, I a1_13]⟩]⟩ H Q := Ok.of_run (fn := Tryz.f81) (hp 81 rfl) (by kernel_rfl) (of_eq (by kernel_rfl) h)
theorem f90_ok (hp : Only pm) {a0 : Int} {H : AH} {Q : Value → AH → Prop} (h : f90R (OK pm) a0 H Q) : OK pm 90 ⟨[I a0]⟩ H Q := Ok.of_run (fn := Tryz.f90) (hp 90 rfl) (by kernel_rfl) (of_eq (by kernel_rfl) h)
theorem f91_ok (hp : Only pm) {a0 : Int} {H : AH} {Q : Value → AH → Prop} (h : f91R (OK pm) a0 H Q) : OK pm 91 ⟨[.int .u8 a0]⟩ H Q := Ok.of_run (fn := Tryz.f91) (hp 91 rfl) (by kernel_rfl) (of_eq (by kernel_rfl) h)
theorem f96_ok (hp : Only pm) {a0 : Int} {H : AH} {Q : Value → AH → Prop} (h : f96R (OK pm) a0 H Q) : OK pm 96 ⟨[I a0]⟩ H Q := Ok.of_run (fn := Tryz.f96) (hp 96 rfl) (by kernel_rfl) (of_eq (by kernel_rfl) h)
theorem f97_ok (hp : Only pm) {a0_0 a0_1 a0_2 a0_3 a0_4 a0_5 a0_6 a0_7 a0_8 a0_9 a0_10 : Int} {H : AH} {Q : Value → AH → Prop} (h : f97R (OK pm) a0_0 a0_1 a0_2 a0_3 a0_4 a0_5 a0_6 a0_7 a0_8 a0_9 a0_10 H Q) : OK pm 97 ⟨[.agg ⟨[I a0_0, I a0_1, I a0_2, I a0_3, I a0_4, I a0_5, I a0_6, I a0_7, I a0_8, I a0_9, I a0_10]⟩]⟩ H Q := Ok.of_run (fn := Tryz.f97) (hp 97 rfl) (by kernel_rfl) (of_eq (by kernel_rfl) h)
theorem f98_ok (hp : Only pm) {a0b : Option Addr} {a0n a0k : Nat} {H : AH} {Q : Value → AH → Prop} (h : f98R (OK pm) a0b a0n a0k H Q) : OK pm 98 ⟨[.slice a0b a0n a0k]⟩ H Q := Ok.of_run (fn := Tryz.f98) (hp 98 rfl) (by kernel_rfl) (of_eq (by kernel_rfl) h)
theorem f99_ok (hp : Only pm) {a0b : Option Addr} {a0n a0k : Nat} {H : AH} {Q : Value → AH → Prop} (h : f99R (OK pm) a0b a0n a0k H Q) : OK pm 99 ⟨[.slice a0b a0n a0k]⟩ H Q := Ok.of_run (fn := Tryz.f99) (hp 99 rfl) (by kernel_rfl) (of_eq (by kernel_rfl) h)
theorem f100_ok (hp : Only pm) {a0_0 a0_1 a0_2 a0_3 a0_4 a0_5 : Int} {H : AH} {Q : Value → AH → Prop} (h : f100R (OK pm) a0_0 a0_1 a0_2 a0_3 a0_4 a0_5 H Q) : OK pm 100 ⟨[.agg ⟨[I a0_0, I a0_1, I a0_2, I a0_3, I a0_4, I a0_5]⟩]⟩ H Q := Ok.of_run (fn := Tryz.f100) (hp 100 rfl) (by kernel_rfl) (of_eq (by kernel_rfl) h)
theorem f101_ok (hp : Only pm) {a0 a1 : Int} {H : AH} {Q : Value → AH → Prop} (h : f101R (OK pm) a0 a1 H Q) : OK pm 101 ⟨[I a0, I a1]⟩ H Q := Ok.of_run (fn := Tryz.f101) (hp 101 rfl) (by kernel_rfl) (of_eq (by kernel_rfl) h)
theorem f102_ok (hp : Only pm) {a0b : Option Addr} {a0n a0k : Nat} {a1 a2 : Int} {H : AH} {Q : Value → AH → Prop} (h : f102R (OK pm) a0b a0n a0k a1 a2 H Q) : OK pm 102 ⟨[.slice a0b a0n a0k, I a1, I a2]⟩ H Q := Ok.of_run (fn := Tryz.f102) (hp 102 rfl) (by kernel_rfl) (of_eq (by kernel_rfl) h)
theorem f103_ok (hp : Only pm) {a0 : Int} {a1b : Option Addr} {a1n a1k : Nat} {H : AH} {Q : Value → AH → Prop} (h : f103R (OK pm) a0 a1b a1n a1k H Q) : OK pm 103 ⟨[I a0, .slice a1b a1n a1k]⟩ H Q := Ok.of_run (fn := Tryz.f103) (hp 103 rfl) (by kernel_rfl) (of_eq (by kernel_rfl) h)
theorem f108_ok (hp : Only pm) {a0b : Option Addr} {a0n a0k : Nat} {a1 : Int} {H : AH} {Q : Value → AH → Prop} (h : f108R (OK pm) a0b a0n a0k a1 H Q) : OK pm 108 ⟨[.slice a0b a0n a0k, I a1]⟩ H Q := Ok.of_run (fn := Tryz.f108) (hp 108 rfl) (by kernel_rfl) (of_eq (by kernel_rfl) h)
theorem f109_ok (hp : Only pm) {a0 a1 a2 : Int} {H : AH} {Q : Value → AH → Prop} (h : f109R (OK pm) a0 a1 a2 H Q) : OK pm 109 ⟨[I a0, I a1, I a2]⟩ H Q := Ok.of_run (fn := Tryz.f109) (hp 109 rfl) (by kernel_rfl) (of_eq (by kernel_rfl) h)
theorem f110_ok (hp : Only pm) {a0_0 a0_1 a0_2 a0_3 a0_4 a0_5 a0_6 a0_7 a0_8 a0_9 a0_10 : Int} {H : AH} {Q : Value → AH → Prop} (h : f110R (OK pm) a0_0 a0_1 a0_2 a0_3 a0_4 a0_5 a0_6 a0_7 a0_8 a0_9 a0_10 H Q) : OK pm 110 ⟨[.agg ⟨[I a0_0, I a0_1, I a0_2, I a0_3, I a0_4, I a0_5, I a0_6, I a0_7, I a0_8, I a0_9, I a0_10]⟩]⟩ H Q := Ok.of_run (fn := Tryz.f110) (hp 110 rfl) (by kernel_rfl) (of_eq (by kernel_rfl) h)
theorem f111_ok (hp : Only pm) {a0b : Option Addr} {a0n a0k : Nat} {H : AH} {Q : Value → AH → Prop} (h : f111R (OK pm) a0b a0n a0k H Q) : OK pm 111 ⟨[.slice a0b a0n a0k]⟩ H Q := Ok.of_run (fn := Tryz.f111) (hp 111 rfl) (by kernel_rfl) (of_eq (by kernel_rfl) h)
theorem f112_ok (hp : Only pm) {a0b : Option Addr} {a0n a0k : Nat} {H : AH} {Q : Value → AH → Prop} (h : f112R (OK pm) a0b a0n a0k H Q) : OK pm 112 ⟨[.slice a0b a0n a0k]⟩ H Q := Ok.of_run (fn := Tryz.f112) (hp 112 rfl) (by kernel_rfl) (of_eq (by kernel_rfl) h)
theorem f113_ok (hp : Only pm) {a0_0 a0_1 a0_2 a0_3 a0_4 a0_5 : Int} {H : AH} {Q : Value → AH → Prop} (h : f113R (OK pm) a0_0 a0_1 a0_2 a0_3 a0_4 a0_5 H Q) : OK pm 113 ⟨[.agg ⟨[I a0_0, I a0_1, I a0_2, I a0_3, I a0_4, I a0_5]⟩]⟩ H Q := Ok.of_run (fn := Tryz.f113) (hp 113 rfl) (by kernel_rfl) (of_eq (by kernel_rfl) h)
theorem f123_ok (hp : Only pm) {a0_0 a0_1 a0_2 a0_3 a0_4 a0_5 : Int} {H : AH} {Q : Value → AH → Prop} (h : f123R (OK pm) a0_0 a0_1 a0_2 a0_3 a0_4 a0_5 H Q) : OK pm 123 ⟨[.agg ⟨[I a0_0, I a0_1, I a0_2, I a0_3, I a0_4, I a0_5]⟩]⟩ H Q := Ok.of_run (fn := Tryz.f123) (hp 123 rfl) (by kernel_rfl) (of_eq (by kernel_rfl) h)
theorem f124_ok (hp : Only pm) {a0_0 a0_1 a0_2 : Int} {H : AH} {Q : Value → AH → Prop} (h : f124R (OK pm) a0_0 a0_1 a0_2 H Q) : OK pm 124 ⟨[.agg ⟨[I a0_0, I a0_1, I a0_2]⟩]⟩ H Q := Ok.of_run (fn := Tryz.f124) (hp 124 rfl) (by kernel_rfl) (of_eq (by kernel_rfl) h)
theorem f125_ok (hp : Only pm) {a0 : Int} {H : AH} {Q : Value → AH → Prop} (h : f125R (OK pm) a0 H Q) : OK pm 125 ⟨[I a0]⟩ H Q := Ok.of_run (fn := Tryz.f125) (hp 125 rfl) (by kernel_rfl) (of_eq (by kernel_rfl) h)
theorem f130_ok (hp : Only pm) {a0b : Option Addr} {a0n a0k gh gi : Nat} {H : AH} {Q : Value → AH → Prop} (h : f130R (OK pm) a0b a0n a0k gh gi H Q) : OK pm 130 ⟨[.slice a0b a0n a0k, .func (.func 131) ⟨[]⟩ ⟨[.pointer (some ⟨gh, gi, none⟩)]⟩]⟩ H Q := Ok.of_run (fn := Tryz.f130) (hp 130 rfl) (by kernel_rfl) (of_eq (by kernel_rfl) h)
theorem f131_ok (hp : Only pm) {a0 : Int} {g0h g0i : Nat} {H : AH} {Q : Value → AH → Prop} (h : f131R (OK pm) a0 g0h g0i H Q) : OK pm 131 ⟨[I a0, .pointer (some ⟨g0h, g0i, none⟩)]⟩ H Q := Ok.of_run (fn := Tryz.f131) (hp 131 rfl) (by kernel_rfl) (of_eq (by kernel_rfl) h)
theorem f132_ok (hp : Only pm) {a0_0 a0_1 a0_2 a0_3 a0_4 a0_5 a0_6 a0_7 a0_8 a0_9 a0_10 : Int} {H : AH} {Q : Value → AH → Prop} (h : f132R (OK pm) a0_0 a0_1 a0_2 a0_3 a0_4 a0_5 a0_6 a0_7 a0_8 a0_9 a0_10 H Q) : OK pm 132 ⟨[.agg ⟨[I a0_0, I a0_1, I a0_2, I a0_3, I a0_4, I a0_5, I a0_6, I a0_7, I a0_8, I a0_9, I a0_10]⟩]⟩ H Q := Ok.of_run (fn := Tryz.f132) (hp 132 rfl) (by kernel_rfl) (of_eq (by kernel_rfl) h)
theorem f133_ok (hp : Only pm) {a0b : Option Addr} {a0n a0k : Nat} {H : AH} {Q : Value → AH → Prop} (h : f133R (OK pm) a0b a0n a0k H Q) : OK pm 133 ⟨[.slice a0b a0n a0k, .func (.func 134) ⟨[]⟩ ⟨[]⟩]⟩ H Q := Ok.of_run (fn := Tryz.f133) (hp 133 rfl) (by kernel_rfl) (of_eq (by kernel_rfl) h)
theorem f134_ok (hp : Only pm) {a0_0 a0_1 a0_2 a0_3 : Int} {H : AH} {Q : Value → AH → Prop} (h : f134R (OK pm) a0_0 a0_1 a0_2 a0_3 H Q) : OK pm 134 ⟨[.agg ⟨[I a0_0, I a0_1, I a0_2, I a0_3]⟩]⟩ H Q := Ok.of_run (fn := Tryz.f134) (hp 134 rfl) (by kernel_rfl) (of_eq (by kernel_rfl) h)
theorem f135_ok (hp : Only pm) {a0 a1 a2 : Int} {H : AH} {Q : Value → AH → Prop} (h : f135R (OK pm) a0 a1 a2 H Q) : OK pm 135 ⟨[I a0, I a1, I a2]⟩ H Q := Ok.of_run (fn := Tryz.f135) (hp 135 rfl) (by kernel_rfl) (of_eq (by kernel_rfl) h)
theorem f136_ok (hp : Only pm) {a0_0 a0_1 a0_2 : Int} {H : AH} {Q : Value → AH → Prop} (h : f136R (OK pm) a0_0 a0_1 a0_2 H Q) : OK pm 136 ⟨[.agg ⟨[I a0_0, I a0_1, I a0_2]⟩]⟩ H Q := Ok.of_run (fn := Tryz.f136) (hp 136 rfl) (by kernel_rfl) (of_eq (by kernel_rfl) h)
theorem f151_ok (hp : Only pm) {a0 : Int} {H : AH} {Q : Value → AH → Prop} (h : f151R (OK pm) a0 H Q) : OK pm 151 ⟨[I a0]⟩ H Q := Ok.of_run (fn := Tryz.f151) (hp 151 rfl) (by kernel_rfl) (of_eq (by kernel_rfl) h)
theorem f153_ok (hp : Only pm) {a0b : Option Addr} {a0n a0k gh gi : Nat} {H : AH} {Q : Value → AH → Prop} (h : f153R (OK pm) a0b a0n a0k gh gi H Q) : OK pm 153 ⟨[.slice a0b a0n a0k, .func (.func 131) ⟨[]⟩ ⟨[.pointer (some ⟨gh, gi, none⟩)]⟩]⟩ H Q := Ok.of_run (fn := Tryz.f153) (hp 153 rfl) (by kernel_rfl) (of_eq (by kernel_rfl) h)
theorem f154_ok (hp : Only pm) {a0_0 a0_1 a0_2 a0_3 a0_4 a0_5 : Int} {H : AH} {Q : Value → AH → Prop} (h : f154R (OK pm) a0_0 a0_1 a0_2 a0_3 a0_4 a0_5 H Q) : OK pm 154 ⟨[.agg ⟨[I a0_0, I a0_1, I a0_2, I a0_3, I a0_4, I a0_5]⟩]⟩ H Q := Ok.of_run (fn := Tryz.f154) (hp 154 rfl) (by kernel_rfl) (of_eq (by kernel_rfl) h)
theorem f155_ok (hp : Only pm) {a0b : Option Addr} {a0n a0k : Nat} {H : AH} {Q : Value → AH → Prop} (h : f155R (OK pm) a0b a0n a0k H Q) : OK pm 155 ⟨[.slice a0b a0n a0k, .func (.func 134) ⟨[]⟩ ⟨[]⟩]⟩ H Q := Ok.of_run (fn := Tryz.f155) (hp 155 rfl) (by kernel_rfl) (of_eq (by kernel_rfl) h)
theorem f165_ok (hp : Only pm) {a0 a1 a2 : Int} {H : AH} {Q : Value → AH → Prop} (h : f165R (OK pm) a0 a1 a2 H Q) : OK pm 165 ⟨[I a0, I a1, I a2]⟩ H Q := Ok.of_run (fn := Tryz.f165) (hp 165 rfl) (by kernel_rfl) (of_eq (by kernel_rfl) h)
theorem f166_ok (hp : Only pm) {a0 : Int} {H : AH} {Q : Value → AH → Prop} (h : f166R (OK pm) a0 H Q) : OK pm 166 ⟨[I a0]⟩ H Q := Ok.of_run (fn := Tryz.f166) (hp 166 rfl) (by kernel_rfl) (of_eq (by kernel_rfl) h)
end
end AM
end Go.Proofs.YtemcmblcogljkaaGreatDoor

