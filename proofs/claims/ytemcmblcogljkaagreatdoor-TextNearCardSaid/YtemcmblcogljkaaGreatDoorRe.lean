/-  -/
import Derived.Test.YtemcmblcogljkaaGreatDoorMb
set_option linter.all false
set_option linter.unusedSimpArgs false
set_option linter.unusedVariables false
set_option maxRecDepth 100000
namespace Go.Proofs.YtemcmblcogljkaaGreatDoor
namespace AM
open Go
def ks38 : Keeps := fun i => match i with
 | 2003 => some [0, 1, 5, 22]
 | 2008 => some [0, 1, 5, 94]
 | 2012 => some [0, 1, 5, 123]
 | 2016 => some [0, 1, 5, 152]
 | 2020 => some [0, 1, 5, 178]
 | 2023 => some [0, 1, 5, 217]
 | 2027 => some [0, 1, 5, 289]
 | 2032 => some [0, 1, 5, 380]
 | 2039 => some [4]
 | 3000 => some [0, 1, 5]
 | 4003 => some [22]
 | 4008 => some [94]
 | 4012 => some [123]
 | 4016 => some [152]
 | 4020 => some [178]
 | 4023 => some [217]
 | 4027 => some [289]
 | 4032 => some [380]
 | 4039 => some [4]
 | _ => none
def f38_n : Nat := 488
def f38T0 (t0h t0i : Nat) (t1 t5 : ByteArray) (H : AH) : St := ((((Tr.leaf.put 0 (.pointer (some ⟨t0h, t0i, none⟩))).put 1 (.string t1)).put 5 (.string t5)), H)
def f38J0 (cw : CallW) (Q : Value → AH → Prop) (t0h t0i : Nat) (t1 t5 : ByteArray) (H : AH) : Prop := (kSeq (execW Tryz.prog cw ks38 f38_n (cR (cR (cR (bodyOf Tryz.f38))))) (kRet Tryz.prog Tryz.f38 Q)) .normal (f38T0 t0h t0i t1 t5 H)
def f38K0 (cw : CallW) (Q : Value → AH → Prop) (t0h t0i : Nat) (t1 t5 : ByteArray) (H : AH) : Prop :=
 obI .i64 (H.load t0h ((t0i + 1) + 0)) fun x1 =>
 obI .i64 (H.load t0h ((t0i + 1) + 1)) fun x2 =>
 obI .i64 (H.load t0h ((t0i + 1) + 2)) fun x3 =>
 obI .i64 (H.load t0h ((t0i + 1) + 3)) fun x4 =>
 obI .i64 (H.load t0h ((t0i + 1) + 4)) fun x5 =>
 obI .i64 (H.load t0h ((t0i + 1) + 5)) fun x6 =>
 obI .i64 (H.load t0h ((t0i + 1) + 6)) fun x7 =>
 obI .i64 (H.load t0h ((t0i + 1) + 7)) fun x8 =>
 obI .i64 (H.load t0h ((t0i + 1) + 8)) fun x9 =>
 obI .i64 (H.load t0h ((t0i + 1) + 9)) fun x10 =>
 obI .i64 (H.load t0h ((t0i + 1) + 10)) fun x11 =>
 obI .i64 (H.load t0h ((t0i + 1) + 11)) fun x12 =>
 obI .i64 (H.load t0h ((t0i + 1) + 12)) fun x13 =>
 obI .i64 (H.load t0h ((t0i + 1) + 13)) fun x14 =>
 obI .i64 (H.load t0h ((t0i + 1) + 14)) fun x15 =>
 obI .i64 (H.load t0h ((t0i + 1) + 15)) fun x16 =>
 obI .i64 (H.load t0h ((t0i + 1) + 16)) fun x17 =>
 obI .i64 (H.load t0h ((t0i + 1) + 17)) fun x18 =>
 obL (H.load t0h ((t0i + 1) + 18)) fun b19 n19 k19 =>
 obL (H.load t0h ((t0i + 1) + 19)) fun b20 n20 k20 =>
 obL (H.load t0h (t0i + 21)) fun b21 n21 k21 =>
 cw 23 ⟨[.agg ⟨[I x1, I x2, I x3, I x4, I x5, I x6, I x7, I x8, I x9, I x10, I x11, I x12, I x13, I x14, I x15, I x16, I x17, I x18, .slice b19 n19 k19, .slice b20 n20 k20]⟩, .slice b21 n21 k21]⟩ H fun v22 H23 =>
 obL (some v22) fun b24 n24 k24 =>
 ifB (t5.data.toList == (bs [112, 97, 99, 107, 101, 116]).data.toList) (
 join2 (fun J25 =>
 obA (elemS 1 (.slice b24 n24 k24) (I (IntKind.wrap .i64 ((n24 : Int) - 1)))) fun h26 i26 =>
 obS (H23.load h26 i26) fun s27 =>
 ifB (s27.data.toList == t1.data.toList) (
 obL (H23.load t0h (t0i + 21)) fun b28 n28 k28 =>
 obL (H23.load t0h (t0i + 21)) fun b29 n29 k29 =>
 obA (elemS 5 (.slice b28 n28 k28) (I (IntKind.wrap .i64 ((n29 : Int) - 1)))) fun h30 i30 =>
 obL (H23.load h30 (i30 + 4)) fun b31 n31 k31 =>
 J25 (decide ((n31 : Int) > 0)) H23) (
 J25 false H23)) fun c32 H33 =>
 Q (.bool c32) H33) (
 obI .i64 (H23.load t0h (t0i + 0)) fun x34 =>
 ifB (decide (x34 < 4)) (
 obI .i64 (H23.load t0h (t0i + 0)) fun x35 =>
 obA (elemS 1 (.slice b24 n24 k24) (I (IntKind.wrap .i64 (x35 - 1)))) fun h36 i36 =>
 obS (H23.load h36 i36) fun s37 =>
 Q (.bool (s37.data.toList == t1.data.toList)) H23) (
 obA (elemS 1 (.slice b24 n24 k24) (I (if 3 > (IntKind.wrap .i64 ((n24 : Int) - 1)) then 3 else (IntKind.wrap .i64 ((n24 : Int) - 1))))) fun h38 i38 =>
 obS (H23.load h38 i38) fun s39 =>
 Q (.bool (s39.data.toList == t1.data.toList)) H23))
theorem f38J0_eq (cw : CallW) (Q : Value → AH → Prop) (t0h t0i : Nat) (t1 t5 : ByteArray) (H : AH) : f38J0 cw Q t0h t0i t1 t5 H = f38K0 cw Q t0h t0i t1 t5 H := by kernel_rfl
def f38R (cw : CallW) (a0h a0i : Nat) (a1 : ByteArray) (H : AH) (Q : Value → AH → Prop) : Prop :=
 cw 37 ⟨[.string a1, .int .u8 32]⟩ H fun v1 H2 =>
 obL (some v1) fun b3 n3 k3 =>
 obA (elemS 1 (.slice b3 n3 k3) (I 0)) fun h4 i4 =>
 obS (H2.load h4 i4) fun s5 =>
 join2 (fun J6 =>
 obI .i64 (H2.load a0h (a0i + 0)) fun x7 =>
 ifB (x7 == 0) (
 J6 (s5.data.toList == (bs [110, 101, 116, 119, 111, 114, 107]).data.toList) H2) (
 J6 false H2)) fun c8 H9 =>
 ifB c8 (
 cw 59 ⟨[.string a1, I 9]⟩ H9 fun v10 H11 =>
 obL (some v10) fun b12 n12 k12 =>
 obA (elemS 1 (.slice b12 n12 k12) (I 0)) fun h13 i13 =>
 obI .i64 (H11.load h13 i13) fun x14 =>
 obA (elemS 1 (.slice b12 n12 k12) (I 1)) fun h15 i15 =>
 obI .i64 (H11.load h15 i15) fun x16 =>
 obA (elemS 1 (.slice b12 n12 k12) (I 2)) fun h17 i17 =>
 obI .i64 (H11.load h17 i17) fun x18 =>
 obA (elemS 1 (.slice b12 n12 k12) (I 3)) fun h19 i19 =>
 obI .i64 (H11.load h19 i19) fun x20 =>
 obA (elemS 1 (.slice b12 n12 k12) (I 4)) fun h21 i21 =>
 obI .i64 (H11.load h21 i21) fun x22 =>
 obA (elemS 1 (.slice b12 n12 k12) (I 5)) fun h23 i23 =>
 obI .i64 (H11.load h23 i23) fun x24 =>
 obA (elemS 1 (.slice b12 n12 k12) (I 6)) fun h25 i25 =>
 obI .i64 (H11.load h25 i25) fun x26 =>
 obA (elemS 1 (.slice b12 n12 k12) (I 7)) fun h27 i27 =>
 obI .i64 (H11.load h27 i27) fun x28 =>
 obA (elemS 1 (.slice b12 n12 k12) (I 8)) fun h29 i29 =>
 obI .i64 (H11.load h29 i29) fun x30 =>
 obH (H11.storeN a0h ((a0i + 1) + 0) [I x14]) fun H31 =>
 obH (H31.storeN a0h ((a0i + 1) + 1) [I x16]) fun H32 =>
 obH (H32.storeN a0h ((a0i + 1) + 2) [I x18]) fun H33 =>
 obH (H33.storeN a0h ((a0i + 1) + 3) [I x20]) fun H34 =>
 obH (H34.storeN a0h ((a0i + 1) + 4) [I x22]) fun H35 =>
 obH (H35.storeN a0h ((a0i + 1) + 5) [I x24]) fun H36 =>
 obH (H36.storeN a0h ((a0i + 1) + 6) [I x26]) fun H37 =>
 obH (H37.storeN a0h ((a0i + 1) + 7) [I x28]) fun H38 =>
 obH (H38.storeN a0h ((a0i + 1) + 8) [I x30]) fun H39 =>
 obH (H39.storeN a0h (a0i + 0) [I 1]) fun H40 =>
 f38J0 cw Q a0h a0i a1 s5 H40) (
 join2 (fun J41 =>
 obI .i64 (H9.load a0h (a0i + 0)) fun x42 =>
 ifB (x42 == 1) (
 J41 (s5.data.toList == (bs [112, 97, 116, 105, 101, 110, 99, 101]).data.toList) H9) (
 J41 false H9)) fun c43 H44 =>
 ifB c43 (
 cw 59 ⟨[.string a1, I 3]⟩ H44 fun v45 H46 =>
 obL (some v45) fun b47 n47 k47 =>
 obA (elemS 1 (.slice b47 n47 k47) (I 0)) fun h48 i48 =>
 obI .i64 (H46.load h48 i48) fun x49 =>
 obA (elemS 1 (.slice b47 n47 k47) (I 1)) fun h50 i50 =>
 obI .i64 (H46.load h50 i50) fun x51 =>
 obA (elemS 1 (.slice b47 n47 k47) (I 2)) fun h52 i52 =>
 obI .i64 (H46.load h52 i52) fun x53 =>
 obH (H46.storeN a0h ((a0i + 1) + 9) [I x49, I x51, I x53]) fun H54 =>
 obH (H54.storeN a0h (a0i + 0) [I 2]) fun H55 =>
 f38J0 cw Q a0h a0i a1 s5 H55) (
 join2 (fun J56 =>
 obI .i64 (H44.load a0h (a0i + 0)) fun x57 =>
 ifB (x57 == 2) (
 J56 (s5.data.toList == (bs [114, 117, 108, 101]).data.toList) H44) (
 J56 false H44)) fun c58 H59 =>
 ifB c58 (
 cw 59 ⟨[.string a1, I 3]⟩ H59 fun v60 H61 =>
 obL (some v60) fun b62 n62 k62 =>
 obA (elemS 1 (.slice b62 n62 k62) (I 0)) fun h63 i63 =>
 obI .i64 (H61.load h63 i63) fun x64 =>
 obA (elemS 1 (.slice b62 n62 k62) (I 1)) fun h65 i65 =>
 obI .i64 (H61.load h65 i65) fun x66 =>
 obA (elemS 1 (.slice b62 n62 k62) (I 2)) fun h67 i67 =>
 obI .i64 (H61.load h67 i67) fun x68 =>
 obH (H61.storeN a0h ((a0i + 1) + 12) [I x64, I x66, I x68]) fun H69 =>
 obH (H69.storeN a0h (a0i + 0) [I 3]) fun H70 =>
 f38J0 cw Q a0h a0i a1 s5 H70) (
 join2 (fun J71 =>
 obI .i64 (H59.load a0h (a0i + 0)) fun x72 =>
 ifB (x72 == 3) (
 J71 (s5.data.toList == (bs [111, 117, 116, 101, 114]).data.toList) H59) (
 J71 false H59)) fun c73 H74 =>
 ifB c73 (
 cw 59 ⟨[.string a1, I 2]⟩ H74 fun v75 H76 =>
 obL (some v75) fun b77 n77 k77 =>
 obA (elemS 1 (.slice b77 n77 k77) (I 0)) fun h78 i78 =>
 obI .i64 (H76.load h78 i78) fun x79 =>
 obA (elemS 1 (.slice b77 n77 k77) (I 1)) fun h80 i80 =>
 obI .i64 (H76.load h80 i80) fun x81 =>
 obH (H76.storeN a0h ((a0i + 1) + 15) [I 0, I x79, I x81]) fun H82 =>
 obH (H82.storeN a0h (a0i + 0) [I 4]) fun H83 =>
 f38J0 cw Q a0h a0i a1 s5 H83) (
 join2 (fun J84 =>
 obI .i64 (H74.load a0h (a0i + 0)) fun x85 =>
 ifB (x85 == 4) (
 J84 (s5.data.toList == (bs [102, 97, 100, 101]).data.toList) H74) (
 J84 false H74)) fun c86 H87 =>
 ifB c86 (
 cw 59 ⟨[.string a1, I 5]⟩ H87 fun v88 H89 =>
 obL (some v88) fun b90 n90 k90 =>
 obL (H89.load a0h ((a0i + 1) + 18)) fun b91 n91 k91 =>
 obA (elemS 1 (.slice b90 n90 k90) (I 0)) fun h92 i92 =>
 obI .i64 (H89.load h92 i92) fun x93 =>
 obA (elemS 1 (.slice b90 n90 k90) (I 1)) fun h94 i94 =>
 obI .i64 (H89.load h94 i94) fun x95 =>
 obA (elemS 1 (.slice b90 n90 k90) (I 2)) fun h96 i96 =>
 obI .i64 (H89.load h96 i96) fun x97 =>
 obA (elemS 1 (.slice b90 n90 k90) (I 3)) fun h98 i98 =>
 obI .i64 (H89.load h98 i98) fun x99 =>
 obA (elemS 1 (.slice b90 n90 k90) (I 4)) fun h100 i100 =>
 obI .i64 (H89.load h100 i100) fun x101 =>
 letH (H89.new 5 [I x93, I x95, I x97, I x99, I x101]) fun H102 =>
 obG (appendV 5 40 H102 (.slice b91 n91 k91) (.slice (some ⟨H89.next, 0, none⟩) 1 1)) fun b103 n103 k103 H104 =>
 obH (H104.storeN a0h ((a0i + 1) + 18) [.slice b103 n103 k103]) fun H105 =>
 obE1 (H102.load a0h ((a0i + 1) + 18)) (.slice b91 n91 k91) (
 obE1 (H102.load h92 i92) (I x93) (
 obE1 (H102.load h94 i94) (I x95) (
 obE1 (H102.load h96 i96) (I x97) (
 obE1 (H102.load h98 i98) (I x99) (
 obE1 (H102.load h100 i100) (I x101) (
 f38J0 cw Q a0h a0i a1 s5 H105))))))) (
 join2 (fun J106 =>
 obI .i64 (H87.load a0h (a0i + 0)) fun x107 =>
 ifB (x107 == 4) (
 J106 (s5.data.toList == (bs [116, 101, 114, 109, 105, 110, 97, 108]).data.toList) H87) (
 obI .i64 (H87.load a0h (a0i + 0)) fun x108 =>
 ifB (x108 == 5) (
 J106 (s5.data.toList == (bs [116, 101, 114, 109, 105, 110, 97, 108]).data.toList) H87) (
 J106 false H87))) fun c109 H110 =>
 ifB c109 (
 cw 59 ⟨[.string a1, I 12]⟩ H110 fun v111 H112 =>
 obL (some v111) fun b113 n113 k113 =>
 obL (H112.load a0h ((a0i + 1) + 19)) fun b114 n114 k114 =>
 obA (elemS 1 (.slice b113 n113 k113) (I 0)) fun h115 i115 =>
 obI .i64 (H112.load h115 i115) fun x116 =>
 obA (elemS 1 (.slice b113 n113 k113) (I 1)) fun h117 i117 =>
 obI .i64 (H112.load h117 i117) fun x118 =>
 obA (elemS 1 (.slice b113 n113 k113) (I 2)) fun h119 i119 =>
 obI .i64 (H112.load h119 i119) fun x120 =>
 obA (elemS 1 (.slice b113 n113 k113) (I 3)) fun h121 i121 =>
 obI .i64 (H112.load h121 i121) fun x122 =>
 obA (elemS 1 (.slice b113 n113 k113) (I 4)) fun h123 i123 =>
 obI .i64 (H112.load h123 i123) fun x124 =>
 obA (elemS 1 (.slice b113 n113 k113) (I 5)) fun h125 i125 =>
 obI .i64 (H112.load h125 i125) fun x126 =>
 obA (elemS 1 (.slice b113 n113 k113) (I 6)) fun h127 i127 =>
 obI .i64 (H112.load h127 i127) fun x128 =>
 obA (elemS 1 (.slice b113 n113 k113) (I 7)) fun h129 i129 =>
 obI .i64 (H112.load h129 i129) fun x130 =>
 obA (elemS 1 (.slice b113 n113 k113) (I 8)) fun h131 i131 =>
 obI .i64 (H112.load h131 i131) fun x132 =>
 obA (elemS 1 (.slice b113 n113 k113) (I 9)) fun h133 i133 =>
 obI .i64 (H112.load h133 i133) fun x134 =>
 obA (elemS 1 (.slice b113 n113 k113) (I 10)) fun h135 i135 =>
 obI .i64 (H112.load h135 i135) fun x136 =>
 obA (elemS 1 (.slice b113 n113 k113) (I 11)) fun h137 i137 =>
 obI .i64 (H112.load h137 i137) fun x138 =>
 letH (H112.new 14 [I x116, I x118, .slice none 0 0, .slice none 0 0, I x122, I x124, I x126, I x128, I x130, I x132, I x134, I x136, I x138, I x120]) fun H139 =>
 obG (appendV 14 144 H139 (.slice b114 n114 k114) (.slice (some ⟨H112.next, 0, none⟩) 1 1)) fun b140 n140 k140 H141 =>
 obH (H141.storeN a0h ((a0i + 1) + 19) [.slice b140 n140 k140]) fun H142 =>
 obE1 (H139.load a0h ((a0i + 1) + 19)) (.slice b114 n114 k114) (
 obE1 (H139.load h115 i115) (I x116) (
 obE1 (H139.load h117 i117) (I x118) (
 obE1 (H139.load h119 i119) (I x120) (
 obE1 (H139.load h121 i121) (I x122) (
 obE1 (H139.load h123 i123) (I x124) (
 obE1 (H139.load h125 i125) (I x126) (
 obE1 (H139.load h127 i127) (I x128) (
 obE1 (H139.load h129 i129) (I x130) (
 obE1 (H139.load h131 i131) (I x132) (
 obE1 (H139.load h133 i133) (I x134) (
 obE1 (H139.load h135 i135) (I x136) (
 obE1 (H139.load h137 i137) (I x138) (
 obH (H142.storeN a0h (a0i + 0) [I 5]) fun H143 =>
 f38J0 cw Q a0h a0i a1 s5 H143)))))))))))))) (
 join2 (fun J144 =>
 obI .i64 (H110.load a0h (a0i + 0)) fun x145 =>
 ifB (x145 == 5) (
 J144 (s5.data.toList == (bs [98, 101, 97, 114, 101, 114]).data.toList) H110) (
 J144 false H110)) fun c146 H147 =>
 ifB c146 (
 cw 59 ⟨[.string a1, I 15]⟩ H147 fun v148 H149 =>
 obL (some v148) fun b150 n150 k150 =>
 obL (H149.load a0h ((a0i + 1) + 19)) fun b151 n151 k151 =>
 obL (H149.load a0h ((a0i + 1) + 19)) fun b152 n152 k152 =>
 obA (elemS 14 (.slice b151 n151 k151) (I (IntKind.wrap .i64 ((n152 : Int) - 1)))) fun h153 i153 =>
 obL (H149.load h153 (i153 + 2)) fun b154 n154 k154 =>
 obA (elemS 1 (.slice b150 n150 k150) (I 0)) fun h155 i155 =>
 obI .i64 (H149.load h155 i155) fun x156 =>
 obA (elemS 1 (.slice b150 n150 k150) (I 1)) fun h157 i157 =>
 obI .i64 (H149.load h157 i157) fun x158 =>
 obA (elemS 1 (.slice b150 n150 k150) (I 2)) fun h159 i159 =>
 obI .i64 (H149.load h159 i159) fun x160 =>
 obA (elemS 1 (.slice b150 n150 k150) (I 3)) fun h161 i161 =>
 obI .i64 (H149.load h161 i161) fun x162 =>
 obA (elemS 1 (.slice b150 n150 k150) (I 4)) fun h163 i163 =>
 obI .i64 (H149.load h163 i163) fun x164 =>
 obA (elemS 1 (.slice b150 n150 k150) (I 5)) fun h165 i165 =>
 obI .i64 (H149.load h165 i165) fun x166 =>
 obA (elemS 1 (.slice b150 n150 k150) (I 6)) fun h167 i167 =>
 obI .i64 (H149.load h167 i167) fun x168 =>
 obA (elemS 1 (.slice b150 n150 k150) (I 7)) fun h169 i169 =>
 obI .i64 (H149.load h169 i169) fun x170 =>
 obA (elemS 1 (.slice b150 n150 k150) (I 8)) fun h171 i171 =>
 obI .i64 (H149.load h171 i171) fun x172 =>
 obA (elemS 1 (.slice b150 n150 k150) (I 9)) fun h173 i173 =>
 obI .i64 (H149.load h173 i173) fun x174 =>
 obA (elemS 1 (.slice b150 n150 k150) (I 10)) fun h175 i175 =>
 obI .i64 (H149.load h175 i175) fun x176 =>
 letH (H149.new 11 [I x156, I x158, I x160, I x162, I x164, I x166, I x168, I x170, I x172, I x174, I x176]) fun H177 =>
 obG (appendV 11 88 H177 (.slice b154 n154 k154) (.slice (some ⟨H149.next, 0, none⟩) 1 1)) fun b178 n178 k178 H179 =>
 obH (H179.storeN h153 (i153 + 2) [.slice b178 n178 k178]) fun H180 =>
 obE1 (H177.load h153 (i153 + 2)) (.slice b154 n154 k154) (
 obE1 (H177.load h155 i155) (I x156) (
 obE1 (H177.load h157 i157) (I x158) (
 obE1 (H177.load h159 i159) (I x160) (
 obE1 (H177.load h161 i161) (I x162) (
 obE1 (H177.load h163 i163) (I x164) (
 obE1 (H177.load h165 i165) (I x166) (
 obE1 (H177.load h167 i167) (I x168) (
 obE1 (H177.load h169 i169) (I x170) (
 obE1 (H177.load h171 i171) (I x172) (
 obE1 (H177.load h173 i173) (I x174) (
 obE1 (H177.load h175 i175) (I x176) (
 obL (H180.load h153 (i153 + 3)) fun b181 n181 k181 =>
 obA (elemS 1 (.slice b150 n150 k150) (I 11)) fun h182 i182 =>
 obI .i64 (H180.load h182 i182) fun x183 =>
 obA (elemS 1 (.slice b150 n150 k150) (I 12)) fun h184 i184 =>
 obI .i64 (H180.load h184 i184) fun x185 =>
 obA (elemS 1 (.slice b150 n150 k150) (I 13)) fun h186 i186 =>
 obI .i64 (H180.load h186 i186) fun x187 =>
 obA (elemS 1 (.slice b150 n150 k150) (I 14)) fun h188 i188 =>
 obI .i64 (H180.load h188 i188) fun x189 =>
 letH (H180.new 4 [I x183, I x185, I x187, I x189]) fun H190 =>
 obG (appendV 4 32 H190 (.slice b181 n181 k181) (.slice (some ⟨H180.next, 0, none⟩) 1 1)) fun b191 n191 k191 H192 =>
 obH (H192.storeN h153 (i153 + 3) [.slice b191 n191 k191]) fun H193 =>
 obE1 (H190.load h153 (i153 + 3)) (.slice b181 n181 k181) (
 obE1 (H190.load h182 i182) (I x183) (
 obE1 (H190.load h184 i184) (I x185) (
 obE1 (H190.load h186 i186) (I x187) (
 obE1 (H190.load h188 i188) (I x189) (
 f38J0 cw Q a0h a0i a1 s5 H193)))))))))))))))))) (
 join2 (fun J194 =>
 obI .i64 (H147.load a0h (a0i + 0)) fun x195 =>
 ifB (decide (x195 ≥ 4)) (
 J194 (s5.data.toList == (bs [112, 97, 99, 107, 101, 116]).data.toList) H147) (
 J194 false H147)) fun c196 H197 =>
 ifB c196 (
 cw 59 ⟨[.string a1, I 4]⟩ H197 fun v198 H199 =>
 obL (some v198) fun b200 n200 k200 =>
 cw 37 ⟨[.string a1, .int .u8 32]⟩ H199 fun v201 H202 =>
 obL (some v201) fun b203 n203 k203 =>
 obL (H202.load a0h (a0i + 21)) fun b204 n204 k204 =>
 obA (elemS 1 (.slice b200 n200 k200) (I 0)) fun h205 i205 =>
 obI .i64 (H202.load h205 i205) fun x206 =>
 obA (elemS 1 (.slice b200 n200 k200) (I 1)) fun h207 i207 =>
 obI .i64 (H202.load h207 i207) fun x208 =>
 obA (elemS 1 (.slice b200 n200 k200) (I 2)) fun h209 i209 =>
 obI .i64 (H202.load h209 i209) fun x210 =>
 obA (elemS 1 (.slice b200 n200 k200) (I 3)) fun h211 i211 =>
 obI .i64 (H202.load h211 i211) fun x212 =>
 obA (elemS 1 (.slice b203 n203 k203) (I (IntKind.wrap .i64 ((n203 : Int) - 1)))) fun h213 i213 =>
 obS (H202.load h213 i213) fun s214 =>
 cw 60 ⟨[.string s214]⟩ H202 fun v215 H216 =>
 obL (some v215) fun b217 n217 k217 =>
 letH (H216.new 5 [I x206, I x208, I x210, I x212, .slice b217 n217 k217]) fun H218 =>
 obG (appendV 5 56 H218 (.slice b204 n204 k204) (.slice (some ⟨H216.next, 0, none⟩) 1 1)) fun b219 n219 k219 H220 =>
 obH (H220.storeN a0h (a0i + 21) [.slice b219 n219 k219]) fun H221 =>
 obE1 (H218.load a0h (a0i + 21)) (.slice b204 n204 k204) (
 obE1 (H202.load a0h (a0i + 21)) (.slice b204 n204 k204) (
 obE1 (H218.load h205 i205) (I x206) (
 obE1 (H202.load h205 i205) (I x206) (
 obE1 (H218.load h207 i207) (I x208) (
 obE1 (H202.load h207 i207) (I x208) (
 obE1 (H218.load h209 i209) (I x210) (
 obE1 (H202.load h209 i209) (I x210) (
 obE1 (H218.load h211 i211) (I x212) (
 obE1 (H202.load h211 i211) (I x212) (
 obE1 (H202.load h213 i213) (.string s214) (
 obH (H221.storeN a0h (a0i + 0) [I 6]) fun H222 =>
 f38J0 cw Q a0h a0i a1 s5 H222)))))))))))) (
 Q (.bool false) H197))))))))
end AM
end Go.Proofs.YtemcmblcogljkaaGreatDoor

