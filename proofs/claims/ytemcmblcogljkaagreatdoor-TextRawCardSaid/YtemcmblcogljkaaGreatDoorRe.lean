/- What functions come to. A call of a function comes to what its text says. -/
import Derived.Test.YtemcmblcogljkaaGreatDoorMb
import Derived.Test.YtemcmblcogljkaaGreatDoorRa
import Derived.Test.YtemcmblcogljkaaGreatDoorRb
import Derived.Test.YtemcmblcogljkaaGreatDoorRc
import Derived.Test.YtemcmblcogljkaaGreatDoorRd
set_option linter.all false
set_option linter.unusedSimpArgs false
set_option linter.unusedVariables false
namespace Go.Proofs.YtemcmblcogljkaaGreatDoor
namespace AM
open Go

/- (*radiolink/radiolinkref45.reader).read -/
def ks38 : Keeps := fun i => match i with
  | 2003 => some [0, 1, 5, 22]
  | 2008 => some [0, 1, 5, 94]
  | 2012 => some [0, 1, 5, 123]
  | 2016 => some [0, 1, 5, 152]
  | 2020 => some [0, 1, 5, 178]
  | 2023 => some [0, 1, 5, 217]
  | 2027 => some [0, 1, 5, 289]
  | 2032 => some [0, 1, 5, 380]
  | 2039 => some [4]
  | 3000 => some [0, 1, 5]
  | 4003 => some [22]
  | 4008 => some [94]
  | 4012 => some [123]
  | 4016 => some [152]
  | 4020 => some [178]
  | 4023 => some [217]
  | 4027 => some [289]
  | 4032 => some [380]
  | 4039 => some [4]
  | _ => none
def f38_n : Nat := 488
def f38T0 (t0h : Nat) (t0i : Nat) (t1 : ByteArray) (t5 : ByteArray) (H : AH) : St := ((((Tr.leaf.put 0 (.pointer (some ⟨t0h, t0i, none⟩))).put 1 (.string t1)).put 5 (.string t5)), H)
def f38J0 (cw : CallW) (Q : Value → AH → Prop) (t0h : Nat) (t0i : Nat) (t1 : ByteArray) (t5 : ByteArray) (H : AH) : Prop := (kSeq (execW Tryz.prog cw ks38 f38_n (cR (cR (cR (bodyOf Tryz.f38))))) (kRet Tryz.prog Tryz.f38 Q)) .normal (f38T0 t0h t0i t1 t5 H)
def f38K0 (cw : CallW) (Q : Value → AH → Prop) (t0h : Nat) (t0i : Nat) (t1 : ByteArray) (t5 : ByteArray) (H : AH) : Prop :=
  obI .i64 (H.load t0h ((t0i + 1) + 0)) fun x1 =>
  obI .i64 (H.load t0h ((t0i + 1) + 1)) fun x2 =>
  obI .i64 (H.load t0h ((t0i + 1) + 2)) fun x3 =>
  obI .i64 (H.load t0h ((t0i + 1) + 3)) fun x4 =>
  obI .i64 (H.load t0h ((t0i + 1) + 4)) fun x5 =>
  obI .i64 (H.load t0h ((t0i + 1) + 5)) fun x6 =>
  obI .i64 (H.load t0h ((t0i + 1) + 6)) fun x7 =>
  obI .i64 (H.load t0h ((t0i + 1) + 7)) fun x8 =>
  obI .i64 (H.load t0h ((t0i + 1) + 8)) fun x9 =>
  obI .i64 (H.load t0h ((t0i + 1) + 9)) fun x10 =>
  obI .i64 (H.load t0h ((t0i + 1) + 10)) fun x11 =>
  obI .i64 (H.load t0h ((t0i + 1) + 11)) fun x12 =>
  obI .i64 (H.load t0h ((t0i + 1) + 12)) fun x13 =>
  obI .i64 (H.load t0h ((t0i + 1) + 13)) fun x14 =>
  obI .i64 (H.load t0h ((t0i + 1) + 14)) fun x15 =>
  obI .i64 (H.load t0h ((t0i + 1) + 15)) fun x16 =>
  obI .i64 (H.load t0h ((t0i + 1) + 16)) fun x17 =>
  obI .i64 (H.load t0h ((t0i + 1) + 17)) fun x18 =>
  obL (H.load t0h ((t0i + 1) + 18)) fun b19 n19 k19 =>
  obL (H.load t0h ((t0i + 1) + 19)) fun b20 n20 k20 =>
  obL (H.load t0h (t0i + 21)) fun b21 n21 k21 =>
  cw 23 ⟨[.agg ⟨[.int .i64 x1, .int .i64 x2, .int .i64 x3, .int .i64 x4, .int .i64 x5, .int .i64 x6, .int .i64 x7, .int .i64 x8, .int .i64 x9, .int .i64 x10, .int .i64 x11, .int .i64 x12, .int .i64 x13, .int .i64 x14, .int .i64 x15, .int .i64 x16, .int .i64 x17, .int .i64 x18, .slice b19 n19 k19, .slice b20 n20 k20]⟩, .slice b21 n21 k21]⟩ H fun v22 H23 =>
  obL (some v22) fun b24 n24 k24 =>
  ifB (t5.data.toList == (bs [112, 97, 99, 107, 101, 116]).data.toList) (
    join2 (fun J25 =>
      obA (elemS 1 (.slice b24 n24 k24) (.int .i64 (IntKind.wrap .i64 ((n24 : Int) - 1)))) fun h26 i26 =>
      obS (H23.load h26 i26) fun s27 =>
      ifB (s27.data.toList == t1.data.toList) (
        obL (H23.load t0h (t0i + 21)) fun b28 n28 k28 =>
        obL (H23.load t0h (t0i + 21)) fun b29 n29 k29 =>
        obA (elemS 5 (.slice b28 n28 k28) (.int .i64 (IntKind.wrap .i64 ((n29 : Int) - 1)))) fun h30 i30 =>
        obL (H23.load h30 (i30 + 4)) fun b31 n31 k31 =>
        J25 (decide ((n31 : Int) > 0)) H23) (
        J25 false H23)) fun c32 H33 =>
    Q (.bool c32) H33) (
    obI .i64 (H23.load t0h (t0i + 0)) fun x34 =>
    ifB (decide (x34 < 4)) (
      obI .i64 (H23.load t0h (t0i + 0)) fun x35 =>
      obA (elemS 1 (.slice b24 n24 k24) (.int .i64 (IntKind.wrap .i64 (x35 - 1)))) fun h36 i36 =>
      obS (H23.load h36 i36) fun s37 =>
      Q (.bool (s37.data.toList == t1.data.toList)) H23) (
      obA (elemS 1 (.slice b24 n24 k24) (.int .i64 (if 3 > (IntKind.wrap .i64 ((n24 : Int) - 1)) then 3 else (IntKind.wrap .i64 ((n24 : Int) - 1))))) fun h38 i38 =>
      obS (H23.load h38 i38) fun s39 =>
      Q (.bool (s39.data.toList == t1.data.toList)) H23))
theorem f38J0_eq (cw : CallW) (Q : Value → AH → Prop) (t0h : Nat) (t0i : Nat) (t1 : ByteArray) (t5 : ByteArray) (H : AH) : f38J0 cw Q t0h t0i t1 t5 H = f38K0 cw Q t0h t0i t1 t5 H := by kernel_rfl
def f38R (cw : CallW) (a0h : Nat) (a0i : Nat) (a1 : ByteArray) (H : AH) (Q : Value → AH → Prop) : Prop :=
  cw 37 ⟨[.string a1, .int .u8 32]⟩ H fun v1 H2 =>
  obL (some v1) fun b3 n3 k3 =>
  obA (elemS 1 (.slice b3 n3 k3) (.int .i64 0)) fun h4 i4 =>
  obS (H2.load h4 i4) fun s5 =>
  join2 (fun J6 =>
    obI .i64 (H2.load a0h (a0i + 0)) fun x7 =>
    ifB (x7 == 0) (
      J6 (s5.data.toList == (bs [110, 101, 116, 119, 111, 114, 107]).data.toList) H2) (
      J6 false H2)) fun c8 H9 =>
  ifB c8 (
    cw 59 ⟨[.string a1, .int .i64 9]⟩ H9 fun v10 H11 =>
    obL (some v10) fun b12 n12 k12 =>
    obA (elemS 1 (.slice b12 n12 k12) (.int .i64 0)) fun h13 i13 =>
    obI .i64 (H11.load h13 i13) fun x14 =>
    obA (elemS 1 (.slice b12 n12 k12) (.int .i64 1)) fun h15 i15 =>
    obI .i64 (H11.load h15 i15) fun x16 =>
    obA (elemS 1 (.slice b12 n12 k12) (.int .i64 2)) fun h17 i17 =>
    obI .i64 (H11.load h17 i17) fun x18 =>
    obA (elemS 1 (.slice b12 n12 k12) (.int .i64 3)) fun h19 i19 =>
    obI .i64 (H11.load h19 i19) fun x20 =>
    obA (elemS 1 (.slice b12 n12 k12) (.int .i64 4)) fun h21 i21 =>
    obI .i64 (H11.load h21 i21) fun x22 =>
    obA (elemS 1 (.slice b12 n12 k12) (.int .i64 5)) fun h23 i23 =>
    obI .i64 (H11.load h23 i23) fun x24 =>
    obA (elemS 1 (.slice b12 n12 k12) (.int .i64 6)) fun h25 i25 =>
    obI .i64 (H11.load h25 i25) fun x26 =>
    obA (elemS 1 (.slice b12 n12 k12) (.int .i64 7)) fun h27 i27 =>
    obI .i64 (H11.load h27 i27) fun x28 =>
    obA (elemS 1 (.slice b12 n12 k12) (.int .i64 8)) fun h29 i29 =>
    obI .i64 (H11.load h29 i29) fun x30 =>
    obH (H11.storeN a0h ((a0i + 1) + 0) [.int .i64 x14]) fun H31 =>
    obH (H31.storeN a0h ((a0i + 1) + 1) [.int .i64 x16]) fun H32 =>
    obH (H32.storeN a0h ((a0i + 1) + 2) [.int .i64 x18]) fun H33 =>
    obH (H33.storeN a0h ((a0i + 1) + 3) [.int .i64 x20]) fun H34 =>
    obH (H34.storeN a0h ((a0i + 1) + 4) [.int .i64 x22]) fun H35 =>
    obH (H35.storeN a0h ((a0i + 1) + 5) [.int .i64 x24]) fun H36 =>
    obH (H36.storeN a0h ((a0i + 1) + 6) [.int .i64 x26]) fun H37 =>
    obH (H37.storeN a0h ((a0i + 1) + 7) [.int .i64 x28]) fun H38 =>
    obH (H38.storeN a0h ((a0i + 1) + 8) [.int .i64 x30]) fun H39 =>
    obH (H39.storeN a0h (a0i + 0) [.int .i64 1]) fun H40 =>
    f38J0 cw Q a0h a0i a1 s5 H40) (
    join2 (fun J41 =>
      obI .i64 (H9.load a0h (a0i + 0)) fun x42 =>
      ifB (x42 == 1) (
        J41 (s5.data.toList == (bs [112, 97, 116, 105, 101, 110, 99, 101]).data.toList) H9) (
        J41 false H9)) fun c43 H44 =>
    ifB c43 (
      cw 59 ⟨[.string a1, .int .i64 3]⟩ H44 fun v45 H46 =>
      obL (some v45) fun b47 n47 k47 =>
      obA (elemS 1 (.slice b47 n47 k47) (.int .i64 0)) fun h48 i48 =>
      obI .i64 (H46.load h48 i48) fun x49 =>
      obA (elemS 1 (.slice b47 n47 k47) (.int .i64 1)) fun h50 i50 =>
      obI .i64 (H46.load h50 i50) fun x51 =>
      obA (elemS 1 (.slice b47 n47 k47) (.int .i64 2)) fun h52 i52 =>
      obI .i64 (H46.load h52 i52) fun x53 =>
      obH (H46.storeN a0h ((a0i + 1) + 9) [.int .i64 x49, .int .i64 x51, .int .i64 x53]) fun H54 =>
      obH (H54.storeN a0h (a0i + 0) [.int .i64 2]) fun H55 =>
      f38J0 cw Q a0h a0i a1 s5 H55) (
      join2 (fun J56 =>
        obI .i64 (H44.load a0h (a0i + 0)) fun x57 =>
        ifB (x57 == 2) (
          J56 (s5.data.toList == (bs [114, 117, 108, 101]).data.toList) H44) (
          J56 false H44)) fun c58 H59 =>
      ifB c58 (
        cw 59 ⟨[.string a1, .int .i64 3]⟩ H59 fun v60 H61 =>
        obL (some v60) fun b62 n62 k62 =>
        obA (elemS 1 (.slice b62 n62 k62) (.int .i64 0)) fun h63 i63 =>
        obI .i64 (H61.load h63 i63) fun x64 =>
        obA (elemS 1 (.slice b62 n62 k62) (.int .i64 1)) fun h65 i65 =>
        obI .i64 (H61.load h65 i65) fun x66 =>
        obA (elemS 1 (.slice b62 n62 k62) (.int .i64 2)) fun h67 i67 =>
        obI .i64 (H61.load h67 i67) fun x68 =>
        obH (H61.storeN a0h ((a0i + 1) + 12) [.int .i64 x64, .int .i64 x66, .int .i64 x68]) fun H69 =>
        obH (H69.storeN a0h (a0i + 0) [.int .i64 3]) fun H70 =>
        f38J0 cw Q a0h a0i a1 s5 H70) (
        join2 (fun J71 =>
          obI .i64 (H59.load a0h (a0i + 0)) fun x72 =>
          ifB (x72 == 3) (
            J71 (s5.data.toList == (bs [111, 117, 116, 101, 114]).data.toList) H59) (
            J71 false H59)) fun c73 H74 =>
        ifB c73 (
          cw 59 ⟨[.string a1, .int .i64 2]⟩ H74 fun v75 H76 =>
          obL (some v75) fun b77 n77 k77 =>
          obA (elemS 1 (.slice b77 n77 k77) (.int .i64 0)) fun h78 i78 =>
          obI .i64 (H76.load h78 i78) fun x79 =>
          obA (elemS 1 (.slice b77 n77 k77) (.int .i64 1)) fun h80 i80 =>
          obI .i64 (H76.load h80 i80) fun x81 =>
          obH (H76.storeN a0h ((a0i + 1) + 15) [.int .i64 0, .int .i64 x79, .int .i64 x81]) fun H82 =>
          obH (H82.storeN a0h (a0i + 0) [.int .i64 4]) fun H83 =>
          f38J0 cw Q a0h a0i a1 s5 H83) (
          join2 (fun J84 =>
            obI .i64 (H74.load a0h (a0i + 0)) fun x85 =>
            ifB (x85 == 4) (
              J84 (s5.data.toList == (bs [102, 97, 100, 101]).data.toList) H74) (
              J84 false H74)) fun c86 H87 =>
          ifB c86 (
            cw 59 ⟨[.string a1, .int .i64 5]⟩ H87 fun v88 H89 =>
            obL (some v88) fun b90 n90 k90 =>
            obL (H89.load a0h ((a0i + 1) + 18)) fun b91 n91 k91 =>
            obA (elemS 1 (.slice b90 n90 k90) (.int .i64 0)) fun h92 i92 =>
            obI .i64 (H89.load h92 i92) fun x93 =>
            obA (elemS 1 (.slice b90 n90 k90) (.int .i64 1)) fun h94 i94 =>
            obI .i64 (H89.load h94 i94) fun x95 =>
            obA (elemS 1 (.slice b90 n90 k90) (.int .i64 2)) fun h96 i96 =>
            obI .i64 (H89.load h96 i96) fun x97 =>
            obA (elemS 1 (.slice b90 n90 k90) (.int .i64 3)) fun h98 i98 =>
            obI .i64 (H89.load h98 i98) fun x99 =>
            obA (elemS 1 (.slice b90 n90 k90) (.int .i64 4)) fun h100 i100 =>
            obI .i64 (H89.load h100 i100) fun x101 =>
            letH (H89.new 5 [.int .i64 x93, .int .i64 x95, .int .i64 x97, .int .i64 x99, .int .i64 x101]) fun H102 =>
            obG (appendV 5 40 H102 (.slice b91 n91 k91) (.slice (some ⟨H89.next, 0, none⟩) 1 1)) fun b103 n103 k103 H104 =>
            obH (H104.storeN a0h ((a0i + 1) + 18) [.slice b103 n103 k103]) fun H105 =>
            obE1 (H102.load a0h ((a0i + 1) + 18)) (.slice b91 n91 k91) (
            obE1 (H102.load h92 i92) (.int .i64 x93) (
            obE1 (H102.load h94 i94) (.int .i64 x95) (
            obE1 (H102.load h96 i96) (.int .i64 x97) (
            obE1 (H102.load h98 i98) (.int .i64 x99) (
            obE1 (H102.load h100 i100) (.int .i64 x101) (
            f38J0 cw Q a0h a0i a1 s5 H105))))))) (
            join2 (fun J106 =>
              obI .i64 (H87.load a0h (a0i + 0)) fun x107 =>
              ifB (x107 == 4) (
                J106 (s5.data.toList == (bs [116, 101, 114, 109, 105, 110, 97, 108]).data.toList) H87) (
                obI .i64 (H87.load a0h (a0i + 0)) fun x108 =>
                ifB (x108 == 5) (
                  J106 (s5.data.toList == (bs [116, 101, 114, 109, 105, 110, 97, 108]).data.toList) H87) (
                  J106 false H87))) fun c109 H110 =>
            ifB c109 (
              cw 59 ⟨[.string a1, .int .i64 12]⟩ H110 fun v111 H112 =>
              obL (some v111) fun b113 n113 k113 =>
              obL (H112.load a0h ((a0i + 1) + 19)) fun b114 n114 k114 =>
              obA (elemS 1 (.slice b113 n113 k113) (.int .i64 0)) fun h115 i115 =>
              obI .i64 (H112.load h115 i115) fun x116 =>
              obA (elemS 1 (.slice b113 n113 k113) (.int .i64 1)) fun h117 i117 =>
              obI .i64 (H112.load h117 i117) fun x118 =>
              obA (elemS 1 (.slice b113 n113 k113) (.int .i64 2)) fun h119 i119 =>
              obI .i64 (H112.load h119 i119) fun x120 =>
              obA (elemS 1 (.slice b113 n113 k113) (.int .i64 3)) fun h121 i121 =>
              obI .i64 (H112.load h121 i121) fun x122 =>
              obA (elemS 1 (.slice b113 n113 k113) (.int .i64 4)) fun h123 i123 =>
              obI .i64 (H112.load h123 i123) fun x124 =>
              obA (elemS 1 (.slice b113 n113 k113) (.int .i64 5)) fun h125 i125 =>
              obI .i64 (H112.load h125 i125) fun x126 =>
              obA (elemS 1 (.slice b113 n113 k113) (.int .i64 6)) fun h127 i127 =>
              obI .i64 (H112.load h127 i127) fun x128 =>
              obA (elemS 1 (.slice b113 n113 k113) (.int .i64 7)) fun h129 i129 =>
              obI .i64 (H112.load h129 i129) fun x130 =>
              obA (elemS 1 (.slice b113 n113 k113) (.int .i64 8)) fun h131 i131 =>
              obI .i64 (H112.load h131 i131) fun x132 =>
              obA (elemS 1 (.slice b113 n113 k113) (.int .i64 9)) fun h133 i133 =>
              obI .i64 (H112.load h133 i133) fun x134 =>
              obA (elemS 1 (.slice b113 n113 k113) (.int .i64 10)) fun h135 i135 =>
              obI .i64 (H112.load h135 i135) fun x136 =>
              obA (elemS 1 (.slice b113 n113 k113) (.int .i64 11)) fun h137 i137 =>
              obI .i64 (H112.load h137 i137) fun x138 =>
              letH (H112.new 14 [.int .i64 x116, .int .i64 x118, .slice none 0 0, .slice none 0 0, .int .i64 x122, .int .i64 x124, .int .i64 x126, .int .i64 x128, .int .i64 x130, .int .i64 x132, .int .i64 x134, .int .i64 x136, .int .i64 x138, .int .i64 x120]) fun H139 =>
              obG (appendV 14 144 H139 (.slice b114 n114 k114) (.slice (some ⟨H112.next, 0, none⟩) 1 1)) fun b140 n140 k140 H141 =>
              obH (H141.storeN a0h ((a0i + 1) + 19) [.slice b140 n140 k140]) fun H142 =>
              obE1 (H139.load a0h ((a0i + 1) + 19)) (.slice b114 n114 k114) (
              obE1 (H139.load h115 i115) (.int .i64 x116) (
              obE1 (H139.load h117 i117) (.int .i64 x118) (
              obE1 (H139.load h119 i119) (.int .i64 x120) (
              obE1 (H139.load h121 i121) (.int .i64 x122) (
              obE1 (H139.load h123 i123) (.int .i64 x124) (
              obE1 (H139.load h125 i125) (.int .i64 x126) (
              obE1 (H139.load h127 i127) (.int .i64 x128) (
              obE1 (H139.load h129 i129) (.int .i64 x130) (
              obE1 (H139.load h131 i131) (.int .i64 x132) (
              obE1 (H139.load h133 i133) (.int .i64 x134) (
              obE1 (H139.load h135 i135) (.int .i64 x136) (
              obE1 (H139.load h137 i137) (.int .i64 x138) (
              obH (H142.storeN a0h (a0i + 0) [.int .i64 5]) fun H143 =>
              f38J0 cw Q a0h a0i a1 s5 H143)))))))))))))) (
              join2 (fun J144 =>
                obI .i64 (H110.load a0h (a0i + 0)) fun x145 =>
                ifB (x145 == 5) (
                  J144 (s5.data.toList == (bs [98, 101, 97, 114, 101, 114]).data.toList) H110) (
                  J144 false H110)) fun c146 H147 =>
              ifB c146 (
                cw 59 ⟨[.string a1, .int .i64 15]⟩ H147 fun v148 H149 =>
                obL (some v148) fun b150 n150 k150 =>
                obL (H149.load a0h ((a0i + 1) + 19)) fun b151 n151 k151 =>
                obL (H149.load a0h ((a0i + 1) + 19)) fun b152 n152 k152 =>
                obA (elemS 14 (.slice b151 n151 k151) (.int .i64 (IntKind.wrap .i64 ((n152 : Int) - 1)))) fun h153 i153 =>
                obL (H149.load h153 (i153 + 2)) fun b154 n154 k154 =>
                obA (elemS 1 (.slice b150 n150 k150) (.int .i64 0)) fun h155 i155 =>
                obI .i64 (H149.load h155 i155) fun x156 =>
                obA (elemS 1 (.slice b150 n150 k150) (.int .i64 1)) fun h157 i157 =>
                obI .i64 (H149.load h157 i157) fun x158 =>
                obA (elemS 1 (.slice b150 n150 k150) (.int .i64 2)) fun h159 i159 =>
                obI .i64 (H149.load h159 i159) fun x160 =>
                obA (elemS 1 (.slice b150 n150 k150) (.int .i64 3)) fun h161 i161 =>
                obI .i64 (H149.load h161 i161) fun x162 =>
                obA (elemS 1 (.slice b150 n150 k150) (.int .i64 4)) fun h163 i163 =>
                obI .i64 (H149.load h163 i163) fun x164 =>
                obA (elemS 1 (.slice b150 n150 k150) (.int .i64 5)) fun h165 i165 =>
                obI .i64 (H149.load h165 i165) fun x166 =>
                obA (elemS 1 (.slice b150 n150 k150) (.int .i64 6)) fun h167 i167 =>
                obI .i64 (H149.load h167 i167) fun x168 =>
                obA (elemS 1 (.slice b150 n150 k150) (.int .i64 7)) fun h169 i169 =>
                obI .i64 (H149.load h169 i169) fun x170 =>
                obA (elemS 1 (.slice b150 n150 k150) (.int .i64 8)) fun h171 i171 =>
                obI .i64 (H149.load h171 i171) fun x172 =>
                obA (elemS 1 (.slice b150 n150 k150) (.int .i64 9)) fun h173 i173 =>
                obI .i64 (H149.load h173 i173) fun x174 =>
                obA (elemS 1 (.slice b150 n150 k150) (.int .i64 10)) fun h175 i175 =>
                obI .i64 (H149.load h175 i175) fun x176 =>
                letH (H149.new 11 [.int .i64 x156, .int .i64 x158, .int .i64 x160, .int .i64 x162, .int .i64 x164, .int .i64 x166, .int .i64 x168, .int .i64 x170, .int .i64 x172, .int .i64 x174, .int .i64 x176]) fun H177 =>
                obG (appendV 11 88 H177 (.slice b154 n154 k154) (.slice (some ⟨H149.next, 0, none⟩) 1 1)) fun b178 n178 k178 H179 =>
                obH (H179.storeN h153 (i153 + 2) [.slice b178 n178 k178]) fun H180 =>
                obE1 (H177.load h153 (i153 + 2)) (.slice b154 n154 k154) (
                obE1 (H177.load h155 i155) (.int .i64 x156) (
                obE1 (H177.load h157 i157) (.int .i64 x158) (
                obE1 (H177.load h159 i159) (.int .i64 x160) (
                obE1 (H177.load h161 i161) (.int .i64 x162) (
                obE1 (H177.load h163 i163) (.int .i64 x164) (
                obE1 (H177.load h165 i165) (.int .i64 x166) (
                obE1 (H177.load h167 i167) (.int .i64 x168) (
                obE1 (H177.load h169 i169) (.int .i64 x170) (
                obE1 (H177.load h171 i171) (.int .i64 x172) (
                obE1 (H177.load h173 i173) (.int .i64 x174) (
                obE1 (H177.load h175 i175) (.int .i64 x176) (
                obL (H180.load h153 (i153 + 3)) fun b181 n181 k181 =>
                obA (elemS 1 (.slice b150 n150 k150) (.int .i64 11)) fun h182 i182 =>
                obI .i64 (H180.load h182 i182) fun x183 =>
                obA (elemS 1 (.slice b150 n150 k150) (.int .i64 12)) fun h184 i184 =>
                obI .i64 (H180.load h184 i184) fun x185 =>
                obA (elemS 1 (.slice b150 n150 k150) (.int .i64 13)) fun h186 i186 =>
                obI .i64 (H180.load h186 i186) fun x187 =>
                obA (elemS 1 (.slice b150 n150 k150) (.int .i64 14)) fun h188 i188 =>
                obI .i64 (H180.load h188 i188) fun x189 =>
                letH (H180.new 4 [.int .i64 x183, .int .i64 x185, .int .i64 x187, .int .i64 x189]) fun H190 =>
                obG (appendV 4 32 H190 (.slice b181 n181 k181) (.slice (some ⟨H180.next, 0, none⟩) 1 1)) fun b191 n191 k191 H192 =>
                obH (H192.storeN h153 (i153 + 3) [.slice b191 n191 k191]) fun H193 =>
                obE1 (H190.load h153 (i153 + 3)) (.slice b181 n181 k181) (
                obE1 (H190.load h182 i182) (.int .i64 x183) (
                obE1 (H190.load h184 i184) (.int .i64 x185) (
                obE1 (H190.load h186 i186) (.int .i64 x187) (
                obE1 (H190.load h188 i188) (.int .i64 x189) (
                f38J0 cw Q a0h a0i a1 s5 H193)))))))))))))))))) (
                join2 (fun J194 =>
                  obI .i64 (H147.load a0h (a0i + 0)) fun x195 =>
                  ifB (decide (x195 ≥ 4)) (
                    J194 (s5.data.toList == (bs [112, 97, 99, 107, 101, 116]).data.toList) H147) (
                    J194 false H147)) fun c196 H197 =>
                ifB c196 (
                  cw 59 ⟨[.string a1, .int .i64 4]⟩ H197 fun v198 H199 =>
                  obL (some v198) fun b200 n200 k200 =>
                  cw 37 ⟨[.string a1, .int .u8 32]⟩ H199 fun v201 H202 =>
                  obL (some v201) fun b203 n203 k203 =>
                  obL (H202.load a0h (a0i + 21)) fun b204 n204 k204 =>
                  obA (elemS 1 (.slice b200 n200 k200) (.int .i64 0)) fun h205 i205 =>
                  obI .i64 (H202.load h205 i205) fun x206 =>
                  obA (elemS 1 (.slice b200 n200 k200) (.int .i64 1)) fun h207 i207 =>
                  obI .i64 (H202.load h207 i207) fun x208 =>
                  obA (elemS 1 (.slice b200 n200 k200) (.int .i64 2)) fun h209 i209 =>
                  obI .i64 (H202.load h209 i209) fun x210 =>
                  obA (elemS 1 (.slice b200 n200 k200) (.int .i64 3)) fun h211 i211 =>
                  obI .i64 (H202.load h211 i211) fun x212 =>
                  obA (elemS 1 (.slice b203 n203 k203) (.int .i64 (IntKind.wrap .i64 ((n203 : Int) - 1)))) fun h213 i213 =>
                  obS (H202.load h213 i213) fun s214 =>
                  cw 60 ⟨[.string s214]⟩ H202 fun v215 H216 =>
                  obL (some v215) fun b217 n217 k217 =>
                  letH (H216.new 5 [.int .i64 x206, .int .i64 x208, .int .i64 x210, .int .i64 x212, .slice b217 n217 k217]) fun H218 =>
                  obG (appendV 5 56 H218 (.slice b204 n204 k204) (.slice (some ⟨H216.next, 0, none⟩) 1 1)) fun b219 n219 k219 H220 =>
                  obH (H220.storeN a0h (a0i + 21) [.slice b219 n219 k219]) fun H221 =>
                  obE1 (H218.load a0h (a0i + 21)) (.slice b204 n204 k204) (
                  obE1 (H202.load a0h (a0i + 21)) (.slice b204 n204 k204) (
                  obE1 (H218.load h205 i205) (.int .i64 x206) (
                  obE1 (H202.load h205 i205) (.int .i64 x206) (
                  obE1 (H218.load h207 i207) (.int .i64 x208) (
                  obE1 (H202.load h207 i207) (.int .i64 x208) (
                  obE1 (H218.load h209 i209) (.int .i64 x210) (
                  obE1 (H202.load h209 i209) (.int .i64 x210) (
                  obE1 (H218.load h211 i211) (.int .i64 x212) (
                  obE1 (H202.load h211 i211) (.int .i64 x212) (
                  obE1 (H202.load h213 i213) (.string s214) (
                  obH (H221.storeN a0h (a0i + 0) [.int .i64 6]) fun H222 =>
                  f38J0 cw Q a0h a0i a1 s5 H222)))))))))))) (
                  Q (.bool false) H197))))))))
theorem f38R_eq (cw : CallW) (a0h : Nat) (a0i : Nat) (a1 : ByteArray) (H : AH) (Q : Value → AH → Prop) : runW Tryz.prog cw ks38 Tryz.f38 ⟨[.pointer (some ⟨a0h, a0i, none⟩), .string a1]⟩ H Q = f38R cw a0h a0i a1 H Q := by kernel_rfl

end AM
end Go.Proofs.YtemcmblcogljkaaGreatDoor

namespace Go.Proofs.YtemcmblcogljkaaGreatDoor
namespace AM
open Go

def ksAll : FuncId → Keeps := fun f => match f with
  | 3 => ks3
  | 6 => ks6
  | 7 => ks7
  | 12 => ks12
  | 16 => ks16
  | 17 => ks17
  | 18 => ks18
  | 22 => ks22
  | 23 => ks23
  | 25 => ks25
  | 27 => ks27
  | 28 => ks28
  | 29 => ks29
  | 30 => ks30
  | 31 => ks31
  | 35 => ks35
  | 36 => ks36
  | 37 => ks37
  | 38 => ks38
  | 43 => ks43
  | 44 => ks44
  | 45 => ks45
  | 46 => ks46
  | 49 => ks49
  | 50 => ks50
  | 55 => ks55
  | 57 => ks57
  | 58 => ks58
  | 59 => ks59
  | 60 => ks60
  | 62 => ks62
  | 63 => ks63
  | 64 => ks64
  | 65 => ks65
  | 66 => ks66
  | 67 => ks67
  | 68 => ks68
  | 69 => ks69
  | 74 => ks74
  | 75 => ks75
  | 76 => ks76
  | 77 => ks77
  | 78 => ks78
  | 79 => ks79
  | 80 => ks80
  | 81 => ks81
  | 90 => ks90
  | 91 => ks91
  | 93 => ks93
  | 94 => ks94
  | 95 => ks95
  | 96 => ks96
  | 97 => ks97
  | 98 => ks98
  | 99 => ks99
  | 100 => ks100
  | 108 => ks108
  | 109 => ks109
  | 110 => ks110
  | 111 => ks111
  | 112 => ks112
  | 113 => ks113
  | 123 => ks123
  | 124 => ks124
  | 130 => ks130
  | 131 => ks131
  | 132 => ks132
  | 133 => ks133
  | 134 => ks134
  | 135 => ks135
  | 136 => ks136
  | 151 => ks151
  | 153 => ks153
  | 154 => ks154
  | 155 => ks155
  | 165 => ks165
  | 166 => ks166
  | _ => fun _ => none

/-- The functions of the library that are told by contracts. -/
def primId (f : FuncId) : Bool := [32, 33, 34, 51, 56, 87, 89, 19, 7].contains f
abbrev OK (pm : Prims) : CallW := Ok Tryz.prog pm ksAll
def Only (pm : Prims) : Prop := ∀ f, primId f = false → pm f = none

section
variable {pm : Prims}
/-- radiolink/radiolinklaw45.TextRaw -/
theorem f3_ok (hp : Only pm) {a0 : ByteArray} {H : AH} {Q : Value → AH → Prop} (h : f3R (OK pm) a0 H Q) : OK pm 3 ⟨[.string a0]⟩ H Q :=
  Ok.of_run (fn := Tryz.f3) (hp 3 rfl) (by kernel_rfl) (by rw [show ksAll 3 = ks3 from rfl, f3R_eq]; exact h)
/-- radiolink/radiolinklaw45.agree -/
theorem f6_ok (hp : Only pm) {a0 : ByteArray} {H : AH} {Q : Value → AH → Prop} (h : f6R (OK pm) a0 H Q) : OK pm 6 ⟨[.string a0]⟩ H Q :=
  Ok.of_run (fn := Tryz.f6) (hp 6 rfl) (by kernel_rfl) (by rw [show ksAll 6 = ks6 from rfl, f6R_eq]; exact h)
/-- radiolink/radiolinkref45.Format -/
theorem f12_ok (hp : Only pm) {a0_0 : Int} {a0_1 : Int} {a0_2 : Int} {a0_3 : Int} {a0_4 : Int} {a0_5 : Int} {a0_6 : Int} {a0_7 : Int} {a0_8 : Int} {a0_9 : Int} {a0_10 : Int} {a0_11 : Int} {a0_12 : Int} {a0_13 : Int} {a0_14 : Int} {a0_15 : Int} {a0_16 : Int} {a0_17 : Int} {a0_18b : Option Addr} {a0_18n : Nat} {a0_18k : Nat} {a0_19b : Option Addr} {a0_19n : Nat} {a0_19k : Nat} {a1b : Option Addr} {a1n : Nat} {a1k : Nat} {H : AH} {Q : Value → AH → Prop} (h : f12R (OK pm) a0_0 a0_1 a0_2 a0_3 a0_4 a0_5 a0_6 a0_7 a0_8 a0_9 a0_10 a0_11 a0_12 a0_13 a0_14 a0_15 a0_16 a0_17 a0_18b a0_18n a0_18k a0_19b a0_19n a0_19k a1b a1n a1k H Q) : OK pm 12 ⟨[.agg ⟨[.int .i64 a0_0, .int .i64 a0_1, .int .i64 a0_2, .int .i64 a0_3, .int .i64 a0_4, .int .i64 a0_5, .int .i64 a0_6, .int .i64 a0_7, .int .i64 a0_8, .int .i64 a0_9, .int .i64 a0_10, .int .i64 a0_11, .int .i64 a0_12, .int .i64 a0_13, .int .i64 a0_14, .int .i64 a0_15, .int .i64 a0_16, .int .i64 a0_17, .slice a0_18b a0_18n a0_18k, .slice a0_19b a0_19n a0_19k]⟩, .slice a1b a1n a1k]⟩ H Q :=
  Ok.of_run (fn := Tryz.f12) (hp 12 rfl) (by kernel_rfl) (by rw [show ksAll 12 = ks12 from rfl, f12R_eq]; exact h)
/-- radiolink/text.Parse -/
theorem f16_ok (hp : Only pm) {a0 : ByteArray} {H : AH} {Q : Value → AH → Prop} (h : f16R (OK pm) a0 H Q) : OK pm 16 ⟨[.string a0]⟩ H Q :=
  Ok.of_run (fn := Tryz.f16) (hp 16 rfl) (by kernel_rfl) (by rw [show ksAll 16 = ks16 from rfl, f16R_eq]; exact h)
/-- radiolink/radiolinklaw45.same -/
theorem f17_ok (hp : Only pm) {a0_0 : Int} {a0_1 : Int} {a0_2 : Int} {a0_3 : Int} {a0_4 : Int} {a0_5 : Int} {a0_6 : Int} {a0_7 : Int} {a0_8 : Int} {a0_9 : Int} {a0_10 : Int} {a0_11 : Int} {a0_12 : Int} {a0_13 : Int} {a0_14 : Int} {a0_15 : Int} {a0_16 : Int} {a0_17 : Int} {a0_18b : Option Addr} {a0_18n : Nat} {a0_18k : Nat} {a0_19b : Option Addr} {a0_19n : Nat} {a0_19k : Nat} {a1_0 : Int} {a1_1 : Int} {a1_2 : Int} {a1_3 : Int} {a1_4 : Int} {a1_5 : Int} {a1_6 : Int} {a1_7 : Int} {a1_8 : Int} {a1_9 : Int} {a1_10 : Int} {a1_11 : Int} {a1_12 : Int} {a1_13 : Int} {a1_14 : Int} {a1_15 : Int} {a1_16 : Int} {a1_17 : Int} {a1_18b : Option Addr} {a1_18n : Nat} {a1_18k : Nat} {a1_19b : Option Addr} {a1_19n : Nat} {a1_19k : Nat} {a2b : Option Addr} {a2n : Nat} {a2k : Nat} {a3b : Option Addr} {a3n : Nat} {a3k : Nat} {H : AH} {Q : Value → AH → Prop} (h : f17R (OK pm) a0_0 a0_1 a0_2 a0_3 a0_4 a0_5 a0_6 a0_7 a0_8 a0_9 a0_10 a0_11 a0_12 a0_13 a0_14 a0_15 a0_16 a0_17 a0_18b a0_18n a0_18k a0_19b a0_19n a0_19k a1_0 a1_1 a1_2 a1_3 a1_4 a1_5 a1_6 a1_7 a1_8 a1_9 a1_10 a1_11 a1_12 a1_13 a1_14 a1_15 a1_16 a1_17 a1_18b a1_18n a1_18k a1_19b a1_19n a1_19k a2b a2n a2k a3b a3n a3k H Q) : OK pm 17 ⟨[.agg ⟨[.int .i64 a0_0, .int .i64 a0_1, .int .i64 a0_2, .int .i64 a0_3, .int .i64 a0_4, .int .i64 a0_5, .int .i64 a0_6, .int .i64 a0_7, .int .i64 a0_8, .int .i64 a0_9, .int .i64 a0_10, .int .i64 a0_11, .int .i64 a0_12, .int .i64 a0_13, .int .i64 a0_14, .int .i64 a0_15, .int .i64 a0_16, .int .i64 a0_17, .slice a0_18b a0_18n a0_18k, .slice a0_19b a0_19n a0_19k]⟩, .agg ⟨[.int .i64 a1_0, .int .i64 a1_1, .int .i64 a1_2, .int .i64 a1_3, .int .i64 a1_4, .int .i64 a1_5, .int .i64 a1_6, .int .i64 a1_7, .int .i64 a1_8, .int .i64 a1_9, .int .i64 a1_10, .int .i64 a1_11, .int .i64 a1_12, .int .i64 a1_13, .int .i64 a1_14, .int .i64 a1_15, .int .i64 a1_16, .int .i64 a1_17, .slice a1_18b a1_18n a1_18k, .slice a1_19b a1_19n a1_19k]⟩, .slice a2b a2n a2k, .slice a3b a3n a3k]⟩ H Q :=
  Ok.of_run (fn := Tryz.f17) (hp 17 rfl) (by kernel_rfl) (by rw [show ksAll 17 = ks17 from rfl, f17R_eq]; exact h)
/-- radiolink/radiolinkref45.Parse -/
theorem f18_ok (hp : Only pm) {a0 : ByteArray} {H : AH} {Q : Value → AH → Prop} (h : f18R (OK pm) a0 H Q) : OK pm 18 ⟨[.string a0]⟩ H Q :=
  Ok.of_run (fn := Tryz.f18) (hp 18 rfl) (by kernel_rfl) (by rw [show ksAll 18 = ks18 from rfl, f18R_eq]; exact h)
/-- radiolink/radiolinkref45.bad -/
theorem f22_ok (hp : Only pm) {a0_0 : Int} {a0_1 : Int} {a0_2 : Int} {a0_3 : Int} {a0_4 : Int} {a0_5 : Int} {a0_6 : Int} {a0_7 : Int} {a0_8 : Int} {a0_9 : Int} {a0_10 : Int} {a0_11 : Int} {a0_12 : Int} {a0_13 : Int} {a0_14 : Int} {a0_15 : Int} {a0_16 : Int} {a0_17 : Int} {a0_18b : Option Addr} {a0_18n : Nat} {a0_18k : Nat} {a0_19b : Option Addr} {a0_19n : Nat} {a0_19k : Nat} {a1b : Option Addr} {a1n : Nat} {a1k : Nat} {H : AH} {Q : Value → AH → Prop} (h : f22R (OK pm) a0_0 a0_1 a0_2 a0_3 a0_4 a0_5 a0_6 a0_7 a0_8 a0_9 a0_10 a0_11 a0_12 a0_13 a0_14 a0_15 a0_16 a0_17 a0_18b a0_18n a0_18k a0_19b a0_19n a0_19k a1b a1n a1k H Q) : OK pm 22 ⟨[.agg ⟨[.int .i64 a0_0, .int .i64 a0_1, .int .i64 a0_2, .int .i64 a0_3, .int .i64 a0_4, .int .i64 a0_5, .int .i64 a0_6, .int .i64 a0_7, .int .i64 a0_8, .int .i64 a0_9, .int .i64 a0_10, .int .i64 a0_11, .int .i64 a0_12, .int .i64 a0_13, .int .i64 a0_14, .int .i64 a0_15, .int .i64 a0_16, .int .i64 a0_17, .slice a0_18b a0_18n a0_18k, .slice a0_19b a0_19n a0_19k]⟩, .slice a1b a1n a1k]⟩ H Q :=
  Ok.of_run (fn := Tryz.f22) (hp 22 rfl) (by kernel_rfl) (by rw [show ksAll 22 = ks22 from rfl, f22R_eq]; exact h)
/-- radiolink/radiolinkref45.text -/
theorem f23_ok (hp : Only pm) {a0_0 : Int} {a0_1 : Int} {a0_2 : Int} {a0_3 : Int} {a0_4 : Int} {a0_5 : Int} {a0_6 : Int} {a0_7 : Int} {a0_8 : Int} {a0_9 : Int} {a0_10 : Int} {a0_11 : Int} {a0_12 : Int} {a0_13 : Int} {a0_14 : Int} {a0_15 : Int} {a0_16 : Int} {a0_17 : Int} {a0_18b : Option Addr} {a0_18n : Nat} {a0_18k : Nat} {a0_19b : Option Addr} {a0_19n : Nat} {a0_19k : Nat} {a1b : Option Addr} {a1n : Nat} {a1k : Nat} {H : AH} {Q : Value → AH → Prop} (h : f23R (OK pm) a0_0 a0_1 a0_2 a0_3 a0_4 a0_5 a0_6 a0_7 a0_8 a0_9 a0_10 a0_11 a0_12 a0_13 a0_14 a0_15 a0_16 a0_17 a0_18b a0_18n a0_18k a0_19b a0_19n a0_19k a1b a1n a1k H Q) : OK pm 23 ⟨[.agg ⟨[.int .i64 a0_0, .int .i64 a0_1, .int .i64 a0_2, .int .i64 a0_3, .int .i64 a0_4, .int .i64 a0_5, .int .i64 a0_6, .int .i64 a0_7, .int .i64 a0_8, .int .i64 a0_9, .int .i64 a0_10, .int .i64 a0_11, .int .i64 a0_12, .int .i64 a0_13, .int .i64 a0_14, .int .i64 a0_15, .int .i64 a0_16, .int .i64 a0_17, .slice a0_18b a0_18n a0_18k, .slice a0_19b a0_19n a0_19k]⟩, .slice a1b a1n a1k]⟩ H Q :=
  Ok.of_run (fn := Tryz.f23) (hp 23 rfl) (by kernel_rfl) (by rw [show ksAll 23 = ks23 from rfl, f23R_eq]; exact h)
/-- radiolink/text.check -/
theorem f25_ok (hp : Only pm) {a0_0 : Int} {a0_1 : Int} {a0_2 : Int} {a0_3 : Int} {a0_4 : Int} {a0_5 : Int} {a0_6 : Int} {a0_7 : Int} {a0_8 : Int} {a0_9 : Int} {a0_10 : Int} {a0_11 : Int} {a0_12 : Int} {a0_13 : Int} {a0_14 : Int} {a0_15 : Int} {a0_16 : Int} {a0_17 : Int} {a0_18b : Option Addr} {a0_18n : Nat} {a0_18k : Nat} {a0_19b : Option Addr} {a0_19n : Nat} {a0_19k : Nat} {a1b : Option Addr} {a1n : Nat} {a1k : Nat} {H : AH} {Q : Value → AH → Prop} (h : f25R (OK pm) a0_0 a0_1 a0_2 a0_3 a0_4 a0_5 a0_6 a0_7 a0_8 a0_9 a0_10 a0_11 a0_12 a0_13 a0_14 a0_15 a0_16 a0_17 a0_18b a0_18n a0_18k a0_19b a0_19n a0_19k a1b a1n a1k H Q) : OK pm 25 ⟨[.agg ⟨[.int .i64 a0_0, .int .i64 a0_1, .int .i64 a0_2, .int .i64 a0_3, .int .i64 a0_4, .int .i64 a0_5, .int .i64 a0_6, .int .i64 a0_7, .int .i64 a0_8, .int .i64 a0_9, .int .i64 a0_10, .int .i64 a0_11, .int .i64 a0_12, .int .i64 a0_13, .int .i64 a0_14, .int .i64 a0_15, .int .i64 a0_16, .int .i64 a0_17, .slice a0_18b a0_18n a0_18k, .slice a0_19b a0_19n a0_19k]⟩, .slice a1b a1n a1k]⟩ H Q :=
  Ok.of_run (fn := Tryz.f25) (hp 25 rfl) (by kernel_rfl) (by rw [show ksAll 25 = ks25 from rfl, f25R_eq]; exact h)
/-- (*radiolink/text.document).head -/
theorem f27_ok (hp : Only pm) {a0h : Nat} {a0i : Nat} {a1 : Int} {H : AH} {Q : Value → AH → Prop} (h : f27R (OK pm) a0h a0i a1 H Q) : OK pm 27 ⟨[.pointer (some ⟨a0h, a0i, none⟩), .int .i64 a1]⟩ H Q :=
  Ok.of_run (fn := Tryz.f27) (hp 27 rfl) (by kernel_rfl) (by rw [show ksAll 27 = ks27 from rfl, f27R_eq]; exact h)
/-- radiolink/text.fade -/
theorem f28_ok (hp : Only pm) {a0h : Nat} {a0i : Nat} {H : AH} {Q : Value → AH → Prop} (h : f28R (OK pm) a0h a0i H Q) : OK pm 28 ⟨[.pointer (some ⟨a0h, a0i, none⟩)]⟩ H Q :=
  Ok.of_run (fn := Tryz.f28) (hp 28 rfl) (by kernel_rfl) (by rw [show ksAll 28 = ks28 from rfl, f28R_eq]; exact h)
/-- radiolink/text.terminal -/
theorem f29_ok (hp : Only pm) {a0h : Nat} {a0i : Nat} {H : AH} {Q : Value → AH → Prop} (h : f29R (OK pm) a0h a0i H Q) : OK pm 29 ⟨[.pointer (some ⟨a0h, a0i, none⟩)]⟩ H Q :=
  Ok.of_run (fn := Tryz.f29) (hp 29 rfl) (by kernel_rfl) (by rw [show ksAll 29 = ks29 from rfl, f29R_eq]; exact h)
/-- radiolink/text.bearer -/
theorem f30_ok (hp : Only pm) {a0h : Nat} {a0i : Nat} {a1h : Nat} {a1i : Nat} {H : AH} {Q : Value → AH → Prop} (h : f30R (OK pm) a0h a0i a1h a1i H Q) : OK pm 30 ⟨[.pointer (some ⟨a0h, a0i, none⟩), .pointer (some ⟨a1h, a1i, none⟩)]⟩ H Q :=
  Ok.of_run (fn := Tryz.f30) (hp 30 rfl) (by kernel_rfl) (by rw [show ksAll 30 = ks30 from rfl, f30R_eq]; exact h)
/-- radiolink/text.packet -/
theorem f31_ok (hp : Only pm) {a0h : Nat} {a0i : Nat} {H : AH} {Q : Value → AH → Prop} (h : f31R (OK pm) a0h a0i H Q) : OK pm 31 ⟨[.pointer (some ⟨a0h, a0i, none⟩)]⟩ H Q :=
  Ok.of_run (fn := Tryz.f31) (hp 31 rfl) (by kernel_rfl) (by rw [show ksAll 31 = ks31 from rfl, f31R_eq]; exact h)
/-- radiolink/text.whole -/
theorem f35_ok (hp : Only pm) {a0 : ByteArray} {a1 : Int} {a2b : Option Addr} {a2n : Nat} {a2k : Nat} {H : AH} {Q : Value → AH → Prop} (h : f35R (OK pm) a0 a1 a2b a2n a2k H Q) : OK pm 35 ⟨[.string a0, .int .i64 a1, .slice a2b a2n a2k]⟩ H Q :=
  Ok.of_run (fn := Tryz.f35) (hp 35 rfl) (by kernel_rfl) (by rw [show ksAll 35 = ks35 from rfl, f35R_eq]; exact h)
/-- (*radiolink/text.document).add -/
theorem f36_ok (hp : Only pm) {a0h : Nat} {a0i : Nat} {a1 : ByteArray} {a2 : Int} {H : AH} {Q : Value → AH → Prop} (h : f36R (OK pm) a0h a0i a1 a2 H Q) : OK pm 36 ⟨[.pointer (some ⟨a0h, a0i, none⟩), .string a1, .int .i64 a2]⟩ H Q :=
  Ok.of_run (fn := Tryz.f36) (hp 36 rfl) (by kernel_rfl) (by rw [show ksAll 36 = ks36 from rfl, f36R_eq]; exact h)
/-- radiolink/radiolinkref45.cut -/
theorem f37_ok (hp : Only pm) {a0 : ByteArray} {a1 : Int} {H : AH} {Q : Value → AH → Prop} (h : f37R (OK pm) a0 a1 H Q) : OK pm 37 ⟨[.string a0, .int .u8 a1]⟩ H Q :=
  Ok.of_run (fn := Tryz.f37) (hp 37 rfl) (by kernel_rfl) (by rw [show ksAll 37 = ks37 from rfl, f37R_eq]; exact h)
/-- (*radiolink/radiolinkref45.reader).read -/
theorem f38_ok (hp : Only pm) {a0h : Nat} {a0i : Nat} {a1 : ByteArray} {H : AH} {Q : Value → AH → Prop} (h : f38R (OK pm) a0h a0i a1 H Q) : OK pm 38 ⟨[.pointer (some ⟨a0h, a0i, none⟩), .string a1]⟩ H Q :=
  Ok.of_run (fn := Tryz.f38) (hp 38 rfl) (by kernel_rfl) (by rw [show ksAll 38 = ks38 from rfl, f38R_eq]; exact h)
/-- radiolink/radiolinkref43.Check -/
theorem f43_ok (hp : Only pm) {a0_0 : Int} {a0_1 : Int} {a0_2 : Int} {a0_3 : Int} {a0_4 : Int} {a0_5 : Int} {a0_6 : Int} {a0_7 : Int} {a0_8 : Int} {a0_9 : Int} {a0_10 : Int} {a0_11 : Int} {a0_12 : Int} {a0_13 : Int} {a0_14 : Int} {a0_15 : Int} {a0_16 : Int} {a0_17 : Int} {a0_18b : Option Addr} {a0_18n : Nat} {a0_18k : Nat} {a0_19b : Option Addr} {a0_19n : Nat} {a0_19k : Nat} {H : AH} {Q : Value → AH → Prop} (h : f43R (OK pm) a0_0 a0_1 a0_2 a0_3 a0_4 a0_5 a0_6 a0_7 a0_8 a0_9 a0_10 a0_11 a0_12 a0_13 a0_14 a0_15 a0_16 a0_17 a0_18b a0_18n a0_18k a0_19b a0_19n a0_19k H Q) : OK pm 43 ⟨[.agg ⟨[.int .i64 a0_0, .int .i64 a0_1, .int .i64 a0_2, .int .i64 a0_3, .int .i64 a0_4, .int .i64 a0_5, .int .i64 a0_6, .int .i64 a0_7, .int .i64 a0_8, .int .i64 a0_9, .int .i64 a0_10, .int .i64 a0_11, .int .i64 a0_12, .int .i64 a0_13, .int .i64 a0_14, .int .i64 a0_15, .int .i64 a0_16, .int .i64 a0_17, .slice a0_18b a0_18n a0_18k, .slice a0_19b a0_19n a0_19k]⟩]⟩ H Q :=
  Ok.of_run (fn := Tryz.f43) (hp 43 rfl) (by kernel_rfl) (by rw [show ksAll 43 = ks43 from rfl, f43R_eq]; exact h)
/-- radiolink/radiolinkref45.within -/
theorem f44_ok (hp : Only pm) {a0 : Int} {H : AH} {Q : Value → AH → Prop} (h : f44R (OK pm) a0 H Q) : OK pm 44 ⟨[.int .i64 a0]⟩ H Q :=
  Ok.of_run (fn := Tryz.f44) (hp 44 rfl) (by kernel_rfl) (by rw [show ksAll 44 = ks44 from rfl, f44R_eq]; exact h)
/-- radiolink/radiolinkref45.line -/
theorem f45_ok (hp : Only pm) {a0 : ByteArray} {a1b : Option Addr} {a1n : Nat} {a1k : Nat} {H : AH} {Q : Value → AH → Prop} (h : f45R (OK pm) a0 a1b a1n a1k H Q) : OK pm 45 ⟨[.string a0, .slice a1b a1n a1k]⟩ H Q :=
  Ok.of_run (fn := Tryz.f45) (hp 45 rfl) (by kernel_rfl) (by rw [show ksAll 45 = ks45 from rfl, f45R_eq]; exact h)
/-- radiolink/radiolinkref45.Hex -/
theorem f46_ok (hp : Only pm) {a0b : Option Addr} {a0n : Nat} {a0k : Nat} {H : AH} {Q : Value → AH → Prop} (h : f46R (OK pm) a0b a0n a0k H Q) : OK pm 46 ⟨[.slice a0b a0n a0k]⟩ H Q :=
  Ok.of_run (fn := Tryz.f46) (hp 46 rfl) (by kernel_rfl) (by rw [show ksAll 46 = ks46 from rfl, f46R_eq]; exact h)
/-- radiolink/network.Check -/
theorem f49_ok (hp : Only pm) {a0_0 : Int} {a0_1 : Int} {a0_2 : Int} {a0_3 : Int} {a0_4 : Int} {a0_5 : Int} {a0_6 : Int} {a0_7 : Int} {a0_8 : Int} {a0_9 : Int} {a0_10 : Int} {a0_11 : Int} {a0_12 : Int} {a0_13 : Int} {a0_14 : Int} {a0_15 : Int} {a0_16 : Int} {a0_17 : Int} {a0_18b : Option Addr} {a0_18n : Nat} {a0_18k : Nat} {a0_19b : Option Addr} {a0_19n : Nat} {a0_19k : Nat} {H : AH} {Q : Value → AH → Prop} (h : f49R (OK pm) a0_0 a0_1 a0_2 a0_3 a0_4 a0_5 a0_6 a0_7 a0_8 a0_9 a0_10 a0_11 a0_12 a0_13 a0_14 a0_15 a0_16 a0_17 a0_18b a0_18n a0_18k a0_19b a0_19n a0_19k H Q) : OK pm 49 ⟨[.agg ⟨[.int .i64 a0_0, .int .i64 a0_1, .int .i64 a0_2, .int .i64 a0_3, .int .i64 a0_4, .int .i64 a0_5, .int .i64 a0_6, .int .i64 a0_7, .int .i64 a0_8, .int .i64 a0_9, .int .i64 a0_10, .int .i64 a0_11, .int .i64 a0_12, .int .i64 a0_13, .int .i64 a0_14, .int .i64 a0_15, .int .i64 a0_16, .int .i64 a0_17, .slice a0_18b a0_18n a0_18k, .slice a0_19b a0_19n a0_19k]⟩]⟩ H Q :=
  Ok.of_run (fn := Tryz.f49) (hp 49 rfl) (by kernel_rfl) (by rw [show ksAll 49 = ks49 from rfl, f49R_eq]; exact h)
/-- radiolink/text.words -/
theorem f50_ok (hp : Only pm) {H : AH} {Q : Value → AH → Prop} (h : f50R (OK pm) H Q) : OK pm 50 ⟨[]⟩ H Q :=
  Ok.of_run (fn := Tryz.f50) (hp 50 rfl) (by kernel_rfl) (by rw [show ksAll 50 = ks50 from rfl, f50R_eq]; exact h)
/-- radiolink/text.read -/
theorem f55_ok (hp : Only pm) {a0 : ByteArray} {a1 : Int} {a2b : Option Addr} {a2n : Nat} {a2k : Nat} {H : AH} {Q : Value → AH → Prop} (h : f55R (OK pm) a0 a1 a2b a2n a2k H Q) : OK pm 55 ⟨[.string a0, .int .i64 a1, .slice a2b a2n a2k]⟩ H Q :=
  Ok.of_run (fn := Tryz.f55) (hp 55 rfl) (by kernel_rfl) (by rw [show ksAll 55 = ks55 from rfl, f55R_eq]; exact h)
/-- (*radiolink/text.document).last -/
theorem f57_ok (hp : Only pm) {a0h : Nat} {a0i : Nat} {H : AH} {Q : Value → AH → Prop} (h : f57R (OK pm) a0h a0i H Q) : OK pm 57 ⟨[.pointer (some ⟨a0h, a0i, none⟩)]⟩ H Q :=
  Ok.of_run (fn := Tryz.f57) (hp 57 rfl) (by kernel_rfl) (by rw [show ksAll 57 = ks57 from rfl, f57R_eq]; exact h)
/-- radiolink/text.bytes -/
theorem f58_ok (hp : Only pm) {a0 : ByteArray} {H : AH} {Q : Value → AH → Prop} (h : f58R (OK pm) a0 H Q) : OK pm 58 ⟨[.string a0]⟩ H Q :=
  Ok.of_run (fn := Tryz.f58) (hp 58 rfl) (by kernel_rfl) (by rw [show ksAll 58 = ks58 from rfl, f58R_eq]; exact h)
/-- radiolink/radiolinkref45.numbers -/
theorem f59_ok (hp : Only pm) {a0 : ByteArray} {a1 : Int} {H : AH} {Q : Value → AH → Prop} (h : f59R (OK pm) a0 a1 H Q) : OK pm 59 ⟨[.string a0, .int .i64 a1]⟩ H Q :=
  Ok.of_run (fn := Tryz.f59) (hp 59 rfl) (by kernel_rfl) (by rw [show ksAll 59 = ks59 from rfl, f59R_eq]; exact h)
/-- radiolink/radiolinkref45.bytes -/
theorem f60_ok (hp : Only pm) {a0 : ByteArray} {H : AH} {Q : Value → AH → Prop} (h : f60R (OK pm) a0 H Q) : OK pm 60 ⟨[.string a0]⟩ H Q :=
  Ok.of_run (fn := Tryz.f60) (hp 60 rfl) (by kernel_rfl) (by rw [show ksAll 60 = ks60 from rfl, f60R_eq]; exact h)
/-- radiolink/radiolinkref37.New -/
theorem f62_ok (hp : Only pm) {a0 : Int} {H : AH} {Q : Value → AH → Prop} (h : f62R (OK pm) a0 H Q) : OK pm 62 ⟨[.int .i64 a0]⟩ H Q :=
  Ok.of_run (fn := Tryz.f62) (hp 62 rfl) (by kernel_rfl) (by rw [show ksAll 62 = ks62 from rfl, f62R_eq]; exact h)
/-- radiolink/radiolinkref38.Check -/
theorem f63_ok (hp : Only pm) {a0_0 : Int} {a0_1 : Int} {a0_2 : Int} {a0_3b : Option Addr} {a0_3n : Nat} {a0_3k : Nat} {H : AH} {Q : Value → AH → Prop} (h : f63R (OK pm) a0_0 a0_1 a0_2 a0_3b a0_3n a0_3k H Q) : OK pm 63 ⟨[.agg ⟨[.int .i64 a0_0, .int .i64 a0_1, .int .i64 a0_2, .slice a0_3b a0_3n a0_3k]⟩]⟩ H Q :=
  Ok.of_run (fn := Tryz.f63) (hp 63 rfl) (by kernel_rfl) (by rw [show ksAll 63 = ks63 from rfl, f63R_eq]; exact h)
/-- radiolink/radiolinkref43.access -/
theorem f64_ok (hp : Only pm) {a0_0 : Int} {a0_1 : Int} {a0_2 : Int} {a0_3 : Int} {a0_4 : Int} {a0_5 : Int} {a0_6 : Int} {a0_7 : Int} {a0_8 : Int} {a0_9 : Int} {a0_10 : Int} {a0_11 : Int} {a0_12 : Int} {a0_13 : Int} {a0_14 : Int} {a0_15 : Int} {a0_16 : Int} {a0_17 : Int} {a0_18b : Option Addr} {a0_18n : Nat} {a0_18k : Nat} {a0_19b : Option Addr} {a0_19n : Nat} {a0_19k : Nat} {H : AH} {Q : Value → AH → Prop} (h : f64R (OK pm) a0_0 a0_1 a0_2 a0_3 a0_4 a0_5 a0_6 a0_7 a0_8 a0_9 a0_10 a0_11 a0_12 a0_13 a0_14 a0_15 a0_16 a0_17 a0_18b a0_18n a0_18k a0_19b a0_19n a0_19k H Q) : OK pm 64 ⟨[.agg ⟨[.int .i64 a0_0, .int .i64 a0_1, .int .i64 a0_2, .int .i64 a0_3, .int .i64 a0_4, .int .i64 a0_5, .int .i64 a0_6, .int .i64 a0_7, .int .i64 a0_8, .int .i64 a0_9, .int .i64 a0_10, .int .i64 a0_11, .int .i64 a0_12, .int .i64 a0_13, .int .i64 a0_14, .int .i64 a0_15, .int .i64 a0_16, .int .i64 a0_17, .slice a0_18b a0_18n a0_18k, .slice a0_19b a0_19n a0_19k]⟩]⟩ H Q :=
  Ok.of_run (fn := Tryz.f64) (hp 64 rfl) (by kernel_rfl) (by rw [show ksAll 64 = ks64 from rfl, f64R_eq]; exact h)
/-- radiolink/radiolinkref42.Check -/
theorem f65_ok (hp : Only pm) {a0_0 : Int} {a0_1 : Int} {a0_2 : Int} {H : AH} {Q : Value → AH → Prop} (h : f65R (OK pm) a0_0 a0_1 a0_2 H Q) : OK pm 65 ⟨[.agg ⟨[.int .i64 a0_0, .int .i64 a0_1, .int .i64 a0_2]⟩]⟩ H Q :=
  Ok.of_run (fn := Tryz.f65) (hp 65 rfl) (by kernel_rfl) (by rw [show ksAll 65 = ks65 from rfl, f65R_eq]; exact h)
/-- radiolink/radiolinkref37.Check -/
theorem f66_ok (hp : Only pm) {a0_0 : Int} {a0_1 : Int} {a0_2 : Int} {a1_0b : Option Addr} {a1_0n : Nat} {a1_0k : Nat} {a1_1b : Option Addr} {a1_1n : Nat} {a1_1k : Nat} {H : AH} {Q : Value → AH → Prop} (h : f66R (OK pm) a0_0 a0_1 a0_2 a1_0b a1_0n a1_0k a1_1b a1_1n a1_1k H Q) : OK pm 66 ⟨[.agg ⟨[.int .i64 a0_0, .int .i64 a0_1, .int .i64 a0_2]⟩, .agg ⟨[.slice a1_0b a1_0n a1_0k, .slice a1_1b a1_1n a1_1k]⟩]⟩ H Q :=
  Ok.of_run (fn := Tryz.f66) (hp 66 rfl) (by kernel_rfl) (by rw [show ksAll 66 = ks66 from rfl, f66R_eq]; exact h)
/-- radiolink/radiolinkref31.Check -/
theorem f67_ok (hp : Only pm) {a0b : Option Addr} {a0n : Nat} {a0k : Nat} {H : AH} {Q : Value → AH → Prop} (h : f67R (OK pm) a0b a0n a0k H Q) : OK pm 67 ⟨[.slice a0b a0n a0k]⟩ H Q :=
  Ok.of_run (fn := Tryz.f67) (hp 67 rfl) (by kernel_rfl) (by rw [show ksAll 67 = ks67 from rfl, f67R_eq]; exact h)
/-- radiolink/radiolinkref43.terminal -/
theorem f68_ok (hp : Only pm) {a0_0 : Int} {a0_1 : Int} {a0_2 : Int} {a0_3 : Int} {a0_4 : Int} {a0_5 : Int} {a0_6 : Int} {a0_7 : Int} {a0_8 : Int} {a0_9 : Int} {a0_10 : Int} {a0_11 : Int} {a0_12 : Int} {a0_13 : Int} {a0_14 : Int} {a0_15 : Int} {a0_16 : Int} {a0_17 : Int} {a0_18b : Option Addr} {a0_18n : Nat} {a0_18k : Nat} {a0_19b : Option Addr} {a0_19n : Nat} {a0_19k : Nat} {a1_0 : Int} {a1_1 : Int} {a1_2b : Option Addr} {a1_2n : Nat} {a1_2k : Nat} {a1_3b : Option Addr} {a1_3n : Nat} {a1_3k : Nat} {a1_4 : Int} {a1_5 : Int} {a1_6 : Int} {a1_7 : Int} {a1_8 : Int} {a1_9 : Int} {a1_10 : Int} {a1_11 : Int} {a1_12 : Int} {a1_13 : Int} {H : AH} {Q : Value → AH → Prop} (h : f68R (OK pm) a0_0 a0_1 a0_2 a0_3 a0_4 a0_5 a0_6 a0_7 a0_8 a0_9 a0_10 a0_11 a0_12 a0_13 a0_14 a0_15 a0_16 a0_17 a0_18b a0_18n a0_18k a0_19b a0_19n a0_19k a1_0 a1_1 a1_2b a1_2n a1_2k a1_3b a1_3n a1_3k a1_4 a1_5 a1_6 a1_7 a1_8 a1_9 a1_10 a1_11 a1_12 a1_13 H Q) : OK pm 68 ⟨[.agg ⟨[.int .i64 a0_0, .int .i64 a0_1, .int .i64 a0_2, .int .i64 a0_3, .int .i64 a0_4, .int .i64 a0_5, .int .i64 a0_6, .int .i64 a0_7, .int .i64 a0_8, .int .i64 a0_9, .int .i64 a0_10, .int .i64 a0_11, .int .i64 a0_12, .int .i64 a0_13, .int .i64 a0_14, .int .i64 a0_15, .int .i64 a0_16, .int .i64 a0_17, .slice a0_18b a0_18n a0_18k, .slice a0_19b a0_19n a0_19k]⟩, .agg ⟨[.int .i64 a1_0, .int .i64 a1_1, .slice a1_2b a1_2n a1_2k, .slice a1_3b a1_3n a1_3k, .int .i64 a1_4, .int .i64 a1_5, .int .i64 a1_6, .int .i64 a1_7, .int .i64 a1_8, .int .i64 a1_9, .int .i64 a1_10, .int .i64 a1_11, .int .i64 a1_12, .int .i64 a1_13]⟩]⟩ H Q :=
  Ok.of_run (fn := Tryz.f68) (hp 68 rfl) (by kernel_rfl) (by rw [show ksAll 68 = ks68 from rfl, f68R_eq]; exact h)
/-- radiolink/radiolinkref45.Decimal -/
theorem f69_ok (hp : Only pm) {a0 : Int} {H : AH} {Q : Value → AH → Prop} (h : f69R (OK pm) a0 H Q) : OK pm 69 ⟨[.int .i64 a0]⟩ H Q :=
  Ok.of_run (fn := Tryz.f69) (hp 69 rfl) (by kernel_rfl) (by rw [show ksAll 69 = ks69 from rfl, f69R_eq]; exact h)
/-- radiolink/network.between -/
theorem f74_ok (hp : Only pm) {a0 : Int} {a1 : Int} {a2 : Int} {H : AH} {Q : Value → AH → Prop} (h : f74R (OK pm) a0 a1 a2 H Q) : OK pm 74 ⟨[.int .i64 a0, .int .i64 a1, .int .i64 a2]⟩ H Q :=
  Ok.of_run (fn := Tryz.f74) (hp 74 rfl) (by kernel_rfl) (by rw [show ksAll 74 = ks74 from rfl, f74R_eq]; exact h)
/-- radiolink/measure.New -/
theorem f75_ok (hp : Only pm) {a0 : Int} {H : AH} {Q : Value → AH → Prop} (h : f75R (OK pm) a0 H Q) : OK pm 75 ⟨[.int .i64 a0]⟩ H Q :=
  Ok.of_run (fn := Tryz.f75) (hp 75 rfl) (by kernel_rfl) (by rw [show ksAll 75 = ks75 from rfl, f75R_eq]; exact h)
/-- radiolink/access.Check -/
theorem f76_ok (hp : Only pm) {a0_0 : Int} {a0_1 : Int} {a0_2 : Int} {a0_3b : Option Addr} {a0_3n : Nat} {a0_3k : Nat} {H : AH} {Q : Value → AH → Prop} (h : f76R (OK pm) a0_0 a0_1 a0_2 a0_3b a0_3n a0_3k H Q) : OK pm 76 ⟨[.agg ⟨[.int .i64 a0_0, .int .i64 a0_1, .int .i64 a0_2, .slice a0_3b a0_3n a0_3k]⟩]⟩ H Q :=
  Ok.of_run (fn := Tryz.f76) (hp 76 rfl) (by kernel_rfl) (by rw [show ksAll 76 = ks76 from rfl, f76R_eq]; exact h)
/-- radiolink/network.entry -/
theorem f77_ok (hp : Only pm) {a0_0 : Int} {a0_1 : Int} {a0_2 : Int} {a0_3 : Int} {a0_4 : Int} {a0_5 : Int} {a0_6 : Int} {a0_7 : Int} {a0_8 : Int} {a0_9 : Int} {a0_10 : Int} {a0_11 : Int} {a0_12 : Int} {a0_13 : Int} {a0_14 : Int} {a0_15 : Int} {a0_16 : Int} {a0_17 : Int} {a0_18b : Option Addr} {a0_18n : Nat} {a0_18k : Nat} {a0_19b : Option Addr} {a0_19n : Nat} {a0_19k : Nat} {H : AH} {Q : Value → AH → Prop} (h : f77R (OK pm) a0_0 a0_1 a0_2 a0_3 a0_4 a0_5 a0_6 a0_7 a0_8 a0_9 a0_10 a0_11 a0_12 a0_13 a0_14 a0_15 a0_16 a0_17 a0_18b a0_18n a0_18k a0_19b a0_19n a0_19k H Q) : OK pm 77 ⟨[.agg ⟨[.int .i64 a0_0, .int .i64 a0_1, .int .i64 a0_2, .int .i64 a0_3, .int .i64 a0_4, .int .i64 a0_5, .int .i64 a0_6, .int .i64 a0_7, .int .i64 a0_8, .int .i64 a0_9, .int .i64 a0_10, .int .i64 a0_11, .int .i64 a0_12, .int .i64 a0_13, .int .i64 a0_14, .int .i64 a0_15, .int .i64 a0_16, .int .i64 a0_17, .slice a0_18b a0_18n a0_18k, .slice a0_19b a0_19n a0_19k]⟩]⟩ H Q :=
  Ok.of_run (fn := Tryz.f77) (hp 77 rfl) (by kernel_rfl) (by rw [show ksAll 77 = ks77 from rfl, f77R_eq]; exact h)
/-- radiolink/handover.Check -/
theorem f78_ok (hp : Only pm) {a0_0 : Int} {a0_1 : Int} {a0_2 : Int} {H : AH} {Q : Value → AH → Prop} (h : f78R (OK pm) a0_0 a0_1 a0_2 H Q) : OK pm 78 ⟨[.agg ⟨[.int .i64 a0_0, .int .i64 a0_1, .int .i64 a0_2]⟩]⟩ H Q :=
  Ok.of_run (fn := Tryz.f78) (hp 78 rfl) (by kernel_rfl) (by rw [show ksAll 78 = ks78 from rfl, f78R_eq]; exact h)
/-- radiolink/measure.Check -/
theorem f79_ok (hp : Only pm) {a0_0 : Int} {a0_1 : Int} {a0_2 : Int} {a1_0b : Option Addr} {a1_0n : Nat} {a1_0k : Nat} {a1_1b : Option Addr} {a1_1n : Nat} {a1_1k : Nat} {H : AH} {Q : Value → AH → Prop} (h : f79R (OK pm) a0_0 a0_1 a0_2 a1_0b a1_0n a1_0k a1_1b a1_1n a1_1k H Q) : OK pm 79 ⟨[.agg ⟨[.int .i64 a0_0, .int .i64 a0_1, .int .i64 a0_2]⟩, .agg ⟨[.slice a1_0b a1_0n a1_0k, .slice a1_1b a1_1n a1_1k]⟩]⟩ H Q :=
  Ok.of_run (fn := Tryz.f79) (hp 79 rfl) (by kernel_rfl) (by rw [show ksAll 79 = ks79 from rfl, f79R_eq]; exact h)
/-- radiolink/channel.Check -/
theorem f80_ok (hp : Only pm) {a0b : Option Addr} {a0n : Nat} {a0k : Nat} {H : AH} {Q : Value → AH → Prop} (h : f80R (OK pm) a0b a0n a0k H Q) : OK pm 80 ⟨[.slice a0b a0n a0k]⟩ H Q :=
  Ok.of_run (fn := Tryz.f80) (hp 80 rfl) (by kernel_rfl) (by rw [show ksAll 80 = ks80 from rfl, f80R_eq]; exact h)
/-- radiolink/network.checkTerminal -/
theorem f81_ok (hp : Only pm) {a0_0 : Int} {a0_1 : Int} {a0_2 : Int} {a0_3 : Int} {a0_4 : Int} {a0_5 : Int} {a0_6 : Int} {a0_7 : Int} {a0_8 : Int} {a0_9 : Int} {a0_10 : Int} {a0_11 : Int} {a0_12 : Int} {a0_13 : Int} {a0_14 : Int} {a0_15 : Int} {a0_16 : Int} {a0_17 : Int} {a0_18b : Option Addr} {a0_18n : Nat} {a0_18k : Nat} {a0_19b : Option Addr} {a0_19n : Nat} {a0_19k : Nat} {a1_0 : Int} {a1_1 : Int} {a1_2b : Option Addr} {a1_2n : Nat} {a1_2k : Nat} {a1_3b : Option Addr} {a1_3n : Nat} {a1_3k : Nat} {a1_4 : Int} {a1_5 : Int} {a1_6 : Int} {a1_7 : Int} {a1_8 : Int} {a1_9 : Int} {a1_10 : Int} {a1_11 : Int} {a1_12 : Int} {a1_13 : Int} {H : AH} {Q : Value → AH → Prop} (h : f81R (OK pm) a0_0 a0_1 a0_2 a0_3 a0_4 a0_5 a0_6 a0_7 a0_8 a0_9 a0_10 a0_11 a0_12 a0_13 a0_14 a0_15 a0_16 a0_17 a0_18b a0_18n a0_18k a0_19b a0_19n a0_19k a1_0 a1_1 a1_2b a1_2n a1_2k a1_3b a1_3n a1_3k a1_4 a1_5 a1_6 a1_7 a1_8 a1_9 a1_10 a1_11 a1_12 a1_13 H Q) : OK pm 81 ⟨[.agg ⟨[.int .i64 a0_0, .int .i64 a0_1, .int .i64 a0_2, .int .i64 a0_3, .int .i64 a0_4, .int .i64 a0_5, .int .i64 a0_6, .int .i64 a0_7, .int .i64 a0_8, .int .i64 a0_9, .int .i64 a0_10, .int .i64 a0_11, .int .i64 a0_12, .int .i64 a0_13, .int .i64 a0_14, .int .i64 a0_15, .int .i64 a0_16, .int .i64 a0_17, .slice a0_18b a0_18n a0_18k, .slice a0_19b a0_19n a0_19k]⟩, .agg ⟨[.int .i64 a1_0, .int .i64 a1_1, .slice a1_2b a1_2n a1_2k, .slice a1_3b a1_3n a1_3k, .int .i64 a1_4, .int .i64 a1_5, .int .i64 a1_6, .int .i64 a1_7, .int .i64 a1_8, .int .i64 a1_9, .int .i64 a1_10, .int .i64 a1_11, .int .i64 a1_12, .int .i64 a1_13]⟩]⟩ H Q :=
  Ok.of_run (fn := Tryz.f81) (hp 81 rfl) (by kernel_rfl) (by rw [show ksAll 81 = ks81 from rfl, f81R_eq]; exact h)
/-- radiolink/radiolinkref45.small -/
theorem f90_ok (hp : Only pm) {a0 : Int} {H : AH} {Q : Value → AH → Prop} (h : f90R (OK pm) a0 H Q) : OK pm 90 ⟨[.int .i64 a0]⟩ H Q :=
  Ok.of_run (fn := Tryz.f90) (hp 90 rfl) (by kernel_rfl) (by rw [show ksAll 90 = ks90 from rfl, f90R_eq]; exact h)
/-- radiolink/radiolinkref45.value -/
theorem f91_ok (hp : Only pm) {a0 : Int} {H : AH} {Q : Value → AH → Prop} (h : f91R (OK pm) a0 H Q) : OK pm 91 ⟨[.int .u8 a0]⟩ H Q :=
  Ok.of_run (fn := Tryz.f91) (hp 91 rfl) (by kernel_rfl) (by rw [show ksAll 91 = ks91 from rfl, f91R_eq]; exact h)
/-- radiolink/radiolinkref38.Preamble -/
theorem f93_ok (hp : Only pm) {a0 : Int} {a1 : Int} {a2 : Int} {H : AH} {Q : Value → AH → Prop} (h : f93R (OK pm) a0 a1 a2 H Q) : OK pm 93 ⟨[.int .i64 a0, .int .i64 a1, .int .i64 a2]⟩ H Q :=
  Ok.of_run (fn := Tryz.f93) (hp 93 rfl) (by kernel_rfl) (by rw [show ksAll 93 = ks93 from rfl, f93R_eq]; exact h)
/-- radiolink/radiolinkref38.has -/
theorem f94_ok (hp : Only pm) {a0b : Option Addr} {a0n : Nat} {a0k : Nat} {a1 : Int} {H : AH} {Q : Value → AH → Prop} (h : f94R (OK pm) a0b a0n a0k a1 H Q) : OK pm 94 ⟨[.slice a0b a0n a0k, .int .i64 a1]⟩ H Q :=
  Ok.of_run (fn := Tryz.f94) (hp 94 rfl) (by kernel_rfl) (by rw [show ksAll 94 = ks94 from rfl, f94R_eq]; exact h)
/-- radiolink/radiolinkref38.before -/
theorem f95_ok (hp : Only pm) {a0_0 : Int} {a0_1 : Int} {a0_2 : Int} {a0_3 : Int} {a1_0 : Int} {a1_1 : Int} {a1_2 : Int} {a1_3 : Int} {H : AH} {Q : Value → AH → Prop} (h : f95R (OK pm) a0_0 a0_1 a0_2 a0_3 a1_0 a1_1 a1_2 a1_3 H Q) : OK pm 95 ⟨[.agg ⟨[.int .i64 a0_0, .int .i64 a0_1, .int .i64 a0_2, .int .i64 a0_3]⟩, .agg ⟨[.int .i64 a1_0, .int .i64 a1_1, .int .i64 a1_2, .int .i64 a1_3]⟩]⟩ H Q :=
  Ok.of_run (fn := Tryz.f95) (hp 95 rfl) (by kernel_rfl) (by rw [show ksAll 95 = ks95 from rfl, f95R_eq]; exact h)
/-- radiolink/radiolinkref42.good -/
theorem f96_ok (hp : Only pm) {a0 : Int} {H : AH} {Q : Value → AH → Prop} (h : f96R (OK pm) a0 H Q) : OK pm 96 ⟨[.int .i64 a0]⟩ H Q :=
  Ok.of_run (fn := Tryz.f96) (hp 96 rfl) (by kernel_rfl) (by rw [show ksAll 96 = ks96 from rfl, f96R_eq]; exact h)
/-- radiolink/radiolinkref39.Check -/
theorem f97_ok (hp : Only pm) {a0_0 : Int} {a0_1 : Int} {a0_2 : Int} {a0_3 : Int} {a0_4 : Int} {a0_5 : Int} {a0_6 : Int} {a0_7 : Int} {a0_8 : Int} {a0_9 : Int} {a0_10 : Int} {H : AH} {Q : Value → AH → Prop} (h : f97R (OK pm) a0_0 a0_1 a0_2 a0_3 a0_4 a0_5 a0_6 a0_7 a0_8 a0_9 a0_10 H Q) : OK pm 97 ⟨[.agg ⟨[.int .i64 a0_0, .int .i64 a0_1, .int .i64 a0_2, .int .i64 a0_3, .int .i64 a0_4, .int .i64 a0_5, .int .i64 a0_6, .int .i64 a0_7, .int .i64 a0_8, .int .i64 a0_9, .int .i64 a0_10]⟩]⟩ H Q :=
  Ok.of_run (fn := Tryz.f97) (hp 97 rfl) (by kernel_rfl) (by rw [show ksAll 97 = ks97 from rfl, f97R_eq]; exact h)
/-- radiolink/radiolinkref25.Valid -/
theorem f98_ok (hp : Only pm) {a0b : Option Addr} {a0n : Nat} {a0k : Nat} {H : AH} {Q : Value → AH → Prop} (h : f98R (OK pm) a0b a0n a0k H Q) : OK pm 98 ⟨[.slice a0b a0n a0k]⟩ H Q :=
  Ok.of_run (fn := Tryz.f98) (hp 98 rfl) (by kernel_rfl) (by rw [show ksAll 98 = ks98 from rfl, f98R_eq]; exact h)
/-- radiolink/radiolinkref33.Check -/
theorem f99_ok (hp : Only pm) {a0b : Option Addr} {a0n : Nat} {a0k : Nat} {H : AH} {Q : Value → AH → Prop} (h : f99R (OK pm) a0b a0n a0k H Q) : OK pm 99 ⟨[.slice a0b a0n a0k]⟩ H Q :=
  Ok.of_run (fn := Tryz.f99) (hp 99 rfl) (by kernel_rfl) (by rw [show ksAll 99 = ks99 from rfl, f99R_eq]; exact h)
/-- radiolink/radiolinkref35.Check -/
theorem f100_ok (hp : Only pm) {a0_0 : Int} {a0_1 : Int} {a0_2 : Int} {a0_3 : Int} {a0_4 : Int} {a0_5 : Int} {H : AH} {Q : Value → AH → Prop} (h : f100R (OK pm) a0_0 a0_1 a0_2 a0_3 a0_4 a0_5 H Q) : OK pm 100 ⟨[.agg ⟨[.int .i64 a0_0, .int .i64 a0_1, .int .i64 a0_2, .int .i64 a0_3, .int .i64 a0_4, .int .i64 a0_5]⟩]⟩ H Q :=
  Ok.of_run (fn := Tryz.f100) (hp 100 rfl) (by kernel_rfl) (by rw [show ksAll 100 = ks100 from rfl, f100R_eq]; exact h)
/-- radiolink/measure.outside -/
theorem f108_ok (hp : Only pm) {a0b : Option Addr} {a0n : Nat} {a0k : Nat} {a1 : Int} {H : AH} {Q : Value → AH → Prop} (h : f108R (OK pm) a0b a0n a0k a1 H Q) : OK pm 108 ⟨[.slice a0b a0n a0k, .int .i64 a1]⟩ H Q :=
  Ok.of_run (fn := Tryz.f108) (hp 108 rfl) (by kernel_rfl) (by rw [show ksAll 108 = ks108 from rfl, f108R_eq]; exact h)
/-- radiolink/channel.between -/
theorem f109_ok (hp : Only pm) {a0 : Int} {a1 : Int} {a2 : Int} {H : AH} {Q : Value → AH → Prop} (h : f109R (OK pm) a0 a1 a2 H Q) : OK pm 109 ⟨[.int .i64 a0, .int .i64 a1, .int .i64 a2]⟩ H Q :=
  Ok.of_run (fn := Tryz.f109) (hp 109 rfl) (by kernel_rfl) (by rw [show ksAll 109 = ks109 from rfl, f109R_eq]; exact h)
/-- radiolink/bearer.Check -/
theorem f110_ok (hp : Only pm) {a0_0 : Int} {a0_1 : Int} {a0_2 : Int} {a0_3 : Int} {a0_4 : Int} {a0_5 : Int} {a0_6 : Int} {a0_7 : Int} {a0_8 : Int} {a0_9 : Int} {a0_10 : Int} {H : AH} {Q : Value → AH → Prop} (h : f110R (OK pm) a0_0 a0_1 a0_2 a0_3 a0_4 a0_5 a0_6 a0_7 a0_8 a0_9 a0_10 H Q) : OK pm 110 ⟨[.agg ⟨[.int .i64 a0_0, .int .i64 a0_1, .int .i64 a0_2, .int .i64 a0_3, .int .i64 a0_4, .int .i64 a0_5, .int .i64 a0_6, .int .i64 a0_7, .int .i64 a0_8, .int .i64 a0_9, .int .i64 a0_10]⟩]⟩ H Q :=
  Ok.of_run (fn := Tryz.f110) (hp 110 rfl) (by kernel_rfl) (by rw [show ksAll 110 = ks110 from rfl, f110R_eq]; exact h)
/-- radiolink/priority.Valid -/
theorem f111_ok (hp : Only pm) {a0b : Option Addr} {a0n : Nat} {a0k : Nat} {H : AH} {Q : Value → AH → Prop} (h : f111R (OK pm) a0b a0n a0k H Q) : OK pm 111 ⟨[.slice a0b a0n a0k]⟩ H Q :=
  Ok.of_run (fn := Tryz.f111) (hp 111 rfl) (by kernel_rfl) (by rw [show ksAll 111 = ks111 from rfl, f111R_eq]; exact h)
/-- radiolink/guarantee.Check -/
theorem f112_ok (hp : Only pm) {a0b : Option Addr} {a0n : Nat} {a0k : Nat} {H : AH} {Q : Value → AH → Prop} (h : f112R (OK pm) a0b a0n a0k H Q) : OK pm 112 ⟨[.slice a0b a0n a0k]⟩ H Q :=
  Ok.of_run (fn := Tryz.f112) (hp 112 rfl) (by kernel_rfl) (by rw [show ksAll 112 = ks112 from rfl, f112R_eq]; exact h)
/-- radiolink/sleep.Check -/
theorem f113_ok (hp : Only pm) {a0_0 : Int} {a0_1 : Int} {a0_2 : Int} {a0_3 : Int} {a0_4 : Int} {a0_5 : Int} {H : AH} {Q : Value → AH → Prop} (h : f113R (OK pm) a0_0 a0_1 a0_2 a0_3 a0_4 a0_5 H Q) : OK pm 113 ⟨[.agg ⟨[.int .i64 a0_0, .int .i64 a0_1, .int .i64 a0_2, .int .i64 a0_3, .int .i64 a0_4, .int .i64 a0_5]⟩]⟩ H Q :=
  Ok.of_run (fn := Tryz.f113) (hp 113 rfl) (by kernel_rfl) (by rw [show ksAll 113 = ks113 from rfl, f113R_eq]; exact h)
/-- radiolink/radiolinkref20.ValidLink -/
theorem f123_ok (hp : Only pm) {a0_0 : Int} {a0_1 : Int} {a0_2 : Int} {a0_3 : Int} {a0_4 : Int} {a0_5 : Int} {H : AH} {Q : Value → AH → Prop} (h : f123R (OK pm) a0_0 a0_1 a0_2 a0_3 a0_4 a0_5 H Q) : OK pm 123 ⟨[.agg ⟨[.int .i64 a0_0, .int .i64 a0_1, .int .i64 a0_2, .int .i64 a0_3, .int .i64 a0_4, .int .i64 a0_5]⟩]⟩ H Q :=
  Ok.of_run (fn := Tryz.f123) (hp 123 rfl) (by kernel_rfl) (by rw [show ksAll 123 = ks123 from rfl, f123R_eq]; exact h)
/-- radiolink/radiolinkref33.valid -/
theorem f124_ok (hp : Only pm) {a0_0 : Int} {a0_1 : Int} {a0_2 : Int} {H : AH} {Q : Value → AH → Prop} (h : f124R (OK pm) a0_0 a0_1 a0_2 H Q) : OK pm 124 ⟨[.agg ⟨[.int .i64 a0_0, .int .i64 a0_1, .int .i64 a0_2]⟩]⟩ H Q :=
  Ok.of_run (fn := Tryz.f124) (hp 124 rfl) (by kernel_rfl) (by rw [show ksAll 124 = ks124 from rfl, f124R_eq]; exact h)
/-- slices.ContainsFunc[[]int,int] -/
theorem f130_ok (hp : Only pm) {a0b : Option Addr} {a0n : Nat} {a0k : Nat} {gh : Nat} {gi : Nat} {H : AH} {Q : Value → AH → Prop} (h : f130R (OK pm) a0b a0n a0k gh gi H Q) : OK pm 130 ⟨[.slice a0b a0n a0k, .func (.func 131) ⟨[]⟩ ⟨[.pointer (some ⟨gh, gi, none⟩)]⟩]⟩ H Q :=
  Ok.of_run (fn := Tryz.f130) (hp 130 rfl) (by kernel_rfl) (by rw [show ksAll 130 = ks130 from rfl, f130R_eq]; exact h)
/-- radiolink/measure.outside$1 -/
theorem f131_ok (hp : Only pm) {a0 : Int} {g0h : Nat} {g0i : Nat} {H : AH} {Q : Value → AH → Prop} (h : f131R (OK pm) a0 g0h g0i H Q) : OK pm 131 ⟨[.int .i64 a0, .pointer (some ⟨g0h, g0i, none⟩)]⟩ H Q :=
  Ok.of_run (fn := Tryz.f131) (hp 131 rfl) (by kernel_rfl) (by rw [show ksAll 131 = ks131 from rfl, f131R_eq]; exact h)
/-- radiolink/sound.Config -/
theorem f132_ok (hp : Only pm) {a0_0 : Int} {a0_1 : Int} {a0_2 : Int} {a0_3 : Int} {a0_4 : Int} {a0_5 : Int} {a0_6 : Int} {a0_7 : Int} {a0_8 : Int} {a0_9 : Int} {a0_10 : Int} {H : AH} {Q : Value → AH → Prop} (h : f132R (OK pm) a0_0 a0_1 a0_2 a0_3 a0_4 a0_5 a0_6 a0_7 a0_8 a0_9 a0_10 H Q) : OK pm 132 ⟨[.agg ⟨[.int .i64 a0_0, .int .i64 a0_1, .int .i64 a0_2, .int .i64 a0_3, .int .i64 a0_4, .int .i64 a0_5, .int .i64 a0_6, .int .i64 a0_7, .int .i64 a0_8, .int .i64 a0_9, .int .i64 a0_10]⟩]⟩ H Q :=
  Ok.of_run (fn := Tryz.f132) (hp 132 rfl) (by kernel_rfl) (by rw [show ksAll 132 = ks132 from rfl, f132R_eq]; exact h)
/-- slices.ContainsFunc[[]radiolink/api.Bucket,radiolink/api.Bucket] -/
theorem f133_ok (hp : Only pm) {a0b : Option Addr} {a0n : Nat} {a0k : Nat} {H : AH} {Q : Value → AH → Prop} (h : f133R (OK pm) a0b a0n a0k H Q) : OK pm 133 ⟨[.slice a0b a0n a0k, .func (.func 134) ⟨[]⟩ ⟨[]⟩]⟩ H Q :=
  Ok.of_run (fn := Tryz.f133) (hp 133 rfl) (by kernel_rfl) (by rw [show ksAll 133 = ks133 from rfl, f133R_eq]; exact h)
/-- radiolink/priority.Valid$1 -/
theorem f134_ok (hp : Only pm) {a0_0 : Int} {a0_1 : Int} {a0_2 : Int} {a0_3 : Int} {H : AH} {Q : Value → AH → Prop} (h : f134R (OK pm) a0_0 a0_1 a0_2 a0_3 H Q) : OK pm 134 ⟨[.agg ⟨[.int .i64 a0_0, .int .i64 a0_1, .int .i64 a0_2, .int .i64 a0_3]⟩]⟩ H Q :=
  Ok.of_run (fn := Tryz.f134) (hp 134 rfl) (by kernel_rfl) (by rw [show ksAll 134 = ks134 from rfl, f134R_eq]; exact h)
/-- radiolink/priority.between -/
theorem f135_ok (hp : Only pm) {a0 : Int} {a1 : Int} {a2 : Int} {H : AH} {Q : Value → AH → Prop} (h : f135R (OK pm) a0 a1 a2 H Q) : OK pm 135 ⟨[.int .i64 a0, .int .i64 a1, .int .i64 a2]⟩ H Q :=
  Ok.of_run (fn := Tryz.f135) (hp 135 rfl) (by kernel_rfl) (by rw [show ksAll 135 = ks135 from rfl, f135R_eq]; exact h)
/-- radiolink/guarantee.right -/
theorem f136_ok (hp : Only pm) {a0_0 : Int} {a0_1 : Int} {a0_2 : Int} {H : AH} {Q : Value → AH → Prop} (h : f136R (OK pm) a0_0 a0_1 a0_2 H Q) : OK pm 136 ⟨[.agg ⟨[.int .i64 a0_0, .int .i64 a0_1, .int .i64 a0_2]⟩]⟩ H Q :=
  Ok.of_run (fn := Tryz.f136) (hp 136 rfl) (by kernel_rfl) (by rw [show ksAll 136 = ks136 from rfl, f136R_eq]; exact h)
/-- radiolink/radiolinkref15.Bits -/
theorem f151_ok (hp : Only pm) {a0 : Int} {H : AH} {Q : Value → AH → Prop} (h : f151R (OK pm) a0 H Q) : OK pm 151 ⟨[.int .i64 a0]⟩ H Q :=
  Ok.of_run (fn := Tryz.f151) (hp 151 rfl) (by kernel_rfl) (by rw [show ksAll 151 = ks151 from rfl, f151R_eq]; exact h)
/-- slices.IndexFunc[[]int,int] -/
theorem f153_ok (hp : Only pm) {a0b : Option Addr} {a0n : Nat} {a0k : Nat} {gh : Nat} {gi : Nat} {H : AH} {Q : Value → AH → Prop} (h : f153R (OK pm) a0b a0n a0k gh gi H Q) : OK pm 153 ⟨[.slice a0b a0n a0k, .func (.func 131) ⟨[]⟩ ⟨[.pointer (some ⟨gh, gi, none⟩)]⟩]⟩ H Q :=
  Ok.of_run (fn := Tryz.f153) (hp 153 rfl) (by kernel_rfl) (by rw [show ksAll 153 = ks153 from rfl, f153R_eq]; exact h)
/-- radiolink/sender.ValidLink -/
theorem f154_ok (hp : Only pm) {a0_0 : Int} {a0_1 : Int} {a0_2 : Int} {a0_3 : Int} {a0_4 : Int} {a0_5 : Int} {H : AH} {Q : Value → AH → Prop} (h : f154R (OK pm) a0_0 a0_1 a0_2 a0_3 a0_4 a0_5 H Q) : OK pm 154 ⟨[.agg ⟨[.int .i64 a0_0, .int .i64 a0_1, .int .i64 a0_2, .int .i64 a0_3, .int .i64 a0_4, .int .i64 a0_5]⟩]⟩ H Q :=
  Ok.of_run (fn := Tryz.f154) (hp 154 rfl) (by kernel_rfl) (by rw [show ksAll 154 = ks154 from rfl, f154R_eq]; exact h)
/-- slices.IndexFunc[[]radiolink/api.Bucket,radiolink/api.Bucket] -/
theorem f155_ok (hp : Only pm) {a0b : Option Addr} {a0n : Nat} {a0k : Nat} {H : AH} {Q : Value → AH → Prop} (h : f155R (OK pm) a0b a0n a0k H Q) : OK pm 155 ⟨[.slice a0b a0n a0k, .func (.func 134) ⟨[]⟩ ⟨[]⟩]⟩ H Q :=
  Ok.of_run (fn := Tryz.f155) (hp 155 rfl) (by kernel_rfl) (by rw [show ksAll 155 = ks155 from rfl, f155R_eq]; exact h)
/-- radiolink/sender.between -/
theorem f165_ok (hp : Only pm) {a0 : Int} {a1 : Int} {a2 : Int} {H : AH} {Q : Value → AH → Prop} (h : f165R (OK pm) a0 a1 a2 H Q) : OK pm 165 ⟨[.int .i64 a0, .int .i64 a1, .int .i64 a2]⟩ H Q :=
  Ok.of_run (fn := Tryz.f165) (hp 165 rfl) (by kernel_rfl) (by rw [show ksAll 165 = ks165 from rfl, f165R_eq]; exact h)
/-- radiolink/counter.Bits -/
theorem f166_ok (hp : Only pm) {a0 : Int} {H : AH} {Q : Value → AH → Prop} (h : f166R (OK pm) a0 H Q) : OK pm 166 ⟨[.int .i64 a0]⟩ H Q :=
  Ok.of_run (fn := Tryz.f166) (hp 166 rfl) (by kernel_rfl) (by rw [show ksAll 166 = ks166 from rfl, f166R_eq]; exact h)
end

end AM
end Go.Proofs.YtemcmblcogljkaaGreatDoor

