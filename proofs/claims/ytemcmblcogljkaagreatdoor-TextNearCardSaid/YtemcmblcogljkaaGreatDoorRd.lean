/-  -/
import Derived.Test.YtemcmblcogljkaaGreatDoorMb
set_option linter.all false
set_option linter.unusedSimpArgs false
set_option linter.unusedVariables false
set_option maxRecDepth 100000
namespace Go.Proofs.YtemcmblcogljkaaGreatDoor
namespace AM
open Go
def ks16 : Keeps := fun i => match i with
 | 6 => some [2, 6, 7, 8, 9, 21, 22, 23]
 | 3001 => some [2, 6, 7, 8, 9, 21, 22, 23]
 | _ => none
def f16_n : Nat := 73
def f16T0 (t2h : Nat) (t6b : Option Addr) (t6n t6k : Nat) (t7 : Int) (t8h : Nat) (t9 : Int) (t21b : Option Addr) (t21n t21k : Nat) (t22 t23 : Int) (H : AH) : St := (((((((((Tr.leaf.put 2 (.pointer (some ⟨t2h, 0, none⟩))).put 6 (.slice t6b t6n t6k)).put 7 (I t7)).put 8 (.pointer (some ⟨t8h, 0, none⟩))).put 9 (I t9)).put 21 (.slice t21b t21n t21k)).put 22 (I t22)).put 23 (I t23)), H)
def f16S0 (t2h : Nat) (t6b : Option Addr) (t6n t6k : Nat) (t7 : Int) (t8h : Nat) (t9 : Int) (t21b : Option Addr) (t21n t21k : Nat) (t22 t23 : Int) (H : AH) : St := (((((((((Tr.leaf.put 2 (.pointer (some ⟨t2h, 0, none⟩))).put 6 (.slice t6b t6n t6k)).put 7 (I t7)).put 8 (.pointer (some ⟨t8h, 0, none⟩))).put 9 (I t9)).put 21 (.slice t21b t21n t21k)).put 22 (I t22)).put 23 (I t23)), H)
def f16J0 (cw : CallW) (Q : Value → AH → Prop) (rec0 : St → Prop) (t2h : Nat) (t6b : Option Addr) (t6n t6k : Nat) (t7 : Int) (t8h : Nat) (t9 : Int) (t21b : Option Addr) (t21n t21k : Nat) (t22 t23 : Int) (H : AH) : Prop := (kSeq (execW Tryz.prog cw ks16 f16_n (cR (cR (cR (cL (cL (cR (cL (cR (cR (cR (cR (cR (bodyOf Tryz.f16)))))))))))))) (kLoop ks16 (cL (cL (cR (cL (cR (cR (cR (cR (cR (bodyOf Tryz.f16)))))))))) rec0 (kBlock ks16 0 (kSeq (execW Tryz.prog cw ks16 f16_n (cR (cR (cR (cR (cR (cR (bodyOf Tryz.f16)))))))) (kRet Tryz.prog Tryz.f16 Q))))) .normal (f16T0 t2h t6b t6n t6k t7 t8h t9 t21b t21n t21k t22 t23 H)
def f16W0 (cw : CallW) (Q : Value → AH → Prop) : (St → Prop) → St → Prop := fun rec0 s =>
 execW Tryz.prog cw ks16 f16_n (cL (cL (cR (cL (cR (cR (cR (cR (cR (bodyOf Tryz.f16)))))))))) (kLoop ks16 (cL (cL (cR (cL (cR (cR (cR (cR (cR (bodyOf Tryz.f16)))))))))) rec0 (kBlock ks16 0 (kSeq (execW Tryz.prog cw ks16 f16_n (cR (cR (cR (cR (cR (cR (bodyOf Tryz.f16)))))))) (kRet Tryz.prog Tryz.f16 Q)))) s
def f16L0 (cw : CallW) (Q : Value → AH → Prop) (t2h : Nat) (t6b : Option Addr) (t6n t6k : Nat) (t7 : Int) (t8h : Nat) (t9 : Int) (t21b : Option Addr) (t21n t21k : Nat) (t22 t23 : Int) (H : AH) : Prop := LoopP (f16W0 cw Q) (f16S0 t2h t6b t6n t6k t7 t8h t9 t21b t21n t21k t22 t23 H)
def f16K0 (cw : CallW) (Q : Value → AH → Prop) (rec0 : St → Prop) (t2h : Nat) (t6b : Option Addr) (t6n t6k : Nat) (t7 : Int) (t8h : Nat) (t9 : Int) (t21b : Option Addr) (t21n t21k : Nat) (t22 t23 : Int) (H : AH) : Prop :=
 rec0 (f16S0 t2h t6b t6n t6k t7 t8h t9 t21b t21n t21k t22 (IntKind.wrap .i64 (t23 + 1)) H)
theorem f16J0_eq (cw : CallW) (Q : Value → AH → Prop) (rec0 : St → Prop) (t2h : Nat) (t6b : Option Addr) (t6n t6k : Nat) (t7 : Int) (t8h : Nat) (t9 : Int) (t21b : Option Addr) (t21n t21k : Nat) (t22 t23 : Int) (H : AH) : f16J0 cw Q rec0 t2h t6b t6n t6k t7 t8h t9 t21b t21n t21k t22 t23 H = f16K0 cw Q rec0 t2h t6b t6n t6k t7 t8h t9 t21b t21n t21k t22 t23 H := by kernel_rfl
def f16B0 (cw : CallW) (Q : Value → AH → Prop) (rec0 : St → Prop) (t2h : Nat) (t6b : Option Addr) (t6n t6k : Nat) (t7 : Int) (t8h : Nat) (t9 : Int) (t21b : Option Addr) (t21n t21k : Nat) (t22 t23 : Int) (H : AH) : Prop :=
 ifB (decide (t23 < t22)) (
 obA (elemS 1 (.slice t21b t21n t21k) (I t23)) fun h1 i1 =>
 obS (H.load h1 i1) fun s2 =>
 ifB (decide (t23 ≤ 3)) (
 cw 27 ⟨[.pointer (some ⟨t8h, 0, none⟩), I t23]⟩ H fun v3 H4 =>
 obL (some v3) fun b5 n5 k5 =>
 cw 35 ⟨[.string s2, I t23, .slice b5 n5 k5]⟩ H4 fun v6 H7 =>
 obB (some v6) fun c8 =>
 ifB (!c8) (
 obH (H7.storeN t2h 0 [I 0, I 0, I 0, I 0, I 0, I 0, I 0, I 0, I 0, I 0, I 0, I 0, I 0, I 0, I 0, I 0, I 0, I 0, .slice none 0 0, .slice none 0 0]) fun H9 =>
 obI .i64 (H9.load t2h (0 + 0)) fun x10 =>
 obI .i64 (H9.load t2h (0 + 1)) fun x11 =>
 obI .i64 (H9.load t2h (0 + 2)) fun x12 =>
 obI .i64 (H9.load t2h (0 + 3)) fun x13 =>
 obI .i64 (H9.load t2h (0 + 4)) fun x14 =>
 obI .i64 (H9.load t2h (0 + 5)) fun x15 =>
 obI .i64 (H9.load t2h (0 + 6)) fun x16 =>
 obI .i64 (H9.load t2h (0 + 7)) fun x17 =>
 obI .i64 (H9.load t2h (0 + 8)) fun x18 =>
 obI .i64 (H9.load t2h (0 + 9)) fun x19 =>
 obI .i64 (H9.load t2h (0 + 10)) fun x20 =>
 obI .i64 (H9.load t2h (0 + 11)) fun x21 =>
 obI .i64 (H9.load t2h (0 + 12)) fun x22 =>
 obI .i64 (H9.load t2h (0 + 13)) fun x23 =>
 obI .i64 (H9.load t2h (0 + 14)) fun x24 =>
 obI .i64 (H9.load t2h (0 + 15)) fun x25 =>
 obI .i64 (H9.load t2h (0 + 16)) fun x26 =>
 obI .i64 (H9.load t2h (0 + 17)) fun x27 =>
 obL (H9.load t2h (0 + 18)) fun b28 n28 k28 =>
 obL (H9.load t2h (0 + 19)) fun b29 n29 k29 =>
 Q (.tuple ⟨[.agg ⟨[I x10, I x11, I x12, I x13, I x14, I x15, I x16, I x17, I x18, I x19, I x20, I x21, I x22, I x23, I x24, I x25, I x26, I x27, .slice b28 n28 k28, .slice b29 n29 k29]⟩, .slice none 0 0, I (IntKind.wrap .i64 (t23 + 1)), I 66]⟩) H9) (
 f16J0 cw Q rec0 t2h t6b t6n t6k t7 t8h t9 t21b t21n t21k t22 t23 H7)) (
 cw 36 ⟨[.pointer (some ⟨t8h, 0, none⟩), .string s2, I t9]⟩ H fun v30 H31 =>
 obI .i64 (tupV 0 v30) fun x33 =>
 obB (tupV 1 v30) fun c34 =>
 ifB (!c34) (
 obH (H31.storeN t2h 0 [I 0, I 0, I 0, I 0, I 0, I 0, I 0, I 0, I 0, I 0, I 0, I 0, I 0, I 0, I 0, I 0, I 0, I 0, .slice none 0 0, .slice none 0 0]) fun H35 =>
 obI .i64 (H35.load t2h (0 + 0)) fun x36 =>
 obI .i64 (H35.load t2h (0 + 1)) fun x37 =>
 obI .i64 (H35.load t2h (0 + 2)) fun x38 =>
 obI .i64 (H35.load t2h (0 + 3)) fun x39 =>
 obI .i64 (H35.load t2h (0 + 4)) fun x40 =>
 obI .i64 (H35.load t2h (0 + 5)) fun x41 =>
 obI .i64 (H35.load t2h (0 + 6)) fun x42 =>
 obI .i64 (H35.load t2h (0 + 7)) fun x43 =>
 obI .i64 (H35.load t2h (0 + 8)) fun x44 =>
 obI .i64 (H35.load t2h (0 + 9)) fun x45 =>
 obI .i64 (H35.load t2h (0 + 10)) fun x46 =>
 obI .i64 (H35.load t2h (0 + 11)) fun x47 =>
 obI .i64 (H35.load t2h (0 + 12)) fun x48 =>
 obI .i64 (H35.load t2h (0 + 13)) fun x49 =>
 obI .i64 (H35.load t2h (0 + 14)) fun x50 =>
 obI .i64 (H35.load t2h (0 + 15)) fun x51 =>
 obI .i64 (H35.load t2h (0 + 16)) fun x52 =>
 obI .i64 (H35.load t2h (0 + 17)) fun x53 =>
 obL (H35.load t2h (0 + 18)) fun b54 n54 k54 =>
 obL (H35.load t2h (0 + 19)) fun b55 n55 k55 =>
 Q (.tuple ⟨[.agg ⟨[I x36, I x37, I x38, I x39, I x40, I x41, I x42, I x43, I x44, I x45, I x46, I x47, I x48, I x49, I x50, I x51, I x52, I x53, .slice b54 n54 k54, .slice b55 n55 k55]⟩, .slice none 0 0, I (IntKind.wrap .i64 (t23 + 1)), I 66]⟩) H35) (
 f16J0 cw Q rec0 t2h t6b t6n t6k t7 t8h x33 t21b t21n t21k t22 t23 H31))) (
 obA (elemS 1 (.slice t6b t6n t6k) (I t7)) fun h56 i56 =>
 obS (H.load h56 i56) fun s57 =>
 ifB (!(s57.data.toList == (bs []).data.toList)) (
 obH (H.storeN t2h 0 [I 0, I 0, I 0, I 0, I 0, I 0, I 0, I 0, I 0, I 0, I 0, I 0, I 0, I 0, I 0, I 0, I 0, I 0, .slice none 0 0, .slice none 0 0]) fun H58 =>
 obI .i64 (H58.load t2h (0 + 0)) fun x59 =>
 obI .i64 (H58.load t2h (0 + 1)) fun x60 =>
 obI .i64 (H58.load t2h (0 + 2)) fun x61 =>
 obI .i64 (H58.load t2h (0 + 3)) fun x62 =>
 obI .i64 (H58.load t2h (0 + 4)) fun x63 =>
 obI .i64 (H58.load t2h (0 + 5)) fun x64 =>
 obI .i64 (H58.load t2h (0 + 6)) fun x65 =>
 obI .i64 (H58.load t2h (0 + 7)) fun x66 =>
 obI .i64 (H58.load t2h (0 + 8)) fun x67 =>
 obI .i64 (H58.load t2h (0 + 9)) fun x68 =>
 obI .i64 (H58.load t2h (0 + 10)) fun x69 =>
 obI .i64 (H58.load t2h (0 + 11)) fun x70 =>
 obI .i64 (H58.load t2h (0 + 12)) fun x71 =>
 obI .i64 (H58.load t2h (0 + 13)) fun x72 =>
 obI .i64 (H58.load t2h (0 + 14)) fun x73 =>
 obI .i64 (H58.load t2h (0 + 15)) fun x74 =>
 obI .i64 (H58.load t2h (0 + 16)) fun x75 =>
 obI .i64 (H58.load t2h (0 + 17)) fun x76 =>
 obL (H58.load t2h (0 + 18)) fun b77 n77 k77 =>
 obL (H58.load t2h (0 + 19)) fun b78 n78 k78 =>
 Q (.tuple ⟨[.agg ⟨[I x59, I x60, I x61, I x62, I x63, I x64, I x65, I x66, I x67, I x68, I x69, I x70, I x71, I x72, I x73, I x74, I x75, I x76, .slice b77 n77 k77, .slice b78 n78 k78]⟩, .slice none 0 0, I (IntKind.wrap .i64 (t7 + 1)), I 66]⟩) H58) (
 ifB (decide (t7 ≤ 3)) (
 obH (H.storeN t2h 0 [I 0, I 0, I 0, I 0, I 0, I 0, I 0, I 0, I 0, I 0, I 0, I 0, I 0, I 0, I 0, I 0, I 0, I 0, .slice none 0 0, .slice none 0 0]) fun H79 =>
 obI .i64 (H79.load t2h (0 + 0)) fun x80 =>
 obI .i64 (H79.load t2h (0 + 1)) fun x81 =>
 obI .i64 (H79.load t2h (0 + 2)) fun x82 =>
 obI .i64 (H79.load t2h (0 + 3)) fun x83 =>
 obI .i64 (H79.load t2h (0 + 4)) fun x84 =>
 obI .i64 (H79.load t2h (0 + 5)) fun x85 =>
 obI .i64 (H79.load t2h (0 + 6)) fun x86 =>
 obI .i64 (H79.load t2h (0 + 7)) fun x87 =>
 obI .i64 (H79.load t2h (0 + 8)) fun x88 =>
 obI .i64 (H79.load t2h (0 + 9)) fun x89 =>
 obI .i64 (H79.load t2h (0 + 10)) fun x90 =>
 obI .i64 (H79.load t2h (0 + 11)) fun x91 =>
 obI .i64 (H79.load t2h (0 + 12)) fun x92 =>
 obI .i64 (H79.load t2h (0 + 13)) fun x93 =>
 obI .i64 (H79.load t2h (0 + 14)) fun x94 =>
 obI .i64 (H79.load t2h (0 + 15)) fun x95 =>
 obI .i64 (H79.load t2h (0 + 16)) fun x96 =>
 obI .i64 (H79.load t2h (0 + 17)) fun x97 =>
 obL (H79.load t2h (0 + 18)) fun b98 n98 k98 =>
 obL (H79.load t2h (0 + 19)) fun b99 n99 k99 =>
 Q (.tuple ⟨[.agg ⟨[I x80, I x81, I x82, I x83, I x84, I x85, I x86, I x87, I x88, I x89, I x90, I x91, I x92, I x93, I x94, I x95, I x96, I x97, .slice b98 n98 k98, .slice b99 n99 k99]⟩, .slice none 0 0, I (if 1 > t7 then 1 else t7), I 66]⟩) H79) (
 obI .i64 (H.load t8h ((0 + 0) + 0)) fun x100 =>
 obI .i64 (H.load t8h ((0 + 0) + 1)) fun x101 =>
 obI .i64 (H.load t8h ((0 + 0) + 2)) fun x102 =>
 obI .i64 (H.load t8h ((0 + 0) + 3)) fun x103 =>
 obI .i64 (H.load t8h ((0 + 0) + 4)) fun x104 =>
 obI .i64 (H.load t8h ((0 + 0) + 5)) fun x105 =>
 obI .i64 (H.load t8h ((0 + 0) + 6)) fun x106 =>
 obI .i64 (H.load t8h ((0 + 0) + 7)) fun x107 =>
 obI .i64 (H.load t8h ((0 + 0) + 8)) fun x108 =>
 obI .i64 (H.load t8h ((0 + 0) + 9)) fun x109 =>
 obI .i64 (H.load t8h ((0 + 0) + 10)) fun x110 =>
 obI .i64 (H.load t8h ((0 + 0) + 11)) fun x111 =>
 obI .i64 (H.load t8h ((0 + 0) + 12)) fun x112 =>
 obI .i64 (H.load t8h ((0 + 0) + 13)) fun x113 =>
 obI .i64 (H.load t8h ((0 + 0) + 14)) fun x114 =>
 obI .i64 (H.load t8h ((0 + 0) + 15)) fun x115 =>
 obI .i64 (H.load t8h ((0 + 0) + 16)) fun x116 =>
 obI .i64 (H.load t8h ((0 + 0) + 17)) fun x117 =>
 obL (H.load t8h ((0 + 0) + 18)) fun b118 n118 k118 =>
 obL (H.load t8h ((0 + 0) + 19)) fun b119 n119 k119 =>
 obL (H.load t8h (0 + 20)) fun b120 n120 k120 =>
 cw 25 ⟨[.agg ⟨[I x100, I x101, I x102, I x103, I x104, I x105, I x106, I x107, I x108, I x109, I x110, I x111, I x112, I x113, I x114, I x115, I x116, I x117, .slice b118 n118 k118, .slice b119 n119 k119]⟩, .slice b120 n120 k120]⟩ H fun v121 H122 =>
 obI .i64 (some v121) fun x123 =>
 ifB (x123 != 0) (
 obH (H122.storeN t2h 0 [I 0, I 0, I 0, I 0, I 0, I 0, I 0, I 0, I 0, I 0, I 0, I 0, I 0, I 0, I 0, I 0, I 0, I 0, .slice none 0 0, .slice none 0 0]) fun H124 =>
 obI .i64 (H124.load t2h (0 + 0)) fun x125 =>
 obI .i64 (H124.load t2h (0 + 1)) fun x126 =>
 obI .i64 (H124.load t2h (0 + 2)) fun x127 =>
 obI .i64 (H124.load t2h (0 + 3)) fun x128 =>
 obI .i64 (H124.load t2h (0 + 4)) fun x129 =>
 obI .i64 (H124.load t2h (0 + 5)) fun x130 =>
 obI .i64 (H124.load t2h (0 + 6)) fun x131 =>
 obI .i64 (H124.load t2h (0 + 7)) fun x132 =>
 obI .i64 (H124.load t2h (0 + 8)) fun x133 =>
 obI .i64 (H124.load t2h (0 + 9)) fun x134 =>
 obI .i64 (H124.load t2h (0 + 10)) fun x135 =>
 obI .i64 (H124.load t2h (0 + 11)) fun x136 =>
 obI .i64 (H124.load t2h (0 + 12)) fun x137 =>
 obI .i64 (H124.load t2h (0 + 13)) fun x138 =>
 obI .i64 (H124.load t2h (0 + 14)) fun x139 =>
 obI .i64 (H124.load t2h (0 + 15)) fun x140 =>
 obI .i64 (H124.load t2h (0 + 16)) fun x141 =>
 obI .i64 (H124.load t2h (0 + 17)) fun x142 =>
 obL (H124.load t2h (0 + 18)) fun b143 n143 k143 =>
 obL (H124.load t2h (0 + 19)) fun b144 n144 k144 =>
 Q (.tuple ⟨[.agg ⟨[I x125, I x126, I x127, I x128, I x129, I x130, I x131, I x132, I x133, I x134, I x135, I x136, I x137, I x138, I x139, I x140, I x141, I x142, .slice b143 n143 k143, .slice b144 n144 k144]⟩, .slice none 0 0, I 0, I x123]⟩) H124) (
 obI .i64 (H122.load t8h ((0 + 0) + 0)) fun x145 =>
 obI .i64 (H122.load t8h ((0 + 0) + 1)) fun x146 =>
 obI .i64 (H122.load t8h ((0 + 0) + 2)) fun x147 =>
 obI .i64 (H122.load t8h ((0 + 0) + 3)) fun x148 =>
 obI .i64 (H122.load t8h ((0 + 0) + 4)) fun x149 =>
 obI .i64 (H122.load t8h ((0 + 0) + 5)) fun x150 =>
 obI .i64 (H122.load t8h ((0 + 0) + 6)) fun x151 =>
 obI .i64 (H122.load t8h ((0 + 0) + 7)) fun x152 =>
 obI .i64 (H122.load t8h ((0 + 0) + 8)) fun x153 =>
 obI .i64 (H122.load t8h ((0 + 0) + 9)) fun x154 =>
 obI .i64 (H122.load t8h ((0 + 0) + 10)) fun x155 =>
 obI .i64 (H122.load t8h ((0 + 0) + 11)) fun x156 =>
 obI .i64 (H122.load t8h ((0 + 0) + 12)) fun x157 =>
 obI .i64 (H122.load t8h ((0 + 0) + 13)) fun x158 =>
 obI .i64 (H122.load t8h ((0 + 0) + 14)) fun x159 =>
 obI .i64 (H122.load t8h ((0 + 0) + 15)) fun x160 =>
 obI .i64 (H122.load t8h ((0 + 0) + 16)) fun x161 =>
 obI .i64 (H122.load t8h ((0 + 0) + 17)) fun x162 =>
 obL (H122.load t8h ((0 + 0) + 18)) fun b163 n163 k163 =>
 obL (H122.load t8h ((0 + 0) + 19)) fun b164 n164 k164 =>
 obL (H122.load t8h (0 + 20)) fun b165 n165 k165 =>
 obH (H122.storeN t2h 0 [I x145, I x146, I x147, I x148, I x149, I x150, I x151, I x152, I x153, I x154, I x155, I x156, I x157, I x158, I x159, I x160, I x161, I x162, .slice b163 n163 k163, .slice b164 n164 k164]) fun H166 =>
 obE1 (H166.load t8h (0 + 20)) (.slice b165 n165 k165) (
 obI .i64 (H166.load t2h (0 + 0)) fun x167 =>
 obI .i64 (H166.load t2h (0 + 1)) fun x168 =>
 obI .i64 (H166.load t2h (0 + 2)) fun x169 =>
 obI .i64 (H166.load t2h (0 + 3)) fun x170 =>
 obI .i64 (H166.load t2h (0 + 4)) fun x171 =>
 obI .i64 (H166.load t2h (0 + 5)) fun x172 =>
 obI .i64 (H166.load t2h (0 + 6)) fun x173 =>
 obI .i64 (H166.load t2h (0 + 7)) fun x174 =>
 obI .i64 (H166.load t2h (0 + 8)) fun x175 =>
 obI .i64 (H166.load t2h (0 + 9)) fun x176 =>
 obI .i64 (H166.load t2h (0 + 10)) fun x177 =>
 obI .i64 (H166.load t2h (0 + 11)) fun x178 =>
 obI .i64 (H166.load t2h (0 + 12)) fun x179 =>
 obI .i64 (H166.load t2h (0 + 13)) fun x180 =>
 obI .i64 (H166.load t2h (0 + 14)) fun x181 =>
 obI .i64 (H166.load t2h (0 + 15)) fun x182 =>
 obI .i64 (H166.load t2h (0 + 16)) fun x183 =>
 obI .i64 (H166.load t2h (0 + 17)) fun x184 =>
 obL (H166.load t2h (0 + 18)) fun b185 n185 k185 =>
 obL (H166.load t2h (0 + 19)) fun b186 n186 k186 =>
 Q (.tuple ⟨[.agg ⟨[I x167, I x168, I x169, I x170, I x171, I x172, I x173, I x174, I x175, I x176, I x177, I x178, I x179, I x180, I x181, I x182, I x183, I x184, .slice b185 n185 k185, .slice b186 n186 k186]⟩, .slice b165 n165 k165, I 0, I 0]⟩) H166)))))
theorem f16L0_step {cw : CallW} {Q : Value → AH → Prop} {t2h : Nat} {t6b : Option Addr} {t6n t6k : Nat} {t7 : Int} {t8h : Nat} {t9 : Int} {t21b : Option Addr} {t21n t21k : Nat} {t22 t23 : Int} {H : AH} (h : f16B0 cw Q (LoopP (f16W0 cw Q)) t2h t6b t6n t6k t7 t8h t9 t21b t21n t21k t22 t23 H) : f16L0 cw Q t2h t6b t6n t6k t7 t8h t9 t21b t21n t21k t22 t23 H := LoopP.step (of_eq (by kernel_rfl) h)
def f16R (cw : CallW) (a0 : ByteArray) (H : AH) (Q : Value → AH → Prop) : Prop :=
 letH (H.new 0 [I 0, I 0, I 0, I 0, I 0, I 0, I 0, I 0, I 0, I 0, I 0, I 0, I 0, I 0, I 0, I 0, I 0, I 0, .slice none 0 0, .slice none 0 0]) fun H1 =>
 cw 34 ⟨[.string a0, .string (bs [10])]⟩ H1 fun v2 H3 =>
 obL (some v2) fun b4 n4 k4 =>
 letH (H3.new 0 [I 0, I 0, I 0, I 0, I 0, I 0, I 0, I 0, I 0, I 0, I 0, I 0, I 0, I 0, I 0, I 0, I 0, I 0, .slice none 0 0, .slice none 0 0, .slice none 0 0]) fun H5 =>
 obL (sliceV 1 H5 (.slice b4 n4 k4) none (some (I (IntKind.wrap .i64 ((n4 : Int) - 1))))) fun b6 n6 k6 =>
 f16L0 cw Q H.next b4 n4 k4 (IntKind.wrap .i64 ((n4 : Int) - 1)) H3.next 3 b6 n6 k6 (n6 : Int) 0 H5
def ks25 : Keeps := fun i => match i with
 | 7 => some [18, 19, 20]
 | 12 => some [18, 19, 20, 34, 35, 36]
 | 2009 => some [7, 18, 19, 20, 33]
 | 2014 => some [18, 19, 20, 34, 35, 36, 49]
 | 4009 => some [33]
 | 4014 => some [49]
 | _ => none
def f25_n : Nat := 52
def f25S1 (t18b : Option Addr) (t18n t18k : Nat) (t19 t20 : Int) (t34b : Option Addr) (t34n t34k : Nat) (t35 t36 : Int) (H : AH) : St := (((((((Tr.leaf.put 18 (.slice t18b t18n t18k)).put 19 (I t19)).put 20 (I t20)).put 34 (.slice t34b t34n t34k)).put 35 (I t35)).put 36 (I t36)), H)
def f25S0 (t18b : Option Addr) (t18n t18k : Nat) (t19 t20 : Int) (H : AH) : St := ((((Tr.leaf.put 18 (.slice t18b t18n t18k)).put 19 (I t19)).put 20 (I t20)), H)
def f25W1 (cw : CallW) (Q : Value → AH → Prop) (rec0 : St → Prop) : (St → Prop) → St → Prop := fun rec1 s =>
 execW Tryz.prog cw ks25 f25_n (cL (cL (cR (cR (cR (cL (cL (cR (cR (cL (cL (cR (cL (cR (cR (cR (bodyOf Tryz.f25))))))))))))))))) (kLoop ks25 (cL (cL (cR (cR (cR (cL (cL (cR (cR (cL (cL (cR (cL (cR (cR (cR (bodyOf Tryz.f25))))))))))))))))) rec1 (kBlock ks25 2 (kBlock ks25 1 (kSeq (execW Tryz.prog cw ks25 f25_n (cR (cR (cR (cL (cL (cR (cL (cR (cR (cR (bodyOf Tryz.f25)))))))))))) (kLoop ks25 (cL (cL (cR (cL (cR (cR (cR (bodyOf Tryz.f25)))))))) rec0 (kBlock ks25 0 (kSeq (execW Tryz.prog cw ks25 f25_n (cR (cR (cR (cR (bodyOf Tryz.f25)))))) (kRet Tryz.prog Tryz.f25 Q)))))))) s
def f25L1 (cw : CallW) (Q : Value → AH → Prop) (rec0 : St → Prop) (t18b : Option Addr) (t18n t18k : Nat) (t19 t20 : Int) (t34b : Option Addr) (t34n t34k : Nat) (t35 t36 : Int) (H : AH) : Prop := LoopP (f25W1 cw Q rec0) (f25S1 t18b t18n t18k t19 t20 t34b t34n t34k t35 t36 H)
def f25W0 (cw : CallW) (Q : Value → AH → Prop) : (St → Prop) → St → Prop := fun rec0 s =>
 execW Tryz.prog cw ks25 f25_n (cL (cL (cR (cL (cR (cR (cR (bodyOf Tryz.f25)))))))) (kLoop ks25 (cL (cL (cR (cL (cR (cR (cR (bodyOf Tryz.f25)))))))) rec0 (kBlock ks25 0 (kSeq (execW Tryz.prog cw ks25 f25_n (cR (cR (cR (cR (bodyOf Tryz.f25)))))) (kRet Tryz.prog Tryz.f25 Q)))) s
def f25L0 (cw : CallW) (Q : Value → AH → Prop) (t18b : Option Addr) (t18n t18k : Nat) (t19 t20 : Int) (H : AH) : Prop := LoopP (f25W0 cw Q) (f25S0 t18b t18n t18k t19 t20 H)
def f25B1 (cw : CallW) (Q : Value → AH → Prop) (rec0 rec1 : St → Prop) (t18b : Option Addr) (t18n t18k : Nat) (t19 t20 : Int) (t34b : Option Addr) (t34n t34k : Nat) (t35 t36 : Int) (H : AH) : Prop :=
 ifB (decide (t36 < t35)) (
 obA (elemS 1 (.slice t34b t34n t34k) (I t36)) fun h1 i1 =>
 obA (H.load h1 i1) fun h2 i2 =>
 join2 (fun J3 =>
 obI .i64 (H.load h2 i2) fun x4 =>
 ifB (decide (x4 < (-1048576))) (
 J3 true H) (
 obI .i64 (H.load h2 i2) fun x5 =>
 J3 (decide (x5 > 1048576)) H)) fun c6 H7 =>
 ifB c6 (
 Q (I 3) H7) (
 rec1 (f25S1 t18b t18n t18k t19 t20 t34b t34n t34k t35 (IntKind.wrap .i64 (t36 + 1)) H7))) (
 rec0 (f25S0 t18b t18n t18k t19 (IntKind.wrap .i64 (t20 + 1)) H))
theorem f25L1_step {cw : CallW} {Q : Value → AH → Prop} {rec0 : St → Prop} {t18b : Option Addr} {t18n t18k : Nat} {t19 t20 : Int} {t34b : Option Addr} {t34n t34k : Nat} {t35 t36 : Int} {H : AH} (h : f25B1 cw Q rec0 (LoopP (f25W1 cw Q rec0)) t18b t18n t18k t19 t20 t34b t34n t34k t35 t36 H) : f25L1 cw Q rec0 t18b t18n t18k t19 t20 t34b t34n t34k t35 t36 H := LoopP.step (of_eq (by kernel_rfl) h)
def f25B0 (cw : CallW) (Q : Value → AH → Prop) (rec0 : St → Prop) (t18b : Option Addr) (t18n t18k : Nat) (t19 t20 : Int) (H : AH) : Prop :=
 ifB (decide (t20 < t19)) (
 obA (elemS 5 (.slice t18b t18n t18k) (I t20)) fun h1 i1 =>
 obI .i64 (H.load h1 (i1 + 0)) fun x2 =>
 obI .i64 (H.load h1 (i1 + 1)) fun x3 =>
 obI .i64 (H.load h1 (i1 + 2)) fun x4 =>
 obI .i64 (H.load h1 (i1 + 3)) fun x5 =>
 obL (H.load h1 (i1 + 4)) fun b6 n6 k6 =>
 letH (H.new 0 [I 0, I 0, I 0, I 0, .slice none 0 0]) fun H7 =>
 obH (H7.storeN H.next 0 [I x2, I x3, I x4, I x5, .slice b6 n6 k6]) fun H8 =>
 join2 (fun J9 =>
 obL (H8.load H.next (0 + 4)) fun b10 n10 k10 =>
 ifB (decide ((n10 : Int) < 1)) (
 J9 true H8) (
 obL (H8.load H.next (0 + 4)) fun b11 n11 k11 =>
 J9 (decide ((n11 : Int) > 1500)) H8)) fun c12 H13 =>
 ifB c12 (
 Q (I 2) H13) (
 cw 31 ⟨[.pointer (some ⟨H.next, 0, none⟩)]⟩ H13 fun v14 H15 =>
 obL (some v14) fun b16 n16 k16 =>
 f25L1 cw Q rec0 t18b t18n t18k t19 t20 b16 n16 k16 (n16 : Int) 0 H15)) (
 Q (I 0) H)
theorem f25L0_step {cw : CallW} {Q : Value → AH → Prop} {t18b : Option Addr} {t18n t18k : Nat} {t19 t20 : Int} {H : AH} (h : f25B0 cw Q (LoopP (f25W0 cw Q)) t18b t18n t18k t19 t20 H) : f25L0 cw Q t18b t18n t18k t19 t20 H := LoopP.step (of_eq (by kernel_rfl) h)
def f25R (cw : CallW) (a0_0 a0_1 a0_2 a0_3 a0_4 a0_5 a0_6 a0_7 a0_8 a0_9 a0_10 a0_11 a0_12 a0_13 a0_14 a0_15 a0_16 a0_17 : Int) (a0_18b : Option Addr) (a0_18n a0_18k : Nat) (a0_19b : Option Addr) (a0_19n a0_19k : Nat) (a1b : Option Addr) (a1n a1k : Nat) (H : AH) (Q : Value → AH → Prop) : Prop :=
 letH (H.new 0 [I a0_0, I a0_1, I a0_2, I a0_3, I a0_4, I a0_5, I a0_6, I a0_7, I a0_8, I a0_9, I a0_10, I a0_11, I a0_12, I a0_13, I a0_14, I a0_15, I a0_16, I a0_17, .slice a0_18b a0_18n a0_18k, .slice a0_19b a0_19n a0_19k]) fun H1 =>
 obI .i64 (H1.load H.next (0 + 0)) fun x2 =>
 obI .i64 (H1.load H.next (0 + 1)) fun x3 =>
 obI .i64 (H1.load H.next (0 + 2)) fun x4 =>
 obI .i64 (H1.load H.next (0 + 3)) fun x5 =>
 obI .i64 (H1.load H.next (0 + 4)) fun x6 =>
 obI .i64 (H1.load H.next (0 + 5)) fun x7 =>
 obI .i64 (H1.load H.next (0 + 6)) fun x8 =>
 obI .i64 (H1.load H.next (0 + 7)) fun x9 =>
 obI .i64 (H1.load H.next (0 + 8)) fun x10 =>
 obI .i64 (H1.load H.next (0 + 9)) fun x11 =>
 obI .i64 (H1.load H.next (0 + 10)) fun x12 =>
 obI .i64 (H1.load H.next (0 + 11)) fun x13 =>
 obI .i64 (H1.load H.next (0 + 12)) fun x14 =>
 obI .i64 (H1.load H.next (0 + 13)) fun x15 =>
 obI .i64 (H1.load H.next (0 + 14)) fun x16 =>
 obI .i64 (H1.load H.next (0 + 15)) fun x17 =>
 obI .i64 (H1.load H.next (0 + 16)) fun x18 =>
 obI .i64 (H1.load H.next (0 + 17)) fun x19 =>
 obL (H1.load H.next (0 + 18)) fun b20 n20 k20 =>
 obL (H1.load H.next (0 + 19)) fun b21 n21 k21 =>
 cw 49 ⟨[.agg ⟨[I x2, I x3, I x4, I x5, I x6, I x7, I x8, I x9, I x10, I x11, I x12, I x13, I x14, I x15, I x16, I x17, I x18, I x19, .slice b20 n20 k20, .slice b21 n21 k21]⟩]⟩ H1 fun v22 H23 =>
 obI .i64 (some v22) fun x24 =>
 ifB (x24 != 0) (
 Q (I x24) H23) (
 ifB (decide ((a1n : Int) > 200)) (
 Q (I 67) H23) (
 f25L0 cw Q a1b a1n a1k (a1n : Int) 0 H23))
def ks27 : Keeps := fun i => match i with
 | _ => none
def f27R (cw : CallW) (a0h a0i : Nat) (a1 : Int) (H : AH) (Q : Value → AH → Prop) : Prop :=
 ifB (a1 == 0) (
 letH (H.new 1 [.pointer (some ⟨a0h, ((a0i + 0) + 0), none⟩), .pointer (some ⟨a0h, ((a0i + 0) + 1), none⟩), .pointer (some ⟨a0h, ((a0i + 0) + 2), none⟩), .pointer (some ⟨a0h, ((a0i + 0) + 3), none⟩), .pointer (some ⟨a0h, ((a0i + 0) + 4), none⟩), .pointer (some ⟨a0h, ((a0i + 0) + 5), none⟩), .pointer (some ⟨a0h, ((a0i + 0) + 6), none⟩), .pointer (some ⟨a0h, ((a0i + 0) + 7), none⟩), .pointer (some ⟨a0h, ((a0i + 0) + 8), none⟩)]) fun H1 =>
 Q (.slice (some ⟨H.next, 0, none⟩) 9 9) H1) (
 ifB (a1 == 1) (
 letH (H.new 1 [.pointer (some ⟨a0h, (((a0i + 0) + 9) + 0), none⟩), .pointer (some ⟨a0h, (((a0i + 0) + 9) + 1), none⟩), .pointer (some ⟨a0h, (((a0i + 0) + 9) + 2), none⟩)]) fun H2 =>
 Q (.slice (some ⟨H.next, 0, none⟩) 3 3) H2) (
 ifB (a1 == 2) (
 letH (H.new 1 [.pointer (some ⟨a0h, (((a0i + 0) + 12) + 0), none⟩), .pointer (some ⟨a0h, (((a0i + 0) + 12) + 1), none⟩), .pointer (some ⟨a0h, (((a0i + 0) + 12) + 2), none⟩)]) fun H3 =>
 Q (.slice (some ⟨H.next, 0, none⟩) 3 3) H3) (
 letH (H.new 1 [.pointer (some ⟨a0h, (((a0i + 0) + 15) + 1), none⟩), .pointer (some ⟨a0h, (((a0i + 0) + 15) + 2), none⟩)]) fun H4 =>
 Q (.slice (some ⟨H.next, 0, none⟩) 2 2) H4)))
def ks28 : Keeps := fun i => match i with
 | _ => none
def f28R (cw : CallW) (a0h a0i : Nat) (H : AH) (Q : Value → AH → Prop) : Prop :=
 letH (H.new 1 [.pointer (some ⟨a0h, (a0i + 0), none⟩), .pointer (some ⟨a0h, (a0i + 1), none⟩), .pointer (some ⟨a0h, (a0i + 2), none⟩), .pointer (some ⟨a0h, (a0i + 3), none⟩), .pointer (some ⟨a0h, (a0i + 4), none⟩)]) fun H1 =>
 Q (.slice (some ⟨H.next, 0, none⟩) 5 5) H1
theorem f28R_eq (cw : CallW) (a0h a0i : Nat) (H : AH) (Q : Value → AH → Prop) : runW Tryz.prog cw ks28 Tryz.f28 ⟨[.pointer (some ⟨a0h, a0i, none⟩)]⟩ H Q = f28R cw a0h a0i H Q := by kernel_rfl
def ks29 : Keeps := fun i => match i with
 | _ => none
def f29R (cw : CallW) (a0h a0i : Nat) (H : AH) (Q : Value → AH → Prop) : Prop :=
 letH (H.new 1 [.pointer (some ⟨a0h, (a0i + 0), none⟩), .pointer (some ⟨a0h, (a0i + 1), none⟩), .pointer (some ⟨a0h, (a0i + 13), none⟩), .pointer (some ⟨a0h, ((a0i + 4) + 0), none⟩), .pointer (some ⟨a0h, ((a0i + 4) + 1), none⟩), .pointer (some ⟨a0h, ((a0i + 4) + 2), none⟩), .pointer (some ⟨a0h, ((a0i + 7) + 0), none⟩), .pointer (some ⟨a0h, ((a0i + 7) + 1), none⟩), .pointer (some ⟨a0h, ((a0i + 7) + 2), none⟩), .pointer (some ⟨a0h, ((a0i + 7) + 3), none⟩), .pointer (some ⟨a0h, ((a0i + 7) + 4), none⟩), .pointer (some ⟨a0h, ((a0i + 7) + 5), none⟩)]) fun H1 =>
 Q (.slice (some ⟨H.next, 0, none⟩) 12 12) H1
theorem f29R_eq (cw : CallW) (a0h a0i : Nat) (H : AH) (Q : Value → AH → Prop) : runW Tryz.prog cw ks29 Tryz.f29 ⟨[.pointer (some ⟨a0h, a0i, none⟩)]⟩ H Q = f29R cw a0h a0i H Q := by kernel_rfl
def ks30 : Keeps := fun i => match i with
 | _ => none
def f30R (cw : CallW) (a0h a0i a1h a1i : Nat) (H : AH) (Q : Value → AH → Prop) : Prop :=
 letH (H.new 1 [.pointer (some ⟨a0h, (a0i + 0), none⟩), .pointer (some ⟨a0h, (a0i + 1), none⟩), .pointer (some ⟨a0h, (a0i + 2), none⟩), .pointer (some ⟨a0h, (a0i + 3), none⟩), .pointer (some ⟨a0h, (a0i + 4), none⟩), .pointer (some ⟨a0h, ((a0i + 5) + 0), none⟩), .pointer (some ⟨a0h, ((a0i + 5) + 1), none⟩), .pointer (some ⟨a0h, ((a0i + 5) + 2), none⟩), .pointer (some ⟨a0h, ((a0i + 5) + 3), none⟩), .pointer (some ⟨a0h, ((a0i + 5) + 4), none⟩), .pointer (some ⟨a0h, ((a0i + 5) + 5), none⟩), .pointer (some ⟨a1h, (a1i + 0), none⟩), .pointer (some ⟨a1h, (a1i + 1), none⟩), .pointer (some ⟨a1h, (a1i + 2), none⟩), .pointer (some ⟨a1h, (a1i + 3), none⟩)]) fun H1 =>
 Q (.slice (some ⟨H.next, 0, none⟩) 15 15) H1
theorem f30R_eq (cw : CallW) (a0h a0i a1h a1i : Nat) (H : AH) (Q : Value → AH → Prop) : runW Tryz.prog cw ks30 Tryz.f30 ⟨[.pointer (some ⟨a0h, a0i, none⟩), .pointer (some ⟨a1h, a1i, none⟩)]⟩ H Q = f30R cw a0h a0i a1h a1i H Q := by kernel_rfl
def ks31 : Keeps := fun i => match i with
 | _ => none
def f31R (cw : CallW) (a0h a0i : Nat) (H : AH) (Q : Value → AH → Prop) : Prop :=
 letH (H.new 1 [.pointer (some ⟨a0h, (a0i + 0), none⟩), .pointer (some ⟨a0h, (a0i + 1), none⟩), .pointer (some ⟨a0h, (a0i + 2), none⟩), .pointer (some ⟨a0h, (a0i + 3), none⟩)]) fun H1 =>
 Q (.slice (some ⟨H.next, 0, none⟩) 4 4) H1
def ks35 : Keeps := fun i => match i with
 | 2002 => some [6]
 | 4002 => some [6]
 | _ => none
def f35R (cw : CallW) (a0 : ByteArray) (a1 : Int) (a2b : Option Addr) (a2n a2k : Nat) (H : AH) (Q : Value → AH → Prop) : Prop :=
 cw 55 ⟨[.string a0, I a1, .slice a2b a2n a2k]⟩ H fun v1 H2 =>
 obL (tupV 0 v1) fun b4 n4 k4 =>
 obB (tupV 1 v1) fun c5 =>
 join2 (fun J6 =>
 ifB c5 (
 J6 ((n4 : Int) == 0) H2) (
 J6 false H2)) fun c7 H8 =>
 Q (.bool c7) H8
def ks36 : Keeps := fun i => match i with
 | 2003 => some [0, 1, 2, 8, 11, 31]
 | 2008 => some [0, 1, 2, 8, 11, 56]
 | 2013 => some [0, 1, 8, 11, 81]
 | 2023 => some [0, 20, 21, 137]
 | 2026 => some [0, 20, 23, 152]
 | 4003 => some [31]
 | 4008 => some [56]
 | 4013 => some [81]
 | 4023 => some [137]
 | 4026 => some [152]
 | 1018 => some [0, 1, 2, 3, 4, 5, 6, 7, 9, 10, 11, 12, 13, 14, 8, 15, 16, 17, 18, 19, 20, 21]
 | _ => none
def f36R (cw : CallW) (a0h a0i : Nat) (a1 : ByteArray) (a2 : Int) (H : AH) (Q : Value → AH → Prop) : Prop :=
 cw 56 ⟨[.string a1, .string (bs [32])]⟩ H fun v1 H2 =>
 obS (tupV 0 v1) fun s4 =>
 obS (tupV 1 v1) fun s5 =>
 obB (tupV 2 v1) fun c6 =>
 cw 50 ⟨[]⟩ H2 fun v7 H8 =>
 obN 8 v7 (
 obS (cellAt v7 0) fun s9 =>
 obS (cellAt v7 1) fun s10 =>
 obS (cellAt v7 2) fun s11 =>
 obS (cellAt v7 3) fun s12 =>
 obS (cellAt v7 4) fun s13 =>
 obS (cellAt v7 5) fun s14 =>
 obS (cellAt v7 6) fun s15 =>
 obS (cellAt v7 7) fun s16 =>
 letH (H8.new 0 [.string (bs []), .string (bs []), .string (bs []), .string (bs []), .string (bs []), .string (bs []), .string (bs []), .string (bs [])]) fun H17 =>
 obH (H17.storeN H8.next 0 [.string s9, .string s10, .string s11, .string s12, .string s13, .string s14, .string s15, .string s16]) fun H18 =>
 join2 (fun J19 =>
 obA (elemA 1 8 (.pointer (some ⟨H8.next, 0, none⟩)) (I 4)) fun h20 i20 =>
 obS (H18.load h20 i20) fun s21 =>
 ifB (s4.data.toList == s21.data.toList) (
 J19 (decide (a2 ≤ 4)) H18) (
 J19 false H18)) fun c22 H23 =>
 ifB c22 (
 letH (H23.new 0 [I 0, I 0, I 0, I 0, I 0]) fun H24 =>
 cw 28 ⟨[.pointer (some ⟨H23.next, 0, none⟩)]⟩ H24 fun v25 H26 =>
 obL (some v25) fun b27 n27 k27 =>
 cw 35 ⟨[.string a1, I 4, .slice b27 n27 k27]⟩ H26 fun v28 H29 =>
 obB (some v28) fun c30 =>
 obL (H29.load a0h ((a0i + 0) + 18)) fun b31 n31 k31 =>
 obI .i64 (H29.load H23.next (0 + 0)) fun x32 =>
 obI .i64 (H29.load H23.next (0 + 1)) fun x33 =>
 obI .i64 (H29.load H23.next (0 + 2)) fun x34 =>
 obI .i64 (H29.load H23.next (0 + 3)) fun x35 =>
 obI .i64 (H29.load H23.next (0 + 4)) fun x36 =>
 letH (H29.new 5 [I x32, I x33, I x34, I x35, I x36]) fun H37 =>
 obG (appendV 5 40 H37 (.slice b31 n31 k31) (.slice (some ⟨H29.next, 0, none⟩) 1 1)) fun b38 n38 k38 H39 =>
 obH (H39.storeN a0h ((a0i + 0) + 18) [.slice b38 n38 k38]) fun H40 =>
 obE1 (H37.load a0h ((a0i + 0) + 18)) (.slice b31 n31 k31) (
 obE1 (H37.load H23.next (0 + 0)) (I x32) (
 obE1 (H37.load H23.next (0 + 1)) (I x33) (
 obE1 (H37.load H23.next (0 + 2)) (I x34) (
 obE1 (H37.load H23.next (0 + 3)) (I x35) (
 obE1 (H37.load H23.next (0 + 4)) (I x36) (
 Q (.tuple ⟨[I 4, .bool c30]⟩) H40))))))) (
 join2 (fun J41 =>
 obA (elemA 1 8 (.pointer (some ⟨H8.next, 0, none⟩)) (I 5)) fun h42 i42 =>
 obS (H23.load h42 i42) fun s43 =>
 ifB (s4.data.toList == s43.data.toList) (
 J41 (decide (a2 ≤ 6)) H23) (
 J41 false H23)) fun c44 H45 =>
 ifB c44 (
 letH (H45.new 0 [I 0, I 0, .slice none 0 0, .slice none 0 0, I 0, I 0, I 0, I 0, I 0, I 0, I 0, I 0, I 0, I 0]) fun H46 =>
 cw 29 ⟨[.pointer (some ⟨H45.next, 0, none⟩)]⟩ H46 fun v47 H48 =>
 obL (some v47) fun b49 n49 k49 =>
 cw 35 ⟨[.string a1, I 5, .slice b49 n49 k49]⟩ H48 fun v50 H51 =>
 obB (some v50) fun c52 =>
 obL (H51.load a0h ((a0i + 0) + 19)) fun b53 n53 k53 =>
 obI .i64 (H51.load H45.next (0 + 0)) fun x54 =>
 obI .i64 (H51.load H45.next (0 + 1)) fun x55 =>
 obL (H51.load H45.next (0 + 2)) fun b56 n56 k56 =>
 obL (H51.load H45.next (0 + 3)) fun b57 n57 k57 =>
 obI .i64 (H51.load H45.next (0 + 4)) fun x58 =>
 obI .i64 (H51.load H45.next (0 + 5)) fun x59 =>
 obI .i64 (H51.load H45.next (0 + 6)) fun x60 =>
 obI .i64 (H51.load H45.next (0 + 7)) fun x61 =>
 obI .i64 (H51.load H45.next (0 + 8)) fun x62 =>
 obI .i64 (H51.load H45.next (0 + 9)) fun x63 =>
 obI .i64 (H51.load H45.next (0 + 10)) fun x64 =>
 obI .i64 (H51.load H45.next (0 + 11)) fun x65 =>
 obI .i64 (H51.load H45.next (0 + 12)) fun x66 =>
 obI .i64 (H51.load H45.next (0 + 13)) fun x67 =>
 letH (H51.new 14 [I x54, I x55, .slice b56 n56 k56, .slice b57 n57 k57, I x58, I x59, I x60, I x61, I x62, I x63, I x64, I x65, I x66, I x67]) fun H68 =>
 obG (appendV 14 144 H68 (.slice b53 n53 k53) (.slice (some ⟨H51.next, 0, none⟩) 1 1)) fun b69 n69 k69 H70 =>
 obH (H70.storeN a0h ((a0i + 0) + 19) [.slice b69 n69 k69]) fun H71 =>
 obE1 (H68.load a0h ((a0i + 0) + 19)) (.slice b53 n53 k53) (
 obE1 (H68.load H45.next (0 + 0)) (I x54) (
 obE1 (H68.load H45.next (0 + 1)) (I x55) (
 obE1 (H68.load H45.next (0 + 2)) (.slice b56 n56 k56) (
 obE1 (H68.load H45.next (0 + 3)) (.slice b57 n57 k57) (
 obE1 (H68.load H45.next (0 + 4)) (I x58) (
 obE1 (H68.load H45.next (0 + 5)) (I x59) (
 obE1 (H68.load H45.next (0 + 6)) (I x60) (
 obE1 (H68.load H45.next (0 + 7)) (I x61) (
 obE1 (H68.load H45.next (0 + 8)) (I x62) (
 obE1 (H68.load H45.next (0 + 9)) (I x63) (
 obE1 (H68.load H45.next (0 + 10)) (I x64) (
 obE1 (H68.load H45.next (0 + 11)) (I x65) (
 obE1 (H68.load H45.next (0 + 12)) (I x66) (
 obE1 (H68.load H45.next (0 + 13)) (I x67) (
 Q (.tuple ⟨[I 5, .bool c52]⟩) H71)))))))))))))))) (
 join2 (fun J72 =>
 obA (elemA 1 8 (.pointer (some ⟨H8.next, 0, none⟩)) (I 6)) fun h73 i73 =>
 obS (H45.load h73 i73) fun s74 =>
 ifB (s4.data.toList == s74.data.toList) (
 ifB (a2 == 5) (
 J72 true H45) (
 J72 (a2 == 6) H45)) (
 J72 false H45)) fun c75 H76 =>
 ifB c75 (
 letH (H76.new 0 [I 0, I 0, I 0, I 0, I 0, I 0, I 0, I 0, I 0, I 0, I 0]) fun H77 =>
 letH (H77.new 0 [I 0, I 0, I 0, I 0]) fun H78 =>
 cw 30 ⟨[.pointer (some ⟨H76.next, 0, none⟩), .pointer (some ⟨H77.next, 0, none⟩)]⟩ H78 fun v79 H80 =>
 obL (some v79) fun b81 n81 k81 =>
 cw 35 ⟨[.string a1, I 6, .slice b81 n81 k81]⟩ H80 fun v82 H83 =>
 obB (some v82) fun c84 =>
 cw 57 ⟨[.pointer (some ⟨a0h, a0i, none⟩)]⟩ H83 fun v85 H86 =>
 obA (some v85) fun h87 i87 =>
 obL (H86.load h87 (i87 + 2)) fun b88 n88 k88 =>
 obI .i64 (H86.load H76.next (0 + 0)) fun x89 =>
 obI .i64 (H86.load H76.next (0 + 1)) fun x90 =>
 obI .i64 (H86.load H76.next (0 + 2)) fun x91 =>
 obI .i64 (H86.load H76.next (0 + 3)) fun x92 =>
 obI .i64 (H86.load H76.next (0 + 4)) fun x93 =>
 obI .i64 (H86.load H76.next (0 + 5)) fun x94 =>
 obI .i64 (H86.load H76.next (0 + 6)) fun x95 =>
 obI .i64 (H86.load H76.next (0 + 7)) fun x96 =>
 obI .i64 (H86.load H76.next (0 + 8)) fun x97 =>
 obI .i64 (H86.load H76.next (0 + 9)) fun x98 =>
 obI .i64 (H86.load H76.next (0 + 10)) fun x99 =>
 letH (H86.new 11 [I x89, I x90, I x91, I x92, I x93, I x94, I x95, I x96, I x97, I x98, I x99]) fun H100 =>
 obL (H100.load h87 (i87 + 3)) fun b101 n101 k101 =>
 obI .i64 (H100.load H77.next (0 + 0)) fun x102 =>
 obI .i64 (H100.load H77.next (0 + 1)) fun x103 =>
 obI .i64 (H100.load H77.next (0 + 2)) fun x104 =>
 obI .i64 (H100.load H77.next (0 + 3)) fun x105 =>
 letH (H100.new 4 [I x102, I x103, I x104, I x105]) fun H106 =>
 obG (appendV 11 88 H106 (.slice b88 n88 k88) (.slice (some ⟨H86.next, 0, none⟩) 1 1)) fun b107 n107 k107 H108 =>
 obG (appendV 4 32 H108 (.slice b101 n101 k101) (.slice (some ⟨H100.next, 0, none⟩) 1 1)) fun b109 n109 k109 H110 =>
 obH (H110.storeN h87 (i87 + 2) [.slice b107 n107 k107]) fun H111 =>
 obH (H111.storeN h87 (i87 + 3) [.slice b109 n109 k109]) fun H112 =>
 obE1 (H106.load h87 (i87 + 2)) (.slice b88 n88 k88) (
 obE1 (H106.load H76.next (0 + 0)) (I x89) (
 obE1 (H106.load H76.next (0 + 1)) (I x90) (
 obE1 (H106.load H76.next (0 + 2)) (I x91) (
 obE1 (H106.load H76.next (0 + 3)) (I x92) (
 obE1 (H106.load H76.next (0 + 4)) (I x93) (
 obE1 (H106.load H76.next (0 + 5)) (I x94) (
 obE1 (H106.load H76.next (0 + 6)) (I x95) (
 obE1 (H106.load H76.next (0 + 7)) (I x96) (
 obE1 (H106.load H76.next (0 + 8)) (I x97) (
 obE1 (H106.load H76.next (0 + 9)) (I x98) (
 obE1 (H106.load H76.next (0 + 10)) (I x99) (
 obE1 (H108.load h87 (i87 + 3)) (.slice b101 n101 k101) (
 obE1 (H106.load h87 (i87 + 3)) (.slice b101 n101 k101) (
 obE1 (H108.load H77.next (0 + 0)) (I x102) (
 obE1 (H108.load H77.next (0 + 1)) (I x103) (
 obE1 (H108.load H77.next (0 + 2)) (I x104) (
 obE1 (H108.load H77.next (0 + 3)) (I x105) (
 obE1 (H106.load H77.next (0 + 0)) (I x102) (
 obE1 (H106.load H77.next (0 + 1)) (I x103) (
 obE1 (H106.load H77.next (0 + 2)) (I x104) (
 obE1 (H106.load H77.next (0 + 3)) (I x105) (
 Q (.tuple ⟨[I 6, .bool c84]⟩) H112))))))))))))))))))))))) (
 obA (elemA 1 8 (.pointer (some ⟨H8.next, 0, none⟩)) (I 7)) fun h113 i113 =>
 obS (H76.load h113 i113) fun s114 =>
 ifB (s4.data.toList == s114.data.toList) (
 letH (H76.new 0 [I 0, I 0, I 0, I 0, .slice none 0 0]) fun H115 =>
 cw 31 ⟨[.pointer (some ⟨H76.next, 0, none⟩)]⟩ H115 fun v116 H117 =>
 obL (some v116) fun b118 n118 k118 =>
 cw 55 ⟨[.string a1, I 7, .slice b118 n118 k118]⟩ H117 fun v119 H120 =>
 obL (tupV 0 v119) fun b122 n122 k122 =>
 obB (tupV 1 v119) fun c123 =>
 join2 (fun J124 =>
 ifB (!c123) (
 J124 true H120) (
 J124 ((n122 : Int) != 1) H120)) fun c125 H126 =>
 ifB c125 (
 Q (.tuple ⟨[I 0, .bool false]⟩) H126) (
 obA (elemS 1 (.slice b122 n122 k122) (I 0)) fun h127 i127 =>
 obS (H126.load h127 i127) fun s128 =>
 cw 58 ⟨[.string s128]⟩ H126 fun v129 H130 =>
 obL (some v129) fun b131 n131 k131 =>
 join2 (fun J132 =>
 ifB ((n131 : Int) == 0) (
 J132 true H130) (
 cw 32 ⟨[.slice b131 n131 k131]⟩ H130 fun v133 H134 =>
 obS (some v133) fun s135 =>
 obA (elemS 1 (.slice b122 n122 k122) (I 0)) fun h136 i136 =>
 obS (H134.load h136 i136) fun s137 =>
 obE1 (H130.load h136 i136) (.string s137) (
 J132 (!(s135.data.toList == s137.data.toList)) H134))) fun c138 H139 =>
 ifB c138 (
 Q (.tuple ⟨[I 0, .bool false]⟩) H139) (
 obH (H139.storeN H76.next (0 + 4) [.slice b131 n131 k131]) fun H140 =>
 obL (H140.load a0h (a0i + 20)) fun b141 n141 k141 =>
 obI .i64 (H140.load H76.next (0 + 0)) fun x142 =>
 obI .i64 (H140.load H76.next (0 + 1)) fun x143 =>
 obI .i64 (H140.load H76.next (0 + 2)) fun x144 =>
 obI .i64 (H140.load H76.next (0 + 3)) fun x145 =>
 obL (H140.load H76.next (0 + 4)) fun b146 n146 k146 =>
 letH (H140.new 5 [I x142, I x143, I x144, I x145, .slice b146 n146 k146]) fun H147 =>
 obG (appendV 5 56 H147 (.slice b141 n141 k141) (.slice (some ⟨H140.next, 0, none⟩) 1 1)) fun b148 n148 k148 H149 =>
 obH (H149.storeN a0h (a0i + 20) [.slice b148 n148 k148]) fun H150 =>
 obE1 (H147.load a0h (a0i + 20)) (.slice b141 n141 k141) (
 obE1 (H147.load H76.next (0 + 0)) (I x142) (
 obE1 (H147.load H76.next (0 + 1)) (I x143) (
 obE1 (H147.load H76.next (0 + 2)) (I x144) (
 obE1 (H147.load H76.next (0 + 3)) (I x145) (
 obE1 (H147.load H76.next (0 + 4)) (.slice b146 n146 k146) (
 Q (.tuple ⟨[I 7, .bool true]⟩) H150))))))))) (
 Q (.tuple ⟨[I 0, .bool false]⟩) H76)))))
def ks50 : Keeps := fun i => match i with
 | _ => none
def f50R (cw : CallW) (H : AH) (Q : Value → AH → Prop) : Prop :=
 letH (H.new 0 [.string (bs []), .string (bs []), .string (bs []), .string (bs []), .string (bs []), .string (bs []), .string (bs []), .string (bs [])]) fun H1 =>
 obH (H1.storeN H.next 0 [.string (bs [110, 101, 116, 119, 111, 114, 107]), .string (bs [112, 97, 116, 105, 101, 110, 99, 101]), .string (bs [114, 117, 108, 101]), .string (bs [111, 117, 116, 101, 114]), .string (bs [102, 97, 100, 101]), .string (bs [116, 101, 114, 109, 105, 110, 97, 108]), .string (bs [98, 101, 97, 114, 101, 114]), .string (bs [112, 97, 99, 107, 101, 116])]) fun H2 =>
 obS (H2.load H.next (0 + 0)) fun s3 =>
 obS (H2.load H.next (0 + 1)) fun s4 =>
 obS (H2.load H.next (0 + 2)) fun s5 =>
 obS (H2.load H.next (0 + 3)) fun s6 =>
 obS (H2.load H.next (0 + 4)) fun s7 =>
 obS (H2.load H.next (0 + 5)) fun s8 =>
 obS (H2.load H.next (0 + 6)) fun s9 =>
 obS (H2.load H.next (0 + 7)) fun s10 =>
 Q (.agg ⟨[.string s3, .string s4, .string s5, .string s6, .string s7, .string s8, .string s9, .string s10]⟩) H2
def ks55 : Keeps := fun i => match i with
 | 5 => some [2, 8, 30, 31, 32]
 | 2002 => some [2, 8, 29]
 | 2008 => some [2, 8, 10, 11, 30, 31, 32, 65]
 | 4002 => some [29]
 | 4008 => some [65]
 | _ => none
def f55_n : Nat := 75
def f55S0 (t2b : Option Addr) (t2n t2k : Nat) (t8b : Option Addr) (t8n t8k : Nat) (t30b : Option Addr) (t30n t30k : Nat) (t31 t32 : Int) (H : AH) : St := ((((((Tr.leaf.put 2 (.slice t2b t2n t2k)).put 8 (.slice t8b t8n t8k)).put 30 (.slice t30b t30n t30k)).put 31 (I t31)).put 32 (I t32)), H)
def f55W0 (cw : CallW) (Q : Value → AH → Prop) : (St → Prop) → St → Prop := fun rec0 s =>
 execW Tryz.prog cw ks55 f55_n (cL (cL (cR (cL (cR (cR (cR (bodyOf Tryz.f55)))))))) (kLoop ks55 (cL (cL (cR (cL (cR (cR (cR (bodyOf Tryz.f55)))))))) rec0 (kBlock ks55 0 (kSeq (execW Tryz.prog cw ks55 f55_n (cR (cR (cR (cR (bodyOf Tryz.f55)))))) (kRet Tryz.prog Tryz.f55 Q)))) s
def f55L0 (cw : CallW) (Q : Value → AH → Prop) (t2b : Option Addr) (t2n t2k : Nat) (t8b : Option Addr) (t8n t8k : Nat) (t30b : Option Addr) (t30n t30k : Nat) (t31 t32 : Int) (H : AH) : Prop := LoopP (f55W0 cw Q) (f55S0 t2b t2n t2k t8b t8n t8k t30b t30n t30k t31 t32 H)
def f55B0 (cw : CallW) (Q : Value → AH → Prop) (rec0 : St → Prop) (t2b : Option Addr) (t2n t2k : Nat) (t8b : Option Addr) (t8n t8k : Nat) (t30b : Option Addr) (t30n t30k : Nat) (t31 t32 : Int) (H : AH) : Prop :=
 ifB (decide (t32 < t31)) (
 obA (elemS 1 (.slice t30b t30n t30k) (I t32)) fun h1 i1 =>
 obA (H.load h1 i1) fun h2 i2 =>
 obA (elemS 1 (.slice t8b t8n t8k) (I (IntKind.wrap .i64 (1 + t32)))) fun h3 i3 =>
 obS (H.load h3 i3) fun s4 =>
 cw 87 ⟨[.string s4]⟩ H fun v5 H6 =>
 obI .i64 (tupV 0 v5) fun x8 =>
 obV (tupV 1 v5) fun v9 =>
 join2 (fun J10 =>
 obB (aBin Tryz.prog .neq 112 (.tmp 46) (.const (.nilIface)) v9 (.nilIface)) fun c11 =>
 ifB c11 (
 J10 true H6) (
 cw 51 ⟨[I x8]⟩ H6 fun v12 H13 =>
 obS (some v12) fun s14 =>
 obA (elemS 1 (.slice t8b t8n t8k) (I (IntKind.wrap .i64 (1 + t32)))) fun h15 i15 =>
 obS (H13.load h15 i15) fun s16 =>
 ifB (!(s14.data.toList == s16.data.toList)) (
 obE1 (H6.load h15 i15) (.string s16) (
 J10 true H13)) (
 ifB (decide (x8 < (-1099511627776))) (
 obE1 (H6.load h15 i15) (.string s16) (
 J10 true H13)) (
 obE1 (H6.load h15 i15) (.string s16) (
 J10 (decide (x8 > 1099511627776)) H13))))) fun c17 H18 =>
 ifB c17 (
 Q (.tuple ⟨[.slice none 0 0, .bool false]⟩) H18) (
 obH (H18.storeN h2 i2 [I x8]) fun H19 =>
 rec0 (f55S0 t2b t2n t2k t8b t8n t8k t30b t30n t30k t31 (IntKind.wrap .i64 (t32 + 1)) H19))) (
 obL (sliceV 1 H (.slice t8b t8n t8k) (some (I (IntKind.wrap .i64 (1 + (t2n : Int))))) none) fun b20 n20 k20 =>
 Q (.tuple ⟨[.slice b20 n20 k20, .bool true]⟩) H)
theorem f55L0_step {cw : CallW} {Q : Value → AH → Prop} {t2b : Option Addr} {t2n t2k : Nat} {t8b : Option Addr} {t8n t8k : Nat} {t30b : Option Addr} {t30n t30k : Nat} {t31 t32 : Int} {H : AH} (h : f55B0 cw Q (LoopP (f55W0 cw Q)) t2b t2n t2k t8b t8n t8k t30b t30n t30k t31 t32 H) : f55L0 cw Q t2b t2n t2k t8b t8n t8k t30b t30n t30k t31 t32 H := LoopP.step (of_eq (by kernel_rfl) h)
def f55R (cw : CallW) (a0 : ByteArray) (a1 : Int) (a2b : Option Addr) (a2n a2k : Nat) (H : AH) (Q : Value → AH → Prop) : Prop :=
 cw 34 ⟨[.string a0, .string (bs [32])]⟩ H fun v1 H2 =>
 obL (some v1) fun b3 n3 k3 =>
 join2 (fun J4 =>
 obA (elemS 1 (.slice b3 n3 k3) (I 0)) fun h5 i5 =>
 obS (H2.load h5 i5) fun s6 =>
 cw 50 ⟨[]⟩ H2 fun v7 H8 =>
 obN 8 v7 (
 obS (cellAt v7 0) fun s9 =>
 obS (cellAt v7 1) fun s10 =>
 obS (cellAt v7 2) fun s11 =>
 obS (cellAt v7 3) fun s12 =>
 obS (cellAt v7 4) fun s13 =>
 obS (cellAt v7 5) fun s14 =>
 obS (cellAt v7 6) fun s15 =>
 obS (cellAt v7 7) fun s16 =>
 obS (idxA none 1 8 (.agg ⟨[.string s9, .string s10, .string s11, .string s12, .string s13, .string s14, .string s15, .string s16]⟩) (I a1)) fun s17 =>
 ifB (!(s6.data.toList == s17.data.toList)) (
 obE1 (H8.load h5 i5) (.string s6) (
 J4 true H8)) (
 obE1 (H8.load h5 i5) (.string s6) (
 J4 (decide ((n3 : Int) < (IntKind.wrap .i64 (1 + (a2n : Int))))) H8)))) fun c18 H19 =>
 ifB c18 (
 Q (.tuple ⟨[.slice none 0 0, .bool false]⟩) H19) (
 f55L0 cw Q a2b a2n a2k b3 n3 k3 a2b a2n a2k (a2n : Int) 0 H19)
def ks57 : Keeps := fun i => match i with
 | _ => none
def f57R (cw : CallW) (a0h a0i : Nat) (H : AH) (Q : Value → AH → Prop) : Prop :=
 obL (H.load a0h ((a0i + 0) + 19)) fun b1 n1 k1 =>
 obL (H.load a0h ((a0i + 0) + 19)) fun b2 n2 k2 =>
 obA (elemS 14 (.slice b1 n1 k1) (I (IntKind.wrap .i64 ((n2 : Int) - 1)))) fun h3 i3 =>
 Q (.pointer (some ⟨h3, i3, none⟩)) H
def ks58 : Keeps := fun i => match i with
 | 2 => some [0, 3]
 | _ => none
def f58_n : Nat := 28
def f58S0 (t0 : ByteArray) (t3b : Option Addr) (t3n t3k : Nat) (H : AH) : St := (((Tr.leaf.put 0 (.string t0)).put 3 (.slice t3b t3n t3k)), H)
def f58W0 (cw : CallW) (Q : Value → AH → Prop) : (St → Prop) → St → Prop := fun rec0 s =>
 execW Tryz.prog cw ks58 f58_n (cL (cL (cL (cR (cR (bodyOf Tryz.f58)))))) (kLoop ks58 (cL (cL (cL (cR (cR (bodyOf Tryz.f58)))))) rec0 (kBlock ks58 0 (kSeq (execW Tryz.prog cw ks58 f58_n (cR (cR (cR (bodyOf Tryz.f58))))) (kRet Tryz.prog Tryz.f58 Q)))) s
def f58L0 (cw : CallW) (Q : Value → AH → Prop) (t0 : ByteArray) (t3b : Option Addr) (t3n t3k : Nat) (H : AH) : Prop := LoopP (f58W0 cw Q) (f58S0 t0 t3b t3n t3k H)
def f58B0 (cw : CallW) (Q : Value → AH → Prop) (rec0 : St → Prop) (t0 : ByteArray) (t3b : Option Addr) (t3n t3k : Nat) (H : AH) : Prop :=
 ifB (decide ((t0.size : Int) > 1)) (
 obI .u8 (idxS (.string t0) (I 0)) fun x1 =>
 cw 89 ⟨[.string (bs [48, 49, 50, 51, 52, 53, 54, 55, 56, 57, 97, 98, 99, 100, 101, 102]), .int .u8 x1]⟩ H fun v2 H3 =>
 obI .i64 (some v2) fun x4 =>
 obI .u8 (idxS (.string t0) (I 1)) fun x5 =>
 cw 89 ⟨[.string (bs [48, 49, 50, 51, 52, 53, 54, 55, 56, 57, 97, 98, 99, 100, 101, 102]), .int .u8 x5]⟩ H3 fun v6 H7 =>
 obI .i64 (some v6) fun x8 =>
 letH (H7.new 1 [.int .u8 (IntKind.wrap .u8 (IntKind.wrap .i64 (BitVec.ofInt (IntKind.bits .i64) (IntKind.wrap .i64 ((if 0 > x4 then 0 else x4) * 2 ^ min (Int.toNat 4) (IntKind.bits .i64))) ||| BitVec.ofInt (IntKind.bits .i64) (if 0 > x8 then 0 else x8)).toNat))]) fun H9 =>
 obG (appendV 1 1 H9 (.slice t3b t3n t3k) (.slice (some ⟨H7.next, 0, none⟩) 1 1)) fun b10 n10 k10 H11 =>
 obS (sliceS (.string t0) (some (I 2)) none) fun s12 =>
 rec0 (f58S0 s12 b10 n10 k10 H11)) (
 Q (.slice t3b t3n t3k) H)
theorem f58L0_step {cw : CallW} {Q : Value → AH → Prop} {t0 : ByteArray} {t3b : Option Addr} {t3n t3k : Nat} {H : AH} (h : f58B0 cw Q (LoopP (f58W0 cw Q)) t0 t3b t3n t3k H) : f58L0 cw Q t0 t3b t3n t3k H := LoopP.step (of_eq (by kernel_rfl) h)
def f58R (cw : CallW) (a0 : ByteArray) (H : AH) (Q : Value → AH → Prop) : Prop :=
 f58L0 cw Q a0 none 0 0 H
end AM
end Go.Proofs.YtemcmblcogljkaaGreatDoor

