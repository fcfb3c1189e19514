/-  -/
import Derived.Test.YtemcmblcogljkaaGreatDoorMb
set_option linter.all false
set_option linter.unusedSimpArgs false
set_option linter.unusedVariables false
set_option maxRecDepth 100000
namespace Go.Proofs.YtemcmblcogljkaaGreatDoor
namespace AM
open Go
def ks49 : Keeps := fun i => match i with
 | 14 => some [1, 94, 95, 96]
 | 2005 => some [1, 45]
 | 2008 => some [1, 86]
 | 4005 => some [45]
 | 4008 => some [86]
 | _ => none
def f49_n : Nat := 107
def f49S0 (t1h : Nat) (t94b : Option Addr) (t94n t94k : Nat) (t95 t96 : Int) (H : AH) : St := (((((Tr.leaf.put 1 (.pointer (some ⟨t1h, 0, none⟩))).put 94 (.slice t94b t94n t94k)).put 95 (I t95)).put 96 (I t96)), H)
def f49W0 (cw : CallW) (Q : Value → AH → Prop) : (St → Prop) → St → Prop := fun rec0 s =>
 execW Tryz.prog cw ks49 f49_n (cL (cL (cR (cL (cR (cR (cR (cR (cR (cR (cR (bodyOf Tryz.f49)))))))))))) (kLoop ks49 (cL (cL (cR (cL (cR (cR (cR (cR (cR (cR (cR (bodyOf Tryz.f49)))))))))))) rec0 (kBlock ks49 0 (kSeq (execW Tryz.prog cw ks49 f49_n (cR (cR (cR (cR (cR (cR (cR (cR (bodyOf Tryz.f49)))))))))) (kRet Tryz.prog Tryz.f49 Q)))) s
def f49L0 (cw : CallW) (Q : Value → AH → Prop) (t1h : Nat) (t94b : Option Addr) (t94n t94k : Nat) (t95 t96 : Int) (H : AH) : Prop := LoopP (f49W0 cw Q) (f49S0 t1h t94b t94n t94k t95 t96 H)
def f49B0 (cw : CallW) (Q : Value → AH → Prop) (rec0 : St → Prop) (t1h : Nat) (t94b : Option Addr) (t94n t94k : Nat) (t95 t96 : Int) (H : AH) : Prop :=
 ifB (decide (t96 < t95)) (
 obA (elemS 14 (.slice t94b t94n t94k) (I t96)) fun h1 i1 =>
 obI .i64 (H.load h1 (i1 + 0)) fun x2 =>
 obI .i64 (H.load h1 (i1 + 1)) fun x3 =>
 obL (H.load h1 (i1 + 2)) fun b4 n4 k4 =>
 obL (H.load h1 (i1 + 3)) fun b5 n5 k5 =>
 obI .i64 (H.load h1 (i1 + 4)) fun x6 =>
 obI .i64 (H.load h1 (i1 + 5)) fun x7 =>
 obI .i64 (H.load h1 (i1 + 6)) fun x8 =>
 obI .i64 (H.load h1 (i1 + 7)) fun x9 =>
 obI .i64 (H.load h1 (i1 + 8)) fun x10 =>
 obI .i64 (H.load h1 (i1 + 9)) fun x11 =>
 obI .i64 (H.load h1 (i1 + 10)) fun x12 =>
 obI .i64 (H.load h1 (i1 + 11)) fun x13 =>
 obI .i64 (H.load h1 (i1 + 12)) fun x14 =>
 obI .i64 (H.load h1 (i1 + 13)) fun x15 =>
 letH (H.new 0 [I 0, I 0, .slice none 0 0, .slice none 0 0, I 0, I 0, I 0, I 0, I 0, I 0, I 0, I 0, I 0, I 0]) fun H16 =>
 obH (H16.storeN H.next 0 [I x2, I x3, .slice b4 n4 k4, .slice b5 n5 k5, I x6, I x7, I x8, I x9, I x10, I x11, I x12, I x13, I x14, I x15]) fun H17 =>
 obI .i64 (H17.load t1h (0 + 0)) fun x18 =>
 obI .i64 (H17.load t1h (0 + 1)) fun x19 =>
 obI .i64 (H17.load t1h (0 + 2)) fun x20 =>
 obI .i64 (H17.load t1h (0 + 3)) fun x21 =>
 obI .i64 (H17.load t1h (0 + 4)) fun x22 =>
 obI .i64 (H17.load t1h (0 + 5)) fun x23 =>
 obI .i64 (H17.load t1h (0 + 6)) fun x24 =>
 obI .i64 (H17.load t1h (0 + 7)) fun x25 =>
 obI .i64 (H17.load t1h (0 + 8)) fun x26 =>
 obI .i64 (H17.load t1h (0 + 9)) fun x27 =>
 obI .i64 (H17.load t1h (0 + 10)) fun x28 =>
 obI .i64 (H17.load t1h (0 + 11)) fun x29 =>
 obI .i64 (H17.load t1h (0 + 12)) fun x30 =>
 obI .i64 (H17.load t1h (0 + 13)) fun x31 =>
 obI .i64 (H17.load t1h (0 + 14)) fun x32 =>
 obI .i64 (H17.load t1h (0 + 15)) fun x33 =>
 obI .i64 (H17.load t1h (0 + 16)) fun x34 =>
 obI .i64 (H17.load t1h (0 + 17)) fun x35 =>
 obL (H17.load t1h (0 + 18)) fun b36 n36 k36 =>
 obL (H17.load t1h (0 + 19)) fun b37 n37 k37 =>
 obI .i64 (H17.load H.next (0 + 0)) fun x38 =>
 obI .i64 (H17.load H.next (0 + 1)) fun x39 =>
 obL (H17.load H.next (0 + 2)) fun b40 n40 k40 =>
 obL (H17.load H.next (0 + 3)) fun b41 n41 k41 =>
 obI .i64 (H17.load H.next (0 + 4)) fun x42 =>
 obI .i64 (H17.load H.next (0 + 5)) fun x43 =>
 obI .i64 (H17.load H.next (0 + 6)) fun x44 =>
 obI .i64 (H17.load H.next (0 + 7)) fun x45 =>
 obI .i64 (H17.load H.next (0 + 8)) fun x46 =>
 obI .i64 (H17.load H.next (0 + 9)) fun x47 =>
 obI .i64 (H17.load H.next (0 + 10)) fun x48 =>
 obI .i64 (H17.load H.next (0 + 11)) fun x49 =>
 obI .i64 (H17.load H.next (0 + 12)) fun x50 =>
 obI .i64 (H17.load H.next (0 + 13)) fun x51 =>
 cw 81 ⟨[.agg ⟨[I x18, I x19, I x20, I x21, I x22, I x23, I x24, I x25, I x26, I x27, I x28, I x29, I x30, I x31, I x32, I x33, I x34, I x35, .slice b36 n36 k36, .slice b37 n37 k37]⟩, .agg ⟨[I x38, I x39, .slice b40 n40 k40, .slice b41 n41 k41, I x42, I x43, I x44, I x45, I x46, I x47, I x48, I x49, I x50, I x51]⟩]⟩ H17 fun v52 H53 =>
 obI .i64 (some v52) fun x54 =>
 ifB (x54 != 0) (
 Q (I x54) H53) (
 rec0 (f49S0 t1h t94b t94n t94k t95 (IntKind.wrap .i64 (t96 + 1)) H53))) (
 Q (I 0) H)
theorem f49L0_step {cw : CallW} {Q : Value → AH → Prop} {t1h : Nat} {t94b : Option Addr} {t94n t94k : Nat} {t95 t96 : Int} {H : AH} (h : f49B0 cw Q (LoopP (f49W0 cw Q)) t1h t94b t94n t94k t95 t96 H) : f49L0 cw Q t1h t94b t94n t94k t95 t96 H := LoopP.step (of_eq (by kernel_rfl) h)
def f49R (cw : CallW) (a0_0 a0_1 a0_2 a0_3 a0_4 a0_5 a0_6 a0_7 a0_8 a0_9 a0_10 a0_11 a0_12 a0_13 a0_14 a0_15 a0_16 a0_17 : Int) (a0_18b : Option Addr) (a0_18n a0_18k : Nat) (a0_19b : Option Addr) (a0_19n a0_19k : Nat) (H : AH) (Q : Value → AH → Prop) : Prop :=
 letH (H.new 0 [I a0_0, I a0_1, I a0_2, I a0_3, I a0_4, I a0_5, I a0_6, I a0_7, I a0_8, I a0_9, I a0_10, I a0_11, I a0_12, I a0_13, I a0_14, I a0_15, I a0_16, I a0_17, .slice a0_18b a0_18n a0_18k, .slice a0_19b a0_19n a0_19k]) fun H1 =>
 obI .i64 (H1.load H.next (0 + 1)) fun x2 =>
 cw 74 ⟨[I x2, I 1, I 3]⟩ H1 fun v3 H4 =>
 obB (some v3) fun c5 =>
 ifB (!c5) (
 Q (I 63) H4) (
 obL (H4.load H.next (0 + 19)) fun b6 n6 k6 =>
 cw 74 ⟨[I (n6 : Int), I 1, I 4]⟩ H4 fun v7 H8 =>
 obB (some v7) fun c9 =>
 ifB (!c9) (
 Q (I 64) H8) (
 join2 (fun J10 =>
 obI .i64 (H8.load H.next (0 + 0)) fun x11 =>
 cw 74 ⟨[I x11, I 0, I 1048576]⟩ H8 fun v12 H13 =>
 obB (some v12) fun c14 =>
 ifB (!c14) (
 J10 true H13) (
 obI .i64 (H13.load H.next (0 + 2)) fun x15 =>
 cw 74 ⟨[I x15, I 1, I 12]⟩ H13 fun v16 H17 =>
 obB (some v16) fun c18 =>
 ifB (!c18) (
 J10 true H17) (
 obI .i64 (H17.load H.next (0 + 3)) fun x19 =>
 cw 74 ⟨[I x19, I 1, I 1000]⟩ H17 fun v20 H21 =>
 obB (some v20) fun c22 =>
 ifB (!c22) (
 J10 true H21) (
 obI .i64 (H21.load H.next (0 + 4)) fun x23 =>
 cw 74 ⟨[I x23, I 1, I 1000]⟩ H21 fun v24 H25 =>
 obB (some v24) fun c26 =>
 ifB (!c26) (
 J10 true H25) (
 obI .i64 (H25.load H.next (0 + 5)) fun x27 =>
 cw 74 ⟨[I x27, I 1, I 32]⟩ H25 fun v28 H29 =>
 obB (some v28) fun c30 =>
 J10 (!c30) H29))))) fun c31 H32 =>
 ifB c31 (
 Q (I 3) H32) (
 cw 75 ⟨[I 1]⟩ H32 fun v33 H34 =>
 obV (tupV 0 v33) fun v36 =>
 obN 2 v36 (
 obL (cellAt v36 0) fun b37 n37 k37 =>
 obL (cellAt v36 1) fun b38 n38 k38 =>
 obI .i64 (tupV 1 v33) fun x39 =>
 letH (H34.new 0 [.slice none 0 0, .slice none 0 0]) fun H40 =>
 obH (H40.storeN H34.next 0 [.slice b37 n37 k37, .slice b38 n38 k38]) fun H41 =>
 join2 (fun J42 =>
 obI .i64 (H41.load H.next (0 + 0)) fun x43 =>
 obI .i64 (H41.load H.next (0 + 1)) fun x44 =>
 obI .i64 (H41.load H.next (0 + 2)) fun x45 =>
 obI .i64 (H41.load H.next (0 + 3)) fun x46 =>
 obI .i64 (H41.load H.next (0 + 4)) fun x47 =>
 obI .i64 (H41.load H.next (0 + 5)) fun x48 =>
 obI .i64 (H41.load H.next (0 + 6)) fun x49 =>
 obI .i64 (H41.load H.next (0 + 7)) fun x50 =>
 obI .i64 (H41.load H.next (0 + 8)) fun x51 =>
 obI .i64 (H41.load H.next (0 + 9)) fun x52 =>
 obI .i64 (H41.load H.next (0 + 10)) fun x53 =>
 obI .i64 (H41.load H.next (0 + 11)) fun x54 =>
 obI .i64 (H41.load H.next (0 + 12)) fun x55 =>
 obI .i64 (H41.load H.next (0 + 13)) fun x56 =>
 obI .i64 (H41.load H.next (0 + 14)) fun x57 =>
 obI .i64 (H41.load H.next (0 + 15)) fun x58 =>
 obI .i64 (H41.load H.next (0 + 16)) fun x59 =>
 obI .i64 (H41.load H.next (0 + 17)) fun x60 =>
 obL (H41.load H.next (0 + 18)) fun b61 n61 k61 =>
 obL (H41.load H.next (0 + 19)) fun b62 n62 k62 =>
 cw 77 ⟨[.agg ⟨[I x43, I x44, I x45, I x46, I x47, I x48, I x49, I x50, I x51, I x52, I x53, I x54, I x55, I x56, I x57, I x58, I x59, I x60, .slice b61 n61 k61, .slice b62 n62 k62]⟩]⟩ H41 fun v63 H64 =>
 obN 4 v63 (
 obI .i64 (cellAt v63 0) fun x65 =>
 obI .i64 (cellAt v63 1) fun x66 =>
 obI .i64 (cellAt v63 2) fun x67 =>
 obL (cellAt v63 3) fun b68 n68 k68 =>
 cw 76 ⟨[.agg ⟨[I x65, I x66, I x67, .slice b68 n68 k68]⟩]⟩ H64 fun v69 H70 =>
 obI .i64 (some v69) fun x71 =>
 ifB (x71 != 0) (
 J42 true H70) (
 obI .i64 (H70.load H.next ((0 + 9) + 0)) fun x72 =>
 obI .i64 (H70.load H.next ((0 + 9) + 1)) fun x73 =>
 obI .i64 (H70.load H.next ((0 + 9) + 2)) fun x74 =>
 cw 78 ⟨[.agg ⟨[I x72, I x73, I x74]⟩]⟩ H70 fun v75 H76 =>
 obI .i64 (some v75) fun x77 =>
 ifB (x77 != 0) (
 J42 true H76) (
 obI .i64 (H76.load H.next ((0 + 12) + 0)) fun x78 =>
 obI .i64 (H76.load H.next ((0 + 12) + 1)) fun x79 =>
 obI .i64 (H76.load H.next ((0 + 12) + 2)) fun x80 =>
 obL (H76.load H34.next (0 + 0)) fun b81 n81 k81 =>
 obL (H76.load H34.next (0 + 1)) fun b82 n82 k82 =>
 cw 79 ⟨[.agg ⟨[I x78, I x79, I x80]⟩, .agg ⟨[.slice b81 n81 k81, .slice b82 n82 k82]⟩]⟩ H76 fun v83 H84 =>
 obI .i64 (some v83) fun x85 =>
 ifB (x85 != 0) (
 J42 true H84) (
 obI .i64 (H84.load H.next ((0 + 15) + 0)) fun x86 =>
 ifB (x86 != 0) (
 J42 true H84) (
 obI .i64 (H84.load H.next ((0 + 15) + 1)) fun x87 =>
 cw 74 ⟨[I x87, I 0, I 256]⟩ H84 fun v88 H89 =>
 obB (some v88) fun c90 =>
 ifB (!c90) (
 J42 true H89) (
 obI .i64 (H89.load H.next ((0 + 15) + 2)) fun x91 =>
 cw 74 ⟨[I x91, I 0, I 256]⟩ H89 fun v92 H93 =>
 obB (some v92) fun c94 =>
 J42 (!c94) H93))))))) fun c95 H96 =>
 ifB c95 (
 Q (I 3) H96) (
 obL (H96.load H.next (0 + 18)) fun b97 n97 k97 =>
 cw 80 ⟨[.slice b97 n97 k97]⟩ H96 fun v98 H99 =>
 obI .i64 (some v98) fun x100 =>
 ifB (x100 != 0) (
 Q (I x100) H99) (
 obL (H99.load H.next (0 + 19)) fun b101 n101 k101 =>
 f49L0 cw Q H.next b101 n101 k101 (n101 : Int) 0 H99))))))
def ks74 : Keeps := fun i => match i with
 | 2001 => some [6]
 | 4001 => some [6]
 | _ => none
def f74R (cw : CallW) (a0 a1 a2 : Int) (H : AH) (Q : Value → AH → Prop) : Prop :=
 join2 (fun J1 =>
 ifB (decide (a0 ≥ a1)) (
 J1 (decide (a0 ≤ a2)) H) (
 J1 false H)) fun c2 H3 =>
 Q (.bool c2) H3
def ks75 : Keeps := fun i => match i with
 | 2001 => some [0, 2, 9]
 | 4001 => some [9]
 | _ => none
def f75R (cw : CallW) (a0 : Int) (H : AH) (Q : Value → AH → Prop) : Prop :=
 letH (H.new 0 [.slice none 0 0, .slice none 0 0]) fun H1 =>
 join2 (fun J2 =>
 ifB (decide (a0 < 1)) (
 J2 true H1) (
 J2 (decide (a0 > 3)) H1)) fun c3 H4 =>
 ifB c3 (
 obH (H4.storeN H.next 0 [.slice none 0 0, .slice none 0 0]) fun H5 =>
 obL (H5.load H.next (0 + 0)) fun b6 n6 k6 =>
 obL (H5.load H.next (0 + 1)) fun b7 n7 k7 =>
 Q (.tuple ⟨[.agg ⟨[.slice b6 n6 k6, .slice b7 n7 k7]⟩, I 3]⟩) H5) (
 obG (makeV 1 8 [I 0] H4 (I a0) (I a0)) fun b8 n8 k8 H9 =>
 obG (makeV 1 8 [I 0] H9 (I a0) (I a0)) fun b10 n10 k10 H11 =>
 obH (H11.storeN H.next 0 [.slice b8 n8 k8, .slice b10 n10 k10]) fun H12 =>
 obL (H12.load H.next (0 + 0)) fun b13 n13 k13 =>
 obL (H12.load H.next (0 + 1)) fun b14 n14 k14 =>
 Q (.tuple ⟨[.agg ⟨[.slice b13 n13 k13, .slice b14 n14 k14]⟩, I 0]⟩) H12)
def ks76 : Keeps := fun i => match i with
 | 6 => some [1, 40, 41, 42]
 | 2001 => some [1, 5]
 | 2008 => some [1, 3, 4, 40, 41, 42, 84]
 | 2010 => some [1, 40, 41, 42, 107]
 | 4001 => some [5]
 | 4008 => some [84]
 | 4010 => some [107]
 | _ => none
def f76_n : Nat := 109
def f76S0 (t1h : Nat) (t40b : Option Addr) (t40n t40k : Nat) (t41 t42 : Int) (H : AH) : St := (((((Tr.leaf.put 1 (.pointer (some ⟨t1h, 0, none⟩))).put 40 (.slice t40b t40n t40k)).put 41 (I t41)).put 42 (I t42)), H)
def f76W0 (cw : CallW) (Q : Value → AH → Prop) : (St → Prop) → St → Prop := fun rec0 s =>
 execW Tryz.prog cw ks76 f76_n (cL (cL (cR (cL (cR (cR (bodyOf Tryz.f76))))))) (kLoop ks76 (cL (cL (cR (cL (cR (cR (bodyOf Tryz.f76))))))) rec0 (kBlock ks76 1 (kSeq (execW Tryz.prog cw ks76 f76_n (cR (cR (cR (bodyOf Tryz.f76))))) (kRet Tryz.prog Tryz.f76 Q)))) s
def f76L0 (cw : CallW) (Q : Value → AH → Prop) (t1h : Nat) (t40b : Option Addr) (t40n t40k : Nat) (t41 t42 : Int) (H : AH) : Prop := LoopP (f76W0 cw Q) (f76S0 t1h t40b t40n t40k t41 t42 H)
def f76B0 (cw : CallW) (Q : Value → AH → Prop) (rec0 : St → Prop) (t1h : Nat) (t40b : Option Addr) (t40n t40k : Nat) (t41 t42 : Int) (H : AH) : Prop :=
 ifB (decide (t42 < t41)) (
 obA (elemS 4 (.slice t40b t40n t40k) (I t42)) fun h1 i1 =>
 obI .i64 (H.load h1 (i1 + 0)) fun x2 =>
 obI .i64 (H.load h1 (i1 + 1)) fun x3 =>
 obI .i64 (H.load h1 (i1 + 2)) fun x4 =>
 obI .i64 (H.load h1 (i1 + 3)) fun x5 =>
 letH (H.new 0 [I 0, I 0, I 0, I 0]) fun H6 =>
 obH (H6.storeN H.next 0 [I x2, I x3, I x4, I x5]) fun H7 =>
 join2 (fun J8 =>
 obI .i64 (H7.load H.next (0 + 0)) fun x9 =>
 cw 104 ⟨[I x9]⟩ H7 fun v10 H11 =>
 obB (some v10) fun c12 =>
 ifB (!c12) (
 J8 true H11) (
 obI .i64 (H11.load H.next (0 + 3)) fun x13 =>
 ifB (decide (x13 < 0)) (
 J8 true H11) (
 obI .i64 (H11.load H.next (0 + 3)) fun x14 =>
 obI .i64 (H11.load t1h (0 + 1)) fun x15 =>
 ifB (decide (x14 ≥ x15)) (
 J8 true H11) (
 obI .i64 (H11.load H.next (0 + 1)) fun x16 =>
 obI .i64 (H11.load H.next (0 + 0)) fun x17 =>
 obI .i64 (H11.load H.next (0 + 3)) fun x18 =>
 obI .i64 (H11.load t1h (0 + 0)) fun x19 =>
 cw 105 ⟨[I x17, I x18, I x19]⟩ H11 fun v20 H21 =>
 obI .i64 (some v20) fun x22 =>
 ifB (x16 != x22) (
 obE1 (H21.load H.next (0 + 1)) (I x16) (
 J8 true H21)) (
 obI .i64 (H21.load H.next (0 + 2)) fun x23 =>
 ifB (decide (x23 < 0)) (
 obE1 (H21.load H.next (0 + 1)) (I x16) (
 J8 true H21)) (
 obI .i64 (H21.load H.next (0 + 2)) fun x24 =>
 obE1 (H21.load H.next (0 + 1)) (I x16) (
 J8 (decide (x24 > 2097152)) H21))))))) fun c25 H26 =>
 ifB c25 (
 Q (I 1) H26) (
 join2 (fun J27 =>
 obL (H26.load t1h (0 + 3)) fun b28 n28 k28 =>
 obL (sliceV 4 H26 (.slice b28 n28 k28) none (some (I t42))) fun b29 n29 k29 =>
 obI .i64 (H26.load H.next (0 + 0)) fun x30 =>
 cw 106 ⟨[.slice b29 n29 k29, I x30]⟩ H26 fun v31 H32 =>
 obI .i64 (some v31) fun x33 =>
 ifB (decide (x33 ≥ 0)) (
 J27 true H32) (
 ifB (decide (t42 > 0)) (
 obL (H32.load t1h (0 + 3)) fun b34 n34 k34 =>
 obA (elemS 4 (.slice b34 n34 k34) (I (IntKind.wrap .i64 (t42 - 1)))) fun h35 i35 =>
 obI .i64 (H32.load h35 (i35 + 0)) fun x36 =>
 obI .i64 (H32.load h35 (i35 + 1)) fun x37 =>
 obI .i64 (H32.load h35 (i35 + 2)) fun x38 =>
 obI .i64 (H32.load h35 (i35 + 3)) fun x39 =>
 obI .i64 (H32.load H.next (0 + 0)) fun x40 =>
 obI .i64 (H32.load H.next (0 + 1)) fun x41 =>
 obI .i64 (H32.load H.next (0 + 2)) fun x42 =>
 obI .i64 (H32.load H.next (0 + 3)) fun x43 =>
 cw 107 ⟨[.agg ⟨[I x36, I x37, I x38, I x39]⟩, .agg ⟨[I x40, I x41, I x42, I x43]⟩]⟩ H32 fun v44 H45 =>
 obI .i64 (some v44) fun x46 =>
 J27 (decide (x46 ≥ 0)) H45) (
 J27 false H32))) fun c47 H48 =>
 ifB c47 (
 Q (I 1) H48) (
 rec0 (f76S0 t1h t40b t40n t40k t41 (IntKind.wrap .i64 (t42 + 1)) H48)))) (
 Q (I 0) H)
theorem f76L0_step {cw : CallW} {Q : Value → AH → Prop} {t1h : Nat} {t40b : Option Addr} {t40n t40k : Nat} {t41 t42 : Int} {H : AH} (h : f76B0 cw Q (LoopP (f76W0 cw Q)) t1h t40b t40n t40k t41 t42 H) : f76L0 cw Q t1h t40b t40n t40k t41 t42 H := LoopP.step (of_eq (by kernel_rfl) h)
def f76R (cw : CallW) (a0_0 a0_1 a0_2 : Int) (a0_3b : Option Addr) (a0_3n a0_3k : Nat) (H : AH) (Q : Value → AH → Prop) : Prop :=
 letH (H.new 0 [I a0_0, I a0_1, I a0_2, .slice a0_3b a0_3n a0_3k]) fun H1 =>
 join2 (fun J2 =>
 obI .i64 (H1.load H.next (0 + 0)) fun x3 =>
 ifB (decide (x3 < 1)) (
 J2 true H1) (
 obI .i64 (H1.load H.next (0 + 0)) fun x4 =>
 ifB (decide (x4 > 64)) (
 J2 true H1) (
 obI .i64 (H1.load H.next (0 + 1)) fun x5 =>
 ifB (decide (x5 < 1)) (
 J2 true H1) (
 obI .i64 (H1.load H.next (0 + 1)) fun x6 =>
 ifB (decide (x6 > 32)) (
 J2 true H1) (
 obI .i64 (H1.load H.next (0 + 2)) fun x7 =>
 ifB (decide (x7 < 0)) (
 J2 true H1) (
 obI .i64 (H1.load H.next (0 + 2)) fun x8 =>
 J2 (decide (x8 > 1000)) H1)))))) fun c9 H10 =>
 ifB c9 (
 Q (I 3) H10) (
 obL (H10.load H.next (0 + 3)) fun b11 n11 k11 =>
 ifB (decide ((n11 : Int) > 16)) (
 Q (I 2) H10) (
 obL (H10.load H.next (0 + 3)) fun b12 n12 k12 =>
 f76L0 cw Q H.next b12 n12 k12 (n12 : Int) 0 H10))
def ks77 : Keeps := fun i => match i with
 | _ => none
def f77R (cw : CallW) (a0_0 a0_1 a0_2 a0_3 a0_4 a0_5 a0_6 a0_7 a0_8 a0_9 a0_10 a0_11 a0_12 a0_13 a0_14 a0_15 a0_16 a0_17 : Int) (a0_18b : Option Addr) (a0_18n a0_18k : Nat) (a0_19b : Option Addr) (a0_19n a0_19k : Nat) (H : AH) (Q : Value → AH → Prop) : Prop :=
 letH (H.new 0 [I a0_0, I a0_1, I a0_2, I a0_3, I a0_4, I a0_5, I a0_6, I a0_7, I a0_8, I a0_9, I a0_10, I a0_11, I a0_12, I a0_13, I a0_14, I a0_15, I a0_16, I a0_17, .slice a0_18b a0_18n a0_18k, .slice a0_19b a0_19n a0_19k]) fun H1 =>
 letH (H1.new 0 [I 0, I 0, I 0, .slice none 0 0]) fun H2 =>
 obI .i64 (H2.load H.next (0 + 6)) fun x3 =>
 obI .i64 (H2.load H.next (0 + 7)) fun x4 =>
 obI .i64 (H2.load H.next (0 + 8)) fun x5 =>
 obH (H2.storeN H1.next 0 [I x3, I x4, I x5, .slice none 0 0]) fun H6 =>
 obI .i64 (H6.load H1.next (0 + 0)) fun x7 =>
 obI .i64 (H6.load H1.next (0 + 1)) fun x8 =>
 obI .i64 (H6.load H1.next (0 + 2)) fun x9 =>
 obL (H6.load H1.next (0 + 3)) fun b10 n10 k10 =>
 Q (.agg ⟨[I x7, I x8, I x9, .slice b10 n10 k10]⟩) H6
def ks78 : Keeps := fun i => match i with
 | 2 => some [11, 12, 13]
 | 2004 => some [11, 12, 13, 22]
 | 4004 => some [22]
 | _ => none
def f78_n : Nat := 24
def f78S0 (t11b : Option Addr) (t13 : Int) (H : AH) : St := ((((Tr.leaf.put 11 (.slice t11b 3 3)).put 12 (I 3)).put 13 (I t13)), H)
def f78W0 (cw : CallW) (Q : Value → AH → Prop) : (St → Prop) → St → Prop := fun rec0 s =>
 execW Tryz.prog cw ks78 f78_n (cL (cL (cR (cL (cR (bodyOf Tryz.f78)))))) (kLoop ks78 (cL (cL (cR (cL (cR (bodyOf Tryz.f78)))))) rec0 (kBlock ks78 0 (kSeq (execW Tryz.prog cw ks78 f78_n (cR (cR (bodyOf Tryz.f78)))) (kRet Tryz.prog Tryz.f78 Q)))) s
def f78L0 (cw : CallW) (Q : Value → AH → Prop) (t11b : Option Addr) (t13 : Int) (H : AH) : Prop := LoopP (f78W0 cw Q) (f78S0 t11b t13 H)
def f78B0 (cw : CallW) (Q : Value → AH → Prop) (rec0 : St → Prop) (t11b : Option Addr) (t13 : Int) (H : AH) : Prop :=
 ifB (decide (t13 < 3)) (
 obA (elemS 1 (.slice t11b 3 3) (I t13)) fun h1 i1 =>
 obI .i64 (H.load h1 i1) fun x2 =>
 join2 (fun J3 =>
 ifB (decide (x2 < 1)) (
 J3 true H) (
 J3 (decide (x2 > 1000)) H)) fun c4 H5 =>
 ifB c4 (
 Q (I 3) H5) (
 rec0 (f78S0 t11b (IntKind.wrap .i64 (t13 + 1)) H5))) (
 Q (I 0) H)
theorem f78L0_step {cw : CallW} {Q : Value → AH → Prop} {t11b : Option Addr} {t13 : Int} {H : AH} (h : f78B0 cw Q (LoopP (f78W0 cw Q)) t11b t13 H) : f78L0 cw Q t11b t13 H := LoopP.step (of_eq (by kernel_rfl) h)
def f78R (cw : CallW) (a0_0 a0_1 a0_2 : Int) (H : AH) (Q : Value → AH → Prop) : Prop :=
 letH (H.new 0 [I a0_0, I a0_1, I a0_2]) fun H1 =>
 obI .i64 (H1.load H.next (0 + 0)) fun x2 =>
 obI .i64 (H1.load H.next (0 + 1)) fun x3 =>
 obI .i64 (H1.load H.next (0 + 2)) fun x4 =>
 letH (H1.new 1 [I x2, I x3, I x4]) fun H5 =>
 f78L0 cw Q (some ⟨H1.next, 0, none⟩) 0 H5
def ks79 : Keeps := fun i => match i with
 | 2001 => some [3, 5]
 | 2003 => some [3, 34]
 | 2005 => some [54]
 | 4001 => some [5]
 | 4003 => some [34]
 | 4005 => some [54]
 | _ => none
def f79R (cw : CallW) (a0_0 a0_1 a0_2 : Int) (a1_0b : Option Addr) (a1_0n a1_0k : Nat) (a1_1b : Option Addr) (a1_1n a1_1k : Nat) (H : AH) (Q : Value → AH → Prop) : Prop :=
 letH (H.new 0 [I a0_0, I a0_1, I a0_2]) fun H1 =>
 letH (H1.new 0 [.slice a1_0b a1_0n a1_0k, .slice a1_1b a1_1n a1_1k]) fun H2 =>
 join2 (fun J3 =>
 obI .i64 (H2.load H.next (0 + 0)) fun x4 =>
 ifB (decide (x4 < (-15))) (
 J3 true H2) (
 obI .i64 (H2.load H.next (0 + 0)) fun x5 =>
 ifB (decide (x5 > 15)) (
 J3 true H2) (
 obI .i64 (H2.load H.next (0 + 1)) fun x6 =>
 ifB (decide (x6 < 0)) (
 J3 true H2) (
 obI .i64 (H2.load H.next (0 + 1)) fun x7 =>
 ifB (decide (x7 > 15)) (
 J3 true H2) (
 obI .i64 (H2.load H.next (0 + 2)) fun x8 =>
 ifB (decide (x8 < 1)) (
 J3 true H2) (
 obI .i64 (H2.load H.next (0 + 2)) fun x9 =>
 J3 (decide (x9 > 1000)) H2)))))) fun c10 H11 =>
 ifB c10 (
 Q (I 3) H11) (
 join2 (fun J12 =>
 obL (H11.load H1.next (0 + 0)) fun b13 n13 k13 =>
 obL (H11.load H1.next (0 + 1)) fun b14 n14 k14 =>
 ifB ((n13 : Int) != (n14 : Int)) (
 J12 true H11) (
 obL (H11.load H1.next (0 + 0)) fun b15 n15 k15 =>
 ifB (decide ((n15 : Int) < 1)) (
 J12 true H11) (
 obL (H11.load H1.next (0 + 0)) fun b16 n16 k16 =>
 J12 (decide ((n16 : Int) > 3)) H11))) fun c17 H18 =>
 ifB c17 (
 Q (I 2) H18) (
 join2 (fun J19 =>
 obL (H18.load H1.next (0 + 0)) fun b20 n20 k20 =>
 cw 108 ⟨[.slice b20 n20 k20, I 240]⟩ H18 fun v21 H22 =>
 obB (some v21) fun c23 =>
 ifB c23 (
 J19 true H22) (
 obL (H22.load H1.next (0 + 1)) fun b24 n24 k24 =>
 cw 108 ⟨[.slice b24 n24 k24, I 1000]⟩ H22 fun v25 H26 =>
 obB (some v25) fun c27 =>
 J19 c27 H26)) fun c28 H29 =>
 ifB c28 (
 Q (I 1) H29) (
 Q (I 0) H29)))
def ks80 : Keeps := fun i => match i with
 | 4 => some [8, 9, 10]
 | 2010 => some [8, 9, 10, 24]
 | 4010 => some [24]
 | _ => none
def f80_n : Nat := 42
def f80S0 (t8b : Option Addr) (t8n t8k : Nat) (t9 t10 : Int) (H : AH) : St := ((((Tr.leaf.put 8 (.slice t8b t8n t8k)).put 9 (I t9)).put 10 (I t10)), H)
def f80W0 (cw : CallW) (Q : Value → AH → Prop) : (St → Prop) → St → Prop := fun rec0 s =>
 execW Tryz.prog cw ks80 f80_n (cL (cL (cR (cL (cR (cR (bodyOf Tryz.f80))))))) (kLoop ks80 (cL (cL (cR (cL (cR (cR (bodyOf Tryz.f80))))))) rec0 (kBlock ks80 0 (kSeq (execW Tryz.prog cw ks80 f80_n (cR (cR (cR (bodyOf Tryz.f80))))) (kRet Tryz.prog Tryz.f80 Q)))) s
def f80L0 (cw : CallW) (Q : Value → AH → Prop) (t8b : Option Addr) (t8n t8k : Nat) (t9 t10 : Int) (H : AH) : Prop := LoopP (f80W0 cw Q) (f80S0 t8b t8n t8k t9 t10 H)
def f80B0 (cw : CallW) (Q : Value → AH → Prop) (rec0 : St → Prop) (t8b : Option Addr) (t8n t8k : Nat) (t9 t10 : Int) (H : AH) : Prop :=
 ifB (decide (t10 < t9)) (
 obA (elemS 5 (.slice t8b t8n t8k) (I t10)) fun h1 i1 =>
 obI .i64 (H.load h1 (i1 + 0)) fun x2 =>
 obI .i64 (H.load h1 (i1 + 1)) fun x3 =>
 obI .i64 (H.load h1 (i1 + 2)) fun x4 =>
 obI .i64 (H.load h1 (i1 + 3)) fun x5 =>
 obI .i64 (H.load h1 (i1 + 4)) fun x6 =>
 letH (H.new 0 [I 0, I 0, I 0, I 0, I 0]) fun H7 =>
 obH (H7.storeN H.next 0 [I x2, I x3, I x4, I x5, I x6]) fun H8 =>
 obI .i64 (H8.load H.next (0 + 0)) fun x9 =>
 cw 109 ⟨[I x9, I 0, I 3]⟩ H8 fun v10 H11 =>
 obB (some v10) fun c12 =>
 ifB (!c12) (
 Q (I 64) H11) (
 obI .i64 (H11.load H.next (0 + 1)) fun x13 =>
 cw 109 ⟨[I x13, I 0, I 2]⟩ H11 fun v14 H15 =>
 obB (some v14) fun c16 =>
 ifB (!c16) (
 Q (I 63) H15) (
 join2 (fun J17 =>
 obI .i64 (H15.load H.next (0 + 2)) fun x18 =>
 cw 109 ⟨[I x18, I 0, I 1048576]⟩ H15 fun v19 H20 =>
 obB (some v19) fun c21 =>
 ifB (!c21) (
 J17 true H20) (
 obI .i64 (H20.load H.next (0 + 3)) fun x22 =>
 cw 109 ⟨[I x22, I 0, I 127]⟩ H20 fun v23 H24 =>
 obB (some v23) fun c25 =>
 ifB (!c25) (
 J17 true H24) (
 obI .i64 (H24.load H.next (0 + 4)) fun x26 =>
 cw 109 ⟨[I x26, I 0, I 1000]⟩ H24 fun v27 H28 =>
 obB (some v27) fun c29 =>
 J17 (!c29) H28))) fun c30 H31 =>
 ifB c30 (
 Q (I 3) H31) (
 rec0 (f80S0 t8b t8n t8k t9 (IntKind.wrap .i64 (t10 + 1)) H31))))) (
 Q (I 0) H)
theorem f80L0_step {cw : CallW} {Q : Value → AH → Prop} {t8b : Option Addr} {t8n t8k : Nat} {t9 t10 : Int} {H : AH} (h : f80B0 cw Q (LoopP (f80W0 cw Q)) t8b t8n t8k t9 t10 H) : f80L0 cw Q t8b t8n t8k t9 t10 H := LoopP.step (of_eq (by kernel_rfl) h)
def f80R (cw : CallW) (a0b : Option Addr) (a0n a0k : Nat) (H : AH) (Q : Value → AH → Prop) : Prop :=
 ifB (decide ((a0n : Int) > 400)) (
 Q (I 2) H) (
 f80L0 cw Q a0b a0n a0k (a0n : Int) 0 H)
def ks81 : Keeps := fun i => match i with
 | 6 => some [3, 30, 31, 32]
 | 2003 => some [3, 28]
 | 2012 => some [70]
 | 4003 => some [28]
 | 4012 => some [70]
 | _ => none
def f81_n : Nat := 71
def f81S0 (t3h : Nat) (t30b : Option Addr) (t30n t30k : Nat) (t31 t32 : Int) (H : AH) : St := (((((Tr.leaf.put 3 (.pointer (some ⟨t3h, 0, none⟩))).put 30 (.slice t30b t30n t30k)).put 31 (I t31)).put 32 (I t32)), H)
def f81W0 (cw : CallW) (Q : Value → AH → Prop) : (St → Prop) → St → Prop := fun rec0 s =>
 execW Tryz.prog cw ks81 f81_n (cL (cL (cR (cL (cR (cR (cR (bodyOf Tryz.f81)))))))) (kLoop ks81 (cL (cL (cR (cL (cR (cR (cR (bodyOf Tryz.f81)))))))) rec0 (kBlock ks81 0 (kSeq (execW Tryz.prog cw ks81 f81_n (cR (cR (cR (cR (bodyOf Tryz.f81)))))) (kRet Tryz.prog Tryz.f81 Q)))) s
def f81L0 (cw : CallW) (Q : Value → AH → Prop) (t3h : Nat) (t30b : Option Addr) (t30n t30k : Nat) (t31 t32 : Int) (H : AH) : Prop := LoopP (f81W0 cw Q) (f81S0 t3h t30b t30n t30k t31 t32 H)
def f81B0 (cw : CallW) (Q : Value → AH → Prop) (rec0 : St → Prop) (t3h : Nat) (t30b : Option Addr) (t30n t30k : Nat) (t31 t32 : Int) (H : AH) : Prop :=
 ifB (decide (t32 < t31)) (
 obA (elemS 11 (.slice t30b t30n t30k) (I t32)) fun h1 i1 =>
 obI .i64 (H.load h1 (i1 + 0)) fun x2 =>
 obI .i64 (H.load h1 (i1 + 1)) fun x3 =>
 obI .i64 (H.load h1 (i1 + 2)) fun x4 =>
 obI .i64 (H.load h1 (i1 + 3)) fun x5 =>
 obI .i64 (H.load h1 (i1 + 4)) fun x6 =>
 obI .i64 (H.load h1 (i1 + 5)) fun x7 =>
 obI .i64 (H.load h1 (i1 + 6)) fun x8 =>
 obI .i64 (H.load h1 (i1 + 7)) fun x9 =>
 obI .i64 (H.load h1 (i1 + 8)) fun x10 =>
 obI .i64 (H.load h1 (i1 + 9)) fun x11 =>
 obI .i64 (H.load h1 (i1 + 10)) fun x12 =>
 letH (H.new 0 [I 0, I 0, I 0, I 0, I 0, I 0, I 0, I 0, I 0, I 0, I 0]) fun H13 =>
 obH (H13.storeN H.next 0 [I x2, I x3, I x4, I x5, I x6, I x7, I x8, I x9, I x10, I x11, I x12]) fun H14 =>
 obI .i64 (H14.load H.next (0 + 0)) fun x15 =>
 obI .i64 (H14.load H.next (0 + 1)) fun x16 =>
 obI .i64 (H14.load H.next (0 + 2)) fun x17 =>
 obI .i64 (H14.load H.next (0 + 3)) fun x18 =>
 obI .i64 (H14.load H.next (0 + 4)) fun x19 =>
 obI .i64 (H14.load H.next (0 + 5)) fun x20 =>
 obI .i64 (H14.load H.next (0 + 6)) fun x21 =>
 obI .i64 (H14.load H.next (0 + 7)) fun x22 =>
 obI .i64 (H14.load H.next (0 + 8)) fun x23 =>
 obI .i64 (H14.load H.next (0 + 9)) fun x24 =>
 obI .i64 (H14.load H.next (0 + 10)) fun x25 =>
 cw 110 ⟨[.agg ⟨[I x15, I x16, I x17, I x18, I x19, I x20, I x21, I x22, I x23, I x24, I x25]⟩]⟩ H14 fun v26 H27 =>
 obI .i64 (some v26) fun x28 =>
 ifB (x28 != 0) (
 Q (I x28) H27) (
 rec0 (f81S0 t3h t30b t30n t30k t31 (IntKind.wrap .i64 (t32 + 1)) H27))) (
 join2 (fun J29 =>
 obL (H.load t3h (0 + 3)) fun b30 n30 k30 =>
 cw 111 ⟨[.slice b30 n30 k30]⟩ H fun v31 H32 =>
 obB (some v31) fun c33 =>
 ifB (!c33) (
 J29 true H32) (
 obI .i64 (H32.load t3h (0 + 1)) fun x34 =>
 cw 74 ⟨[I x34, I 0, I 15]⟩ H32 fun v35 H36 =>
 obB (some v35) fun c37 =>
 ifB (!c37) (
 J29 true H36) (
 obI .i64 (H36.load t3h (0 + 13)) fun x38 =>
 cw 74 ⟨[I x38, I 0, I 1048576]⟩ H36 fun v39 H40 =>
 obB (some v39) fun c41 =>
 ifB (!c41) (
 J29 true H40) (
 obI .i64 (H40.load t3h ((0 + 4) + 0)) fun x42 =>
 obI .i64 (H40.load t3h ((0 + 4) + 1)) fun x43 =>
 obI .i64 (H40.load t3h ((0 + 4) + 2)) fun x44 =>
 letH (H40.new 3 [I x42, I x43, I x44]) fun H45 =>
 cw 112 ⟨[.slice (some ⟨H40.next, 0, none⟩) 1 1]⟩ H45 fun v46 H47 =>
 obI .i64 (some v46) fun x48 =>
 ifB (x48 != 0) (
 J29 true H47) (
 obI .i64 (H47.load t3h ((0 + 7) + 0)) fun x49 =>
 obI .i64 (H47.load t3h ((0 + 7) + 1)) fun x50 =>
 obI .i64 (H47.load t3h ((0 + 7) + 2)) fun x51 =>
 obI .i64 (H47.load t3h ((0 + 7) + 3)) fun x52 =>
 obI .i64 (H47.load t3h ((0 + 7) + 4)) fun x53 =>
 obI .i64 (H47.load t3h ((0 + 7) + 5)) fun x54 =>
 cw 113 ⟨[.agg ⟨[I x49, I x50, I x51, I x52, I x53, I x54]⟩]⟩ H47 fun v55 H56 =>
 obI .i64 (some v55) fun x57 =>
 J29 (x57 != 0) H56))))) fun c58 H59 =>
 ifB c58 (
 Q (I 3) H59) (
 Q (I 0) H59))
theorem f81L0_step {cw : CallW} {Q : Value → AH → Prop} {t3h : Nat} {t30b : Option Addr} {t30n t30k : Nat} {t31 t32 : Int} {H : AH} (h : f81B0 cw Q (LoopP (f81W0 cw Q)) t3h t30b t30n t30k t31 t32 H) : f81L0 cw Q t3h t30b t30n t30k t31 t32 H := LoopP.step (of_eq (by kernel_rfl) h)
def f81R (cw : CallW) (a0_0 a0_1 a0_2 a0_3 a0_4 a0_5 a0_6 a0_7 a0_8 a0_9 a0_10 a0_11 a0_12 a0_13 a0_14 a0_15 a0_16 a0_17 : Int) (a0_18b : Option Addr) (a0_18n a0_18k : Nat) (a0_19b : Option Addr) (a0_19n a0_19k : Nat) (a1_0 a1_1 : Int) (a1_2b : Option Addr) (a1_2n a1_2k : Nat) (a1_3b : Option Addr) (a1_3n a1_3k : Nat) (a1_4 a1_5 a1_6 a1_7 a1_8 a1_9 a1_10 a1_11 a1_12 a1_13 : Int) (H : AH) (Q : Value → AH → Prop) : Prop :=
 letH (H.new 0 [I a0_0, I a0_1, I a0_2, I a0_3, I a0_4, I a0_5, I a0_6, I a0_7, I a0_8, I a0_9, I a0_10, I a0_11, I a0_12, I a0_13, I a0_14, I a0_15, I a0_16, I a0_17, .slice a0_18b a0_18n a0_18k, .slice a0_19b a0_19n a0_19k]) fun H1 =>
 letH (H1.new 0 [I a1_0, I a1_1, .slice a1_2b a1_2n a1_2k, .slice a1_3b a1_3n a1_3k, I a1_4, I a1_5, I a1_6, I a1_7, I a1_8, I a1_9, I a1_10, I a1_11, I a1_12, I a1_13]) fun H2 =>
 obI .i64 (H2.load H1.next (0 + 0)) fun x3 =>
 obI .i64 (H2.load H.next (0 + 1)) fun x4 =>
 cw 74 ⟨[I x3, I 0, I (IntKind.wrap .i64 (x4 - 1))]⟩ H2 fun v5 H6 =>
 obB (some v5) fun c7 =>
 ifB (!c7) (
 Q (I 63) H6) (
 join2 (fun J8 =>
 obL (H6.load H1.next (0 + 2)) fun b9 n9 k9 =>
 cw 74 ⟨[I (n9 : Int), I 1, I 2]⟩ H6 fun v10 H11 =>
 obB (some v10) fun c12 =>
 ifB (!c12) (
 J8 true H11) (
 obL (H11.load H1.next (0 + 3)) fun b13 n13 k13 =>
 obL (H11.load H1.next (0 + 2)) fun b14 n14 k14 =>
 J8 ((n13 : Int) != (n14 : Int)) H11)) fun c15 H16 =>
 ifB c15 (
 Q (I 2) H16) (
 obL (H16.load H1.next (0 + 2)) fun b17 n17 k17 =>
 f81L0 cw Q H1.next b17 n17 k17 (n17 : Int) 0 H16))
def ks108 : Keeps := fun i => match i with
 | _ => none
def f108R (cw : CallW) (a0b : Option Addr) (a0n a0k : Nat) (a1 : Int) (H : AH) (Q : Value → AH → Prop) : Prop :=
 letH (H.new 0 [I a1]) fun H1 =>
 cw 130 ⟨[.slice a0b a0n a0k, .func (.func 131) ⟨[]⟩ ⟨[.pointer (some ⟨H.next, 0, none⟩)]⟩]⟩ H1 fun v2 H3 =>
 obB (some v2) fun c4 =>
 Q (.bool c4) H3
def ks109 : Keeps := fun i => match i with
 | 2001 => some [6]
 | 4001 => some [6]
 | _ => none
def f109R (cw : CallW) (a0 a1 a2 : Int) (H : AH) (Q : Value → AH → Prop) : Prop :=
 join2 (fun J1 =>
 ifB (decide (a0 ≥ a1)) (
 J1 (decide (a0 ≤ a2)) H) (
 J1 false H)) fun c2 H3 =>
 Q (.bool c2) H3
def ks110 : Keeps := fun i => match i with
 | _ => none
def f110R (cw : CallW) (a0_0 a0_1 a0_2 a0_3 a0_4 a0_5 a0_6 a0_7 a0_8 a0_9 a0_10 : Int) (H : AH) (Q : Value → AH → Prop) : Prop :=
 letH (H.new 0 [I a0_0, I a0_1, I a0_2, I a0_3, I a0_4, I a0_5, I a0_6, I a0_7, I a0_8, I a0_9, I a0_10]) fun H1 =>
 obI .i64 (H1.load H.next (0 + 0)) fun x2 =>
 obI .i64 (H1.load H.next (0 + 1)) fun x3 =>
 obI .i64 (H1.load H.next (0 + 2)) fun x4 =>
 obI .i64 (H1.load H.next (0 + 3)) fun x5 =>
 obI .i64 (H1.load H.next (0 + 4)) fun x6 =>
 obI .i64 (H1.load H.next (0 + 5)) fun x7 =>
 obI .i64 (H1.load H.next (0 + 6)) fun x8 =>
 obI .i64 (H1.load H.next (0 + 7)) fun x9 =>
 obI .i64 (H1.load H.next (0 + 8)) fun x10 =>
 obI .i64 (H1.load H.next (0 + 9)) fun x11 =>
 obI .i64 (H1.load H.next (0 + 10)) fun x12 =>
 cw 132 ⟨[.agg ⟨[I x2, I x3, I x4, I x5, I x6, I x7, I x8, I x9, I x10, I x11, I x12]⟩]⟩ H1 fun v13 H14 =>
 obI .i64 (some v13) fun x15 =>
 Q (I x15) H14
def ks111 : Keeps := fun i => match i with
 | 2001 => some [2]
 | 4001 => some [2]
 | _ => none
def f111R (cw : CallW) (a0b : Option Addr) (a0n a0k : Nat) (H : AH) (Q : Value → AH → Prop) : Prop :=
 join2 (fun J1 =>
 ifB (decide ((a0n : Int) ≤ 8)) (
 cw 133 ⟨[.slice a0b a0n a0k, .func (.func 134) ⟨[]⟩ ⟨[]⟩]⟩ H fun v2 H3 =>
 obB (some v2) fun c4 =>
 J1 (!c4) H3) (
 J1 false H)) fun c5 H6 =>
 Q (.bool c5) H6
def ks112 : Keeps := fun i => match i with
 | 4 => some [8, 9, 10]
 | _ => none
def f112_n : Nat := 18
def f112S0 (t8b : Option Addr) (t8n t8k : Nat) (t9 t10 : Int) (H : AH) : St := ((((Tr.leaf.put 8 (.slice t8b t8n t8k)).put 9 (I t9)).put 10 (I t10)), H)
def f112W0 (cw : CallW) (Q : Value → AH → Prop) : (St → Prop) → St → Prop := fun rec0 s =>
 execW Tryz.prog cw ks112 f112_n (cL (cL (cR (cL (cR (cR (bodyOf Tryz.f112))))))) (kLoop ks112 (cL (cL (cR (cL (cR (cR (bodyOf Tryz.f112))))))) rec0 (kBlock ks112 0 (kSeq (execW Tryz.prog cw ks112 f112_n (cR (cR (cR (bodyOf Tryz.f112))))) (kRet Tryz.prog Tryz.f112 Q)))) s
def f112L0 (cw : CallW) (Q : Value → AH → Prop) (t8b : Option Addr) (t8n t8k : Nat) (t9 t10 : Int) (H : AH) : Prop := LoopP (f112W0 cw Q) (f112S0 t8b t8n t8k t9 t10 H)
def f112B0 (cw : CallW) (Q : Value → AH → Prop) (rec0 : St → Prop) (t8b : Option Addr) (t8n t8k : Nat) (t9 t10 : Int) (H : AH) : Prop :=
 ifB (decide (t10 < t9)) (
 obA (elemS 3 (.slice t8b t8n t8k) (I t10)) fun h1 i1 =>
 obI .i64 (H.load h1 (i1 + 0)) fun x2 =>
 obI .i64 (H.load h1 (i1 + 1)) fun x3 =>
 obI .i64 (H.load h1 (i1 + 2)) fun x4 =>
 letH (H.new 0 [I 0, I 0, I 0]) fun H5 =>
 obH (H5.storeN H.next 0 [I x2, I x3, I x4]) fun H6 =>
 obI .i64 (H6.load H.next (0 + 0)) fun x7 =>
 obI .i64 (H6.load H.next (0 + 1)) fun x8 =>
 obI .i64 (H6.load H.next (0 + 2)) fun x9 =>
 cw 136 ⟨[.agg ⟨[I x7, I x8, I x9]⟩]⟩ H6 fun v10 H11 =>
 obB (some v10) fun c12 =>
 ifB (!c12) (
 Q (I 3) H11) (
 rec0 (f112S0 t8b t8n t8k t9 (IntKind.wrap .i64 (t10 + 1)) H11))) (
 Q (I 0) H)
theorem f112L0_step {cw : CallW} {Q : Value → AH → Prop} {t8b : Option Addr} {t8n t8k : Nat} {t9 t10 : Int} {H : AH} (h : f112B0 cw Q (LoopP (f112W0 cw Q)) t8b t8n t8k t9 t10 H) : f112L0 cw Q t8b t8n t8k t9 t10 H := LoopP.step (of_eq (by kernel_rfl) h)
def f112R (cw : CallW) (a0b : Option Addr) (a0n a0k : Nat) (H : AH) (Q : Value → AH → Prop) : Prop :=
 ifB (decide ((a0n : Int) > 4)) (
 Q (I 2) H) (
 f112L0 cw Q a0b a0n a0k (a0n : Int) 0 H)
def ks113 : Keeps := fun i => match i with
 | 2001 => some [1, 44]
 | 2003 => some [71]
 | 4001 => some [44]
 | 4003 => some [71]
 | _ => none
def f113R (cw : CallW) (a0_0 a0_1 a0_2 a0_3 a0_4 a0_5 : Int) (H : AH) (Q : Value → AH → Prop) : Prop :=
 letH (H.new 0 [I a0_0, I a0_1, I a0_2, I a0_3, I a0_4, I a0_5]) fun H1 =>
 join2 (fun J2 =>
 obI .i64 (H1.load H.next (0 + 0)) fun x3 =>
 ifB (decide (x3 < 1)) (
 J2 true H1) (
 obI .i64 (H1.load H.next (0 + 0)) fun x4 =>
 ifB (decide (x4 > 256)) (
 J2 true H1) (
 obI .i64 (H1.load H.next (0 + 1)) fun x5 =>
 ifB (decide (x5 < 0)) (
 J2 true H1) (
 obI .i64 (H1.load H.next (0 + 1)) fun x6 =>
 obI .i64 (H1.load H.next (0 + 0)) fun x7 =>
 ifB (decide (x6 ≥ x7)) (
 J2 true H1) (
 obI .i64 (H1.load H.next (0 + 2)) fun x8 =>
 ifB (decide (x8 < 1)) (
 J2 true H1) (
 obI .i64 (H1.load H.next (0 + 2)) fun x9 =>
 obI .i64 (H1.load H.next (0 + 0)) fun x10 =>
 ifB (decide (x9 > x10)) (
 J2 true H1) (
 obI .i64 (H1.load H.next (0 + 3)) fun x11 =>
 ifB (decide (x11 < 0)) (
 J2 true H1) (
 obI .i64 (H1.load H.next (0 + 3)) fun x12 =>
 J2 (decide (x12 > 256)) H1)))))))) fun c13 H14 =>
 ifB c13 (
 Q (I 3) H14) (
 join2 (fun J15 =>
 obI .i64 (H14.load H.next (0 + 4)) fun x16 =>
 ifB (x16 != 0) (
 obI .i64 (H14.load H.next (0 + 4)) fun x17 =>
 obI .i64 (H14.load H.next (0 + 2)) fun x18 =>
 ifB (decide (x17 < x18)) (
 J15 true H14) (
 obI .i64 (H14.load H.next (0 + 4)) fun x19 =>
 obI .i64 (H14.load H.next (0 + 0)) fun x20 =>
 ifB (decide (x19 > x20)) (
 J15 true H14) (
 obI .i64 (H14.load H.next (0 + 5)) fun x21 =>
 ifB (decide (x21 < 0)) (
 J15 true H14) (
 obI .i64 (H14.load H.next (0 + 5)) fun x22 =>
 J15 (decide (x22 > 16)) H14)))) (
 obI .i64 (H14.load H.next (0 + 5)) fun x23 =>
 ifB (decide (x23 < 0)) (
 J15 true H14) (
 obI .i64 (H14.load H.next (0 + 5)) fun x24 =>
 J15 (decide (x24 > 16)) H14))) fun c25 H26 =>
 ifB c25 (
 Q (I 3) H26) (
 Q (I 0) H26))
def ks130 : Keeps := fun i => match i with
 | _ => none
def f130R (cw : CallW) (a0b : Option Addr) (a0n a0k gh gi : Nat) (H : AH) (Q : Value → AH → Prop) : Prop :=
 cw 153 ⟨[.slice a0b a0n a0k, .func (.func 131) ⟨[]⟩ ⟨[.pointer (some ⟨gh, gi, none⟩)]⟩]⟩ H fun v1 H2 =>
 obI .i64 (some v1) fun x3 =>
 Q (.bool (decide (x3 ≥ 0))) H2
def ks131 : Keeps := fun i => match i with
 | 2001 => some [3]
 | 4001 => some [3]
 | _ => none
def f131R (cw : CallW) (a0 : Int) (g0h g0i : Nat) (H : AH) (Q : Value → AH → Prop) : Prop :=
 join2 (fun J1 =>
 ifB (decide (a0 < 0)) (
 J1 true H) (
 obI .i64 (H.load g0h g0i) fun x2 =>
 J1 (decide (a0 > x2)) H)) fun c3 H4 =>
 Q (.bool c3) H4
def ks132 : Keeps := fun i => match i with
 | 2001 => some [1, 3]
 | 2003 => some [22]
 | 4001 => some [3]
 | 4003 => some [22]
 | _ => none
def f132R (cw : CallW) (a0_0 a0_1 a0_2 a0_3 a0_4 a0_5 a0_6 a0_7 a0_8 a0_9 a0_10 : Int) (H : AH) (Q : Value → AH → Prop) : Prop :=
 letH (H.new 0 [I a0_0, I a0_1, I a0_2, I a0_3, I a0_4, I a0_5, I a0_6, I a0_7, I a0_8, I a0_9, I a0_10]) fun H1 =>
 join2 (fun J2 =>
 obI .i64 (H1.load H.next (0 + 0)) fun x3 =>
 ifB (x3 != 1) (
 obI .i64 (H1.load H.next (0 + 0)) fun x4 =>
 ifB (x4 != 2) (
 J2 true H1) (
 obI .i64 (H1.load H.next (0 + 1)) fun x5 =>
 ifB (decide (x5 < 0)) (
 J2 true H1) (
 obI .i64 (H1.load H.next (0 + 1)) fun x6 =>
 J2 (decide (x6 > 3)) H1))) (
 obI .i64 (H1.load H.next (0 + 1)) fun x7 =>
 ifB (decide (x7 < 0)) (
 J2 true H1) (
 obI .i64 (H1.load H.next (0 + 1)) fun x8 =>
 J2 (decide (x8 > 3)) H1))) fun c9 H10 =>
 ifB c9 (
 Q (I 7) H10) (
 join2 (fun J11 =>
 obI .i64 (H10.load H.next (0 + 1)) fun x12 =>
 ifB (decide (x12 > 0)) (
 obI .i64 (H10.load H.next (0 + 2)) fun x13 =>
 ifB (decide (x13 < 1)) (
 J11 true H10) (
 obI .i64 (H10.load H.next (0 + 2)) fun x14 =>
 ifB (decide (x14 > 8)) (
 J11 true H10) (
 obI .i64 (H10.load H.next (0 + 3)) fun x15 =>
 ifB (decide (x15 < 5)) (
 J11 true H10) (
 obI .i64 (H10.load H.next (0 + 3)) fun x16 =>
 ifB (decide (x16 > 9)) (
 J11 true H10) (
 obI .i64 (H10.load H.next (0 + 4)) fun x17 =>
 ifB (decide (x17 < 1)) (
 J11 true H10) (
 obI .i64 (H10.load H.next (0 + 4)) fun x18 =>
 ifB (decide (x18 > 1000)) (
 J11 true H10) (
 obI .i64 (H10.load H.next ((0 + 5) + 0)) fun x19 =>
 obI .i64 (H10.load H.next ((0 + 5) + 1)) fun x20 =>
 obI .i64 (H10.load H.next ((0 + 5) + 2)) fun x21 =>
 obI .i64 (H10.load H.next ((0 + 5) + 3)) fun x22 =>
 obI .i64 (H10.load H.next ((0 + 5) + 4)) fun x23 =>
 obI .i64 (H10.load H.next ((0 + 5) + 5)) fun x24 =>
 cw 154 ⟨[.agg ⟨[I x19, I x20, I x21, I x22, I x23, I x24]⟩]⟩ H10 fun v25 H26 =>
 obB (some v25) fun c27 =>
 J11 (!c27) H26))))))) (
 obI .i64 (H10.load H.next (0 + 3)) fun x28 =>
 ifB (decide (x28 < 5)) (
 J11 true H10) (
 obI .i64 (H10.load H.next (0 + 3)) fun x29 =>
 ifB (decide (x29 > 9)) (
 J11 true H10) (
 obI .i64 (H10.load H.next (0 + 4)) fun x30 =>
 ifB (decide (x30 < 1)) (
 J11 true H10) (
 obI .i64 (H10.load H.next (0 + 4)) fun x31 =>
 ifB (decide (x31 > 1000)) (
 J11 true H10) (
 obI .i64 (H10.load H.next ((0 + 5) + 0)) fun x32 =>
 obI .i64 (H10.load H.next ((0 + 5) + 1)) fun x33 =>
 obI .i64 (H10.load H.next ((0 + 5) + 2)) fun x34 =>
 obI .i64 (H10.load H.next ((0 + 5) + 3)) fun x35 =>
 obI .i64 (H10.load H.next ((0 + 5) + 4)) fun x36 =>
 obI .i64 (H10.load H.next ((0 + 5) + 5)) fun x37 =>
 cw 154 ⟨[.agg ⟨[I x32, I x33, I x34, I x35, I x36, I x37]⟩]⟩ H10 fun v38 H39 =>
 obB (some v38) fun c40 =>
 J11 (!c40) H39)))))) fun c41 H42 =>
 ifB c41 (
 Q (I 3) H42) (
 Q (I 0) H42))
def ks133 : Keeps := fun i => match i with
 | _ => none
def f133R (cw : CallW) (a0b : Option Addr) (a0n a0k : Nat) (H : AH) (Q : Value → AH → Prop) : Prop :=
 cw 155 ⟨[.slice a0b a0n a0k, .func (.func 134) ⟨[]⟩ ⟨[]⟩]⟩ H fun v1 H2 =>
 obI .i64 (some v1) fun x3 =>
 Q (.bool (decide (x3 ≥ 0))) H2
def ks134 : Keeps := fun i => match i with
 | 2001 => some [2]
 | 4001 => some [2]
 | _ => none
def f134R (cw : CallW) (a0_0 a0_1 a0_2 a0_3 : Int) (H : AH) (Q : Value → AH → Prop) : Prop :=
 letH (H.new 0 [I a0_0, I a0_1, I a0_2, I a0_3]) fun H1 =>
 join2 (fun J2 =>
 obI .i64 (H1.load H.next (0 + 0)) fun x3 =>
 cw 135 ⟨[I x3, I 0, I 15]⟩ H1 fun v4 H5 =>
 obB (some v4) fun c6 =>
 ifB (!c6) (
 J2 true H5) (
 obI .i64 (H5.load H.next (0 + 1)) fun x7 =>
 cw 135 ⟨[I x7, I 0, I 1048576]⟩ H5 fun v8 H9 =>
 obB (some v8) fun c10 =>
 ifB (!c10) (
 J2 true H9) (
 obI .i64 (H9.load H.next (0 + 2)) fun x11 =>
 cw 135 ⟨[I x11, I 0, I 1048576]⟩ H9 fun v12 H13 =>
 obB (some v12) fun c14 =>
 ifB (!c14) (
 J2 true H13) (
 obI .i64 (H13.load H.next (0 + 3)) fun x15 =>
 obI .i64 (H13.load H.next (0 + 2)) fun x16 =>
 cw 135 ⟨[I x15, I (-1048576), I x16]⟩ H13 fun v17 H18 =>
 obB (some v17) fun c19 =>
 J2 (!c19) H18)))) fun c20 H21 =>
 Q (.bool c20) H21
def ks135 : Keeps := fun i => match i with
 | 2001 => some [6]
 | 4001 => some [6]
 | _ => none
def f135R (cw : CallW) (a0 a1 a2 : Int) (H : AH) (Q : Value → AH → Prop) : Prop :=
 join2 (fun J1 =>
 ifB (decide (a0 ≥ a1)) (
 J1 (decide (a0 ≤ a2)) H) (
 J1 false H)) fun c2 H3 =>
 Q (.bool c2) H3
def ks136 : Keeps := fun i => match i with
 | 2001 => some [2]
 | 4001 => some [2]
 | _ => none
def f136R (cw : CallW) (a0_0 a0_1 a0_2 : Int) (H : AH) (Q : Value → AH → Prop) : Prop :=
 letH (H.new 0 [I a0_0, I a0_1, I a0_2]) fun H1 =>
 join2 (fun J2 =>
 obI .i64 (H1.load H.next (0 + 0)) fun x3 =>
 ifB (decide (x3 ≥ 0)) (
 obI .i64 (H1.load H.next (0 + 0)) fun x4 =>
 ifB (decide (x4 ≤ 1048576)) (
 obI .i64 (H1.load H.next (0 + 1)) fun x5 =>
 ifB (decide (x5 ≥ 1)) (
 obI .i64 (H1.load H.next (0 + 1)) fun x6 =>
 ifB (decide (x6 ≤ 64)) (
 obI .i64 (H1.load H.next (0 + 2)) fun x7 =>
 ifB (decide (x7 ≥ 0)) (
 obI .i64 (H1.load H.next (0 + 2)) fun x8 =>
 obI .i64 (H1.load H.next (0 + 1)) fun x9 =>
 J2 (decide (x8 ≤ (IntKind.wrap .i64 (12 * x9)))) H1) (
 J2 false H1)) (
 J2 false H1)) (
 J2 false H1)) (
 J2 false H1)) (
 J2 false H1)) fun c10 H11 =>
 Q (.bool c10) H11
def ks153 : Keeps := fun i => match i with
 | 2 => some [0, 1, 7, 8]
 | _ => none
def f153_n : Nat := 19
def f153S0 (t0b : Option Addr) (t0n t0k t1_c0h t1_c0i : Nat) (t7 t8 : Int) (H : AH) : St := (((((Tr.leaf.put 0 (.slice t0b t0n t0k)).put 1 (.func (.func 131) ⟨[]⟩ ⟨[.pointer (some ⟨t1_c0h, t1_c0i, none⟩)]⟩)).put 7 (I t7)).put 8 (I t8)), H)
def f153W0 (cw : CallW) (Q : Value → AH → Prop) : (St → Prop) → St → Prop := fun rec0 s =>
 execW Tryz.prog cw ks153 f153_n (cL (cL (cR (cL (cR (bodyOf Tryz.f153)))))) (kLoop ks153 (cL (cL (cR (cL (cR (bodyOf Tryz.f153)))))) rec0 (kBlock ks153 0 (kSeq (execW Tryz.prog cw ks153 f153_n (cR (cR (bodyOf Tryz.f153)))) (kRet Tryz.prog Tryz.f153 Q)))) s
def f153L0 (cw : CallW) (Q : Value → AH → Prop) (t0b : Option Addr) (t0n t0k t1_c0h t1_c0i : Nat) (t7 t8 : Int) (H : AH) : Prop := LoopP (f153W0 cw Q) (f153S0 t0b t0n t0k t1_c0h t1_c0i t7 t8 H)
def f153B0 (cw : CallW) (Q : Value → AH → Prop) (rec0 : St → Prop) (t0b : Option Addr) (t0n t0k t1_c0h t1_c0i : Nat) (t7 t8 : Int) (H : AH) : Prop :=
 ifB (decide (t8 < t7)) (
 obA (elemS 1 (.slice t0b t0n t0k) (I t8)) fun h1 i1 =>
 obI .i64 (H.load h1 i1) fun x2 =>
 cw 131 ⟨[I x2, .pointer (some ⟨t1_c0h, t1_c0i, none⟩)]⟩ H fun v3 H4 =>
 obB (some v3) fun c5 =>
 ifB c5 (
 Q (I t8) H4) (
 rec0 (f153S0 t0b t0n t0k t1_c0h t1_c0i t7 (IntKind.wrap .i64 (t8 + 1)) H4))) (
 Q (I (-1)) H)
theorem f153L0_step {cw : CallW} {Q : Value → AH → Prop} {t0b : Option Addr} {t0n t0k t1_c0h t1_c0i : Nat} {t7 t8 : Int} {H : AH} (h : f153B0 cw Q (LoopP (f153W0 cw Q)) t0b t0n t0k t1_c0h t1_c0i t7 t8 H) : f153L0 cw Q t0b t0n t0k t1_c0h t1_c0i t7 t8 H := LoopP.step (of_eq (by kernel_rfl) h)
def f153R (cw : CallW) (a0b : Option Addr) (a0n a0k gh gi : Nat) (H : AH) (Q : Value → AH → Prop) : Prop :=
 f153L0 cw Q a0b a0n a0k gh gi (a0n : Int) 0 H
def ks154 : Keeps := fun i => match i with
 | 2001 => some [1, 3]
 | 2002 => some [2]
 | 4001 => some [3]
 | 4002 => some [2]
 | _ => none
def f154R (cw : CallW) (a0_0 a0_1 a0_2 a0_3 a0_4 a0_5 : Int) (H : AH) (Q : Value → AH → Prop) : Prop :=
 letH (H.new 0 [I a0_0, I a0_1, I a0_2, I a0_3, I a0_4, I a0_5]) fun H1 =>
 join2 (fun J2 =>
 obI .i64 (H1.load H.next (0 + 2)) fun x3 =>
 cw 165 ⟨[I x3, I 1, I 1000]⟩ H1 fun v4 H5 =>
 obB (some v4) fun c6 =>
 ifB c6 (
 obI .i64 (H5.load H.next (0 + 3)) fun x7 =>
 cw 165 ⟨[I x7, I 1, I 1000]⟩ H5 fun v8 H9 =>
 obB (some v8) fun c10 =>
 ifB c10 (
 obI .i64 (H9.load H.next (0 + 4)) fun x11 =>
 cw 165 ⟨[I x11, I 0, I 1000]⟩ H9 fun v12 H13 =>
 obB (some v12) fun c14 =>
 J2 c14 H13) (
 J2 false H9)) (
 J2 false H5)) fun c15 H16 =>
 join2 (fun J17 =>
 obI .i64 (H16.load H.next (0 + 0)) fun x18 =>
 cw 166 ⟨[I x18]⟩ H16 fun v19 H20 =>
 obB (some v19) fun c21 =>
 ifB c21 (
 obI .i64 (H20.load H.next (0 + 1)) fun x22 =>
 cw 165 ⟨[I x22, I 1, I 64]⟩ H20 fun v23 H24 =>
 obB (some v23) fun c25 =>
 ifB c25 (
 ifB c15 (
 obI .i64 (H24.load H.next (0 + 5)) fun x26 =>
 cw 165 ⟨[I x26, I 1, I 32]⟩ H24 fun v27 H28 =>
 obB (some v27) fun c29 =>
 J17 c29 H28) (
 J17 false H24)) (
 J17 false H24)) (
 J17 false H20)) fun c30 H31 =>
 Q (.bool c30) H31
def ks155 : Keeps := fun i => match i with
 | 2 => some [0, 1, 7, 8]
 | _ => none
def f155_n : Nat := 19
def f155S0 (t0b : Option Addr) (t0n t0k : Nat) (t7 t8 : Int) (H : AH) : St := (((((Tr.leaf.put 0 (.slice t0b t0n t0k)).put 1 (.func (.func 134) ⟨[]⟩ ⟨[]⟩)).put 7 (I t7)).put 8 (I t8)), H)
def f155W0 (cw : CallW) (Q : Value → AH → Prop) : (St → Prop) → St → Prop := fun rec0 s =>
 execW Tryz.prog cw ks155 f155_n (cL (cL (cR (cL (cR (bodyOf Tryz.f155)))))) (kLoop ks155 (cL (cL (cR (cL (cR (bodyOf Tryz.f155)))))) rec0 (kBlock ks155 0 (kSeq (execW Tryz.prog cw ks155 f155_n (cR (cR (bodyOf Tryz.f155)))) (kRet Tryz.prog Tryz.f155 Q)))) s
def f155L0 (cw : CallW) (Q : Value → AH → Prop) (t0b : Option Addr) (t0n t0k : Nat) (t7 t8 : Int) (H : AH) : Prop := LoopP (f155W0 cw Q) (f155S0 t0b t0n t0k t7 t8 H)
def f155B0 (cw : CallW) (Q : Value → AH → Prop) (rec0 : St → Prop) (t0b : Option Addr) (t0n t0k : Nat) (t7 t8 : Int) (H : AH) : Prop :=
 ifB (decide (t8 < t7)) (
 obA (elemS 4 (.slice t0b t0n t0k) (I t8)) fun h1 i1 =>
 obI .i64 (H.load h1 (i1 + 0)) fun x2 =>
 obI .i64 (H.load h1 (i1 + 1)) fun x3 =>
 obI .i64 (H.load h1 (i1 + 2)) fun x4 =>
 obI .i64 (H.load h1 (i1 + 3)) fun x5 =>
 cw 134 ⟨[.agg ⟨[I x2, I x3, I x4, I x5]⟩]⟩ H fun v6 H7 =>
 obB (some v6) fun c8 =>
 ifB c8 (
 Q (I t8) H7) (
 rec0 (f155S0 t0b t0n t0k t7 (IntKind.wrap .i64 (t8 + 1)) H7))) (
 Q (I (-1)) H)
theorem f155L0_step {cw : CallW} {Q : Value → AH → Prop} {t0b : Option Addr} {t0n t0k : Nat} {t7 t8 : Int} {H : AH} (h : f155B0 cw Q (LoopP (f155W0 cw Q)) t0b t0n t0k t7 t8 H) : f155L0 cw Q t0b t0n t0k t7 t8 H := LoopP.step (of_eq (by kernel_rfl) h)
def f155R (cw : CallW) (a0b : Option Addr) (a0n a0k : Nat) (H : AH) (Q : Value → AH → Prop) : Prop :=
 f155L0 cw Q a0b a0n a0k (a0n : Int) 0 H
def ks165 : Keeps := fun i => match i with
 | 2001 => some [6]
 | 4001 => some [6]
 | _ => none
def f165R (cw : CallW) (a0 a1 a2 : Int) (H : AH) (Q : Value → AH → Prop) : Prop :=
 join2 (fun J1 =>
 ifB (decide (a0 ≥ a1)) (
 J1 (decide (a0 ≤ a2)) H) (
 J1 false H)) fun c2 H3 =>
 Q (.bool c2) H3
def ks166 : Keeps := fun i => match i with
 | 2001 => some [2]
 | 4001 => some [2]
 | _ => none
def f166R (cw : CallW) (a0 : Int) (H : AH) (Q : Value → AH → Prop) : Prop :=
 join2 (fun J1 =>
 ifB (decide (a0 ≥ 5)) (
 J1 (decide (a0 ≤ 9)) H) (
 J1 false H)) fun c2 H3 =>
 Q (.bool c2) H3
end AM
end Go.Proofs.YtemcmblcogljkaaGreatDoor

