/-  -/
import Derived.Test.YtemcmblcogljkaaGreatDoorMb
set_option linter.all false
set_option linter.unusedSimpArgs false
set_option linter.unusedVariables false
set_option maxRecDepth 100000
namespace Go.Proofs.YtemcmblcogljkaaGreatDoor
namespace AM
open Go
def ks43 : Keeps := fun i => match i with
 | 14 => some [1, 6]
 | 2002 => some [1, 3, 12]
 | 2004 => some [1, 3, 21]
 | 2006 => some [1, 3, 32]
 | 2008 => some [1, 81]
 | 4002 => some [12]
 | 4004 => some [21]
 | 4006 => some [32]
 | 4008 => some [81]
 | _ => none
def f43_n : Nat := 158
def f43S0 (t1h : Nat) (t6 : Int) (H : AH) : St := (((Tr.leaf.put 1 (.pointer (some ⟨t1h, 0, none⟩))).put 6 (I t6)), H)
def f43W0 (cw : CallW) (Q : Value → AH → Prop) : (St → Prop) → St → Prop := fun rec0 s =>
 execW Tryz.prog cw ks43 f43_n (cL (cL (cR (cL (cR (cR (cR (cR (bodyOf Tryz.f43))))))))) (kLoop ks43 (cL (cL (cR (cL (cR (cR (cR (cR (bodyOf Tryz.f43))))))))) rec0 (kBlock ks43 1 (kSeq (execW Tryz.prog cw ks43 f43_n (cR (cR (cR (cR (cR (bodyOf Tryz.f43))))))) (kRet Tryz.prog Tryz.f43 Q)))) s
def f43L0 (cw : CallW) (Q : Value → AH → Prop) (t1h : Nat) (t6 : Int) (H : AH) : Prop := LoopP (f43W0 cw Q) (f43S0 t1h t6 H)
def f43B0 (cw : CallW) (Q : Value → AH → Prop) (rec0 : St → Prop) (t1h : Nat) (t6 : Int) (H : AH) : Prop :=
 obL (H.load t1h (0 + 19)) fun b1 n1 k1 =>
 ifB (decide (t6 < (n1 : Int))) (
 obI .i64 (H.load t1h (0 + 0)) fun x2 =>
 obI .i64 (H.load t1h (0 + 1)) fun x3 =>
 obI .i64 (H.load t1h (0 + 2)) fun x4 =>
 obI .i64 (H.load t1h (0 + 3)) fun x5 =>
 obI .i64 (H.load t1h (0 + 4)) fun x6 =>
 obI .i64 (H.load t1h (0 + 5)) fun x7 =>
 obI .i64 (H.load t1h (0 + 6)) fun x8 =>
 obI .i64 (H.load t1h (0 + 7)) fun x9 =>
 obI .i64 (H.load t1h (0 + 8)) fun x10 =>
 obI .i64 (H.load t1h (0 + 9)) fun x11 =>
 obI .i64 (H.load t1h (0 + 10)) fun x12 =>
 obI .i64 (H.load t1h (0 + 11)) fun x13 =>
 obI .i64 (H.load t1h (0 + 12)) fun x14 =>
 obI .i64 (H.load t1h (0 + 13)) fun x15 =>
 obI .i64 (H.load t1h (0 + 14)) fun x16 =>
 obI .i64 (H.load t1h (0 + 15)) fun x17 =>
 obI .i64 (H.load t1h (0 + 16)) fun x18 =>
 obI .i64 (H.load t1h (0 + 17)) fun x19 =>
 obL (H.load t1h (0 + 18)) fun b20 n20 k20 =>
 obL (H.load t1h (0 + 19)) fun b21 n21 k21 =>
 obL (H.load t1h (0 + 19)) fun b22 n22 k22 =>
 obA (elemS 14 (.slice b22 n22 k22) (I t6)) fun h23 i23 =>
 obI .i64 (H.load h23 (i23 + 0)) fun x24 =>
 obI .i64 (H.load h23 (i23 + 1)) fun x25 =>
 obL (H.load h23 (i23 + 2)) fun b26 n26 k26 =>
 obL (H.load h23 (i23 + 3)) fun b27 n27 k27 =>
 obI .i64 (H.load h23 (i23 + 4)) fun x28 =>
 obI .i64 (H.load h23 (i23 + 5)) fun x29 =>
 obI .i64 (H.load h23 (i23 + 6)) fun x30 =>
 obI .i64 (H.load h23 (i23 + 7)) fun x31 =>
 obI .i64 (H.load h23 (i23 + 8)) fun x32 =>
 obI .i64 (H.load h23 (i23 + 9)) fun x33 =>
 obI .i64 (H.load h23 (i23 + 10)) fun x34 =>
 obI .i64 (H.load h23 (i23 + 11)) fun x35 =>
 obI .i64 (H.load h23 (i23 + 12)) fun x36 =>
 obI .i64 (H.load h23 (i23 + 13)) fun x37 =>
 cw 68 ⟨[.agg ⟨[I x2, I x3, I x4, I x5, I x6, I x7, I x8, I x9, I x10, I x11, I x12, I x13, I x14, I x15, I x16, I x17, I x18, I x19, .slice b20 n20 k20, .slice b21 n21 k21]⟩, .agg ⟨[I x24, I x25, .slice b26 n26 k26, .slice b27 n27 k27, I x28, I x29, I x30, I x31, I x32, I x33, I x34, I x35, I x36, I x37]⟩]⟩ H fun v38 H39 =>
 obI .i64 (some v38) fun x40 =>
 ifB (x40 != 0) (
 Q (I x40) H39) (
 rec0 (f43S0 t1h (IntKind.wrap .i64 (t6 + 1)) H39))) (
 Q (I 0) H)
theorem f43L0_step {cw : CallW} {Q : Value → AH → Prop} {t1h : Nat} {t6 : Int} {H : AH} (h : f43B0 cw Q (LoopP (f43W0 cw Q)) t1h t6 H) : f43L0 cw Q t1h t6 H := LoopP.step (of_eq (by kernel_rfl) h)
def f43R (cw : CallW) (a0_0 a0_1 a0_2 a0_3 a0_4 a0_5 a0_6 a0_7 a0_8 a0_9 a0_10 a0_11 a0_12 a0_13 a0_14 a0_15 a0_16 a0_17 : Int) (a0_18b : Option Addr) (a0_18n a0_18k : Nat) (a0_19b : Option Addr) (a0_19n a0_19k : Nat) (H : AH) (Q : Value → AH → Prop) : Prop :=
 letH (H.new 0 [I a0_0, I a0_1, I a0_2, I a0_3, I a0_4, I a0_5, I a0_6, I a0_7, I a0_8, I a0_9, I a0_10, I a0_11, I a0_12, I a0_13, I a0_14, I a0_15, I a0_16, I a0_17, .slice a0_18b a0_18n a0_18k, .slice a0_19b a0_19n a0_19k]) fun H1 =>
 cw 62 ⟨[I 1]⟩ H1 fun v2 H3 =>
 obV (tupV 0 v2) fun v5 =>
 obN 2 v5 (
 obL (cellAt v5 0) fun b6 n6 k6 =>
 obL (cellAt v5 1) fun b7 n7 k7 =>
 obI .i64 (tupV 1 v2) fun x8 =>
 letH (H3.new 0 [.slice none 0 0, .slice none 0 0]) fun H9 =>
 obH (H9.storeN H3.next 0 [.slice b6 n6 k6, .slice b7 n7 k7]) fun H10 =>
 join2 (fun J11 =>
 obI .i64 (H10.load H.next (0 + 1)) fun x12 =>
 ifB (decide (x12 < 1)) (
 J11 true H10) (
 obI .i64 (H10.load H.next (0 + 1)) fun x13 =>
 J11 (decide (x13 > 3)) H10)) fun c14 H15 =>
 ifB c14 (
 Q (I 63) H15) (
 join2 (fun J16 =>
 obL (H15.load H.next (0 + 19)) fun b17 n17 k17 =>
 ifB (decide ((n17 : Int) < 1)) (
 J16 true H15) (
 obL (H15.load H.next (0 + 19)) fun b18 n18 k18 =>
 J16 (decide ((n18 : Int) > 4)) H15)) fun c19 H20 =>
 ifB c19 (
 Q (I 64) H20) (
 join2 (fun J21 =>
 obI .i64 (H20.load H.next (0 + 0)) fun x22 =>
 ifB (decide (x22 < 0)) (
 J21 true H20) (
 obI .i64 (H20.load H.next (0 + 0)) fun x23 =>
 ifB (decide (x23 > 1048576)) (
 J21 true H20) (
 obI .i64 (H20.load H.next (0 + 2)) fun x24 =>
 ifB (decide (x24 < 1)) (
 J21 true H20) (
 obI .i64 (H20.load H.next (0 + 2)) fun x25 =>
 ifB (decide (x25 > 12)) (
 J21 true H20) (
 obI .i64 (H20.load H.next (0 + 3)) fun x26 =>
 ifB (decide (x26 < 1)) (
 J21 true H20) (
 obI .i64 (H20.load H.next (0 + 3)) fun x27 =>
 ifB (decide (x27 > 1000)) (
 J21 true H20) (
 obI .i64 (H20.load H.next (0 + 4)) fun x28 =>
 ifB (decide (x28 < 1)) (
 J21 true H20) (
 obI .i64 (H20.load H.next (0 + 4)) fun x29 =>
 ifB (decide (x29 > 1000)) (
 J21 true H20) (
 obI .i64 (H20.load H.next (0 + 5)) fun x30 =>
 ifB (decide (x30 < 1)) (
 J21 true H20) (
 obI .i64 (H20.load H.next (0 + 5)) fun x31 =>
 J21 (decide (x31 > 32)) H20)))))))))) fun c32 H33 =>
 ifB c32 (
 Q (I 3) H33) (
 join2 (fun J34 =>
 obI .i64 (H33.load H.next (0 + 0)) fun x35 =>
 obI .i64 (H33.load H.next (0 + 1)) fun x36 =>
 obI .i64 (H33.load H.next (0 + 2)) fun x37 =>
 obI .i64 (H33.load H.next (0 + 3)) fun x38 =>
 obI .i64 (H33.load H.next (0 + 4)) fun x39 =>
 obI .i64 (H33.load H.next (0 + 5)) fun x40 =>
 obI .i64 (H33.load H.next (0 + 6)) fun x41 =>
 obI .i64 (H33.load H.next (0 + 7)) fun x42 =>
 obI .i64 (H33.load H.next (0 + 8)) fun x43 =>
 obI .i64 (H33.load H.next (0 + 9)) fun x44 =>
 obI .i64 (H33.load H.next (0 + 10)) fun x45 =>
 obI .i64 (H33.load H.next (0 + 11)) fun x46 =>
 obI .i64 (H33.load H.next (0 + 12)) fun x47 =>
 obI .i64 (H33.load H.next (0 + 13)) fun x48 =>
 obI .i64 (H33.load H.next (0 + 14)) fun x49 =>
 obI .i64 (H33.load H.next (0 + 15)) fun x50 =>
 obI .i64 (H33.load H.next (0 + 16)) fun x51 =>
 obI .i64 (H33.load H.next (0 + 17)) fun x52 =>
 obL (H33.load H.next (0 + 18)) fun b53 n53 k53 =>
 obL (H33.load H.next (0 + 19)) fun b54 n54 k54 =>
 cw 64 ⟨[.agg ⟨[I x35, I x36, I x37, I x38, I x39, I x40, I x41, I x42, I x43, I x44, I x45, I x46, I x47, I x48, I x49, I x50, I x51, I x52, .slice b53 n53 k53, .slice b54 n54 k54]⟩]⟩ H33 fun v55 H56 =>
 obN 4 v55 (
 obI .i64 (cellAt v55 0) fun x57 =>
 obI .i64 (cellAt v55 1) fun x58 =>
 obI .i64 (cellAt v55 2) fun x59 =>
 obL (cellAt v55 3) fun b60 n60 k60 =>
 cw 63 ⟨[.agg ⟨[I x57, I x58, I x59, .slice b60 n60 k60]⟩]⟩ H56 fun v61 H62 =>
 obI .i64 (some v61) fun x63 =>
 ifB (x63 != 0) (
 J34 true H62) (
 obI .i64 (H62.load H.next ((0 + 9) + 0)) fun x64 =>
 obI .i64 (H62.load H.next ((0 + 9) + 1)) fun x65 =>
 obI .i64 (H62.load H.next ((0 + 9) + 2)) fun x66 =>
 cw 65 ⟨[.agg ⟨[I x64, I x65, I x66]⟩]⟩ H62 fun v67 H68 =>
 obI .i64 (some v67) fun x69 =>
 ifB (x69 != 0) (
 J34 true H68) (
 obI .i64 (H68.load H.next ((0 + 12) + 0)) fun x70 =>
 obI .i64 (H68.load H.next ((0 + 12) + 1)) fun x71 =>
 obI .i64 (H68.load H.next ((0 + 12) + 2)) fun x72 =>
 obL (H68.load H3.next (0 + 0)) fun b73 n73 k73 =>
 obL (H68.load H3.next (0 + 1)) fun b74 n74 k74 =>
 cw 66 ⟨[.agg ⟨[I x70, I x71, I x72]⟩, .agg ⟨[.slice b73 n73 k73, .slice b74 n74 k74]⟩]⟩ H68 fun v75 H76 =>
 obI .i64 (some v75) fun x77 =>
 ifB (x77 != 0) (
 J34 true H76) (
 obI .i64 (H76.load H.next ((0 + 15) + 0)) fun x78 =>
 obI .i64 (H76.load H.next ((0 + 15) + 1)) fun x79 =>
 obI .i64 (H76.load H.next ((0 + 15) + 2)) fun x80 =>
 obI .i64 (H76.load H.next ((0 + 15) + 1)) fun x81 =>
 obI .i64 (H76.load H.next ((0 + 15) + 2)) fun x82 =>
 obB (aBin Tryz.prog .neq 33 (.tmp 101) (.tmp 108) (.agg ⟨[I x78, I x79, I x80]⟩) (.agg ⟨[I 0, I x81, I x82]⟩)) fun c83 =>
 ifB c83 (
 J34 true H76) (
 obI .i64 (H76.load H.next ((0 + 15) + 1)) fun x84 =>
 ifB (decide (x84 < 0)) (
 J34 true H76) (
 obI .i64 (H76.load H.next ((0 + 15) + 1)) fun x85 =>
 ifB (decide (x85 > 256)) (
 J34 true H76) (
 obI .i64 (H76.load H.next ((0 + 15) + 2)) fun x86 =>
 ifB (decide (x86 < 0)) (
 J34 true H76) (
 obI .i64 (H76.load H.next ((0 + 15) + 2)) fun x87 =>
 J34 (decide (x87 > 256)) H76))))))))) fun c88 H89 =>
 ifB c88 (
 Q (I 3) H89) (
 obL (H89.load H.next (0 + 18)) fun b90 n90 k90 =>
 cw 67 ⟨[.slice b90 n90 k90]⟩ H89 fun v91 H92 =>
 obI .i64 (some v91) fun x93 =>
 ifB (x93 != 0) (
 Q (I x93) H92) (
 f43L0 cw Q H.next 0 H92))))))
def ks44 : Keeps := fun i => match i with
 | 2001 => some [2]
 | 4001 => some [2]
 | _ => none
def f44R (cw : CallW) (a0 : Int) (H : AH) (Q : Value → AH → Prop) : Prop :=
 join2 (fun J1 =>
 ifB (decide (a0 ≥ (-1048576))) (
 J1 (decide (a0 ≤ 1048576)) H) (
 J1 false H)) fun c2 H3 =>
 Q (.bool c2) H3
def ks62 : Keeps := fun i => match i with
 | 2001 => some [0, 2, 9]
 | 4001 => some [9]
 | _ => none
def f62R (cw : CallW) (a0 : Int) (H : AH) (Q : Value → AH → Prop) : Prop :=
 letH (H.new 0 [.slice none 0 0, .slice none 0 0]) fun H1 =>
 join2 (fun J2 =>
 ifB (decide (a0 < 1)) (
 J2 true H1) (
 J2 (decide (a0 > 3)) H1)) fun c3 H4 =>
 ifB c3 (
 obH (H4.storeN H.next 0 [.slice none 0 0, .slice none 0 0]) fun H5 =>
 obL (H5.load H.next (0 + 0)) fun b6 n6 k6 =>
 obL (H5.load H.next (0 + 1)) fun b7 n7 k7 =>
 Q (.tuple ⟨[.agg ⟨[.slice b6 n6 k6, .slice b7 n7 k7]⟩, I 3]⟩) H5) (
 obG (makeV 1 8 [I 0] H4 (I a0) (I a0)) fun b8 n8 k8 H9 =>
 obG (makeV 1 8 [I 0] H9 (I a0) (I a0)) fun b10 n10 k10 H11 =>
 obH (H11.storeN H.next 0 [.slice b8 n8 k8, .slice b10 n10 k10]) fun H12 =>
 obL (H12.load H.next (0 + 0)) fun b13 n13 k13 =>
 obL (H12.load H.next (0 + 1)) fun b14 n14 k14 =>
 Q (.tuple ⟨[.agg ⟨[.slice b13 n13 k13, .slice b14 n14 k14]⟩, I 0]⟩) H12)
def ks63 : Keeps := fun i => match i with
 | 6 => some [1, 3]
 | 2001 => some [1, 32]
 | 2009 => some [1, 3, 114]
 | 4001 => some [32]
 | 4009 => some [114]
 | _ => none
def f63_n : Nat := 115
def f63S0 (t1h : Nat) (t3 : Int) (H : AH) : St := (((Tr.leaf.put 1 (.pointer (some ⟨t1h, 0, none⟩))).put 3 (I t3)), H)
def f63W0 (cw : CallW) (Q : Value → AH → Prop) : (St → Prop) → St → Prop := fun rec0 s =>
 execW Tryz.prog cw ks63 f63_n (cL (cL (cR (cL (cR (cR (cR (bodyOf Tryz.f63)))))))) (kLoop ks63 (cL (cL (cR (cL (cR (cR (cR (bodyOf Tryz.f63)))))))) rec0 (kBlock ks63 0 (kSeq (execW Tryz.prog cw ks63 f63_n (cR (cR (cR (cR (bodyOf Tryz.f63)))))) (kRet Tryz.prog Tryz.f63 Q)))) s
def f63L0 (cw : CallW) (Q : Value → AH → Prop) (t1h : Nat) (t3 : Int) (H : AH) : Prop := LoopP (f63W0 cw Q) (f63S0 t1h t3 H)
def f63B0 (cw : CallW) (Q : Value → AH → Prop) (rec0 : St → Prop) (t1h : Nat) (t3 : Int) (H : AH) : Prop :=
 obL (H.load t1h (0 + 3)) fun b1 n1 k1 =>
 ifB (decide (t3 < (n1 : Int))) (
 obL (H.load t1h (0 + 3)) fun b2 n2 k2 =>
 obA (elemS 4 (.slice b2 n2 k2) (I t3)) fun h3 i3 =>
 obI .i64 (H.load h3 (i3 + 0)) fun x4 =>
 obI .i64 (H.load h3 (i3 + 1)) fun x5 =>
 obI .i64 (H.load h3 (i3 + 2)) fun x6 =>
 obI .i64 (H.load h3 (i3 + 3)) fun x7 =>
 letH (H.new 0 [I 0, I 0, I 0, I 0]) fun H8 =>
 obH (H8.storeN H.next 0 [I x4, I x5, I x6, I x7]) fun H9 =>
 join2 (fun J10 =>
 obI .i64 (H9.load H.next (0 + 0)) fun x11 =>
 ifB (decide (x11 < 0)) (
 J10 true H9) (
 obI .i64 (H9.load H.next (0 + 0)) fun x12 =>
 ifB (decide (x12 ≥ 65536)) (
 J10 true H9) (
 obI .i64 (H9.load H.next (0 + 3)) fun x13 =>
 ifB (decide (x13 < 0)) (
 J10 true H9) (
 obI .i64 (H9.load H.next (0 + 3)) fun x14 =>
 obI .i64 (H9.load t1h (0 + 1)) fun x15 =>
 ifB (decide (x14 ≥ x15)) (
 J10 true H9) (
 obI .i64 (H9.load H.next (0 + 1)) fun x16 =>
 obI .i64 (H9.load H.next (0 + 0)) fun x17 =>
 obI .i64 (H9.load H.next (0 + 3)) fun x18 =>
 obI .i64 (H9.load t1h (0 + 0)) fun x19 =>
 cw 93 ⟨[I x17, I x18, I x19]⟩ H9 fun v20 H21 =>
 obI .i64 (some v20) fun x22 =>
 ifB (x16 != x22) (
 obE1 (H21.load H.next (0 + 1)) (I x16) (
 J10 true H21)) (
 obI .i64 (H21.load H.next (0 + 2)) fun x23 =>
 ifB (decide (x23 < 0)) (
 obE1 (H21.load H.next (0 + 1)) (I x16) (
 J10 true H21)) (
 obI .i64 (H21.load H.next (0 + 2)) fun x24 =>
 ifB (decide (x24 > 2097152)) (
 obE1 (H21.load H.next (0 + 1)) (I x16) (
 J10 true H21)) (
 obL (H21.load t1h (0 + 3)) fun b25 n25 k25 =>
 obL (sliceV 4 H21 (.slice b25 n25 k25) none (some (I t3))) fun b26 n26 k26 =>
 obI .i64 (H21.load H.next (0 + 0)) fun x27 =>
 cw 94 ⟨[.slice b26 n26 k26, I x27]⟩ H21 fun v28 H29 =>
 obB (some v28) fun c30 =>
 ifB c30 (
 obE1 (H21.load H.next (0 + 1)) (I x16) (
 J10 true H29)) (
 ifB (decide (t3 > 0)) (
 obL (H29.load t1h (0 + 3)) fun b31 n31 k31 =>
 obA (elemS 4 (.slice b31 n31 k31) (I (IntKind.wrap .i64 (t3 - 1)))) fun h32 i32 =>
 obI .i64 (H29.load h32 (i32 + 0)) fun x33 =>
 obI .i64 (H29.load h32 (i32 + 1)) fun x34 =>
 obI .i64 (H29.load h32 (i32 + 2)) fun x35 =>
 obI .i64 (H29.load h32 (i32 + 3)) fun x36 =>
 obI .i64 (H29.load H.next (0 + 0)) fun x37 =>
 obI .i64 (H29.load H.next (0 + 1)) fun x38 =>
 obI .i64 (H29.load H.next (0 + 2)) fun x39 =>
 obI .i64 (H29.load H.next (0 + 3)) fun x40 =>
 cw 95 ⟨[.agg ⟨[I x33, I x34, I x35, I x36]⟩, .agg ⟨[I x37, I x38, I x39, I x40]⟩]⟩ H29 fun v41 H42 =>
 obB (some v41) fun c43 =>
 obE1 (H21.load H.next (0 + 1)) (I x16) (
 J10 (!c43) H42)) (
 obE1 (H21.load H.next (0 + 1)) (I x16) (
 J10 false H29))))))))))) fun c44 H45 =>
 ifB c44 (
 Q (I 1) H45) (
 rec0 (f63S0 t1h (IntKind.wrap .i64 (t3 + 1)) H45))) (
 Q (I 0) H)
theorem f63L0_step {cw : CallW} {Q : Value → AH → Prop} {t1h : Nat} {t3 : Int} {H : AH} (h : f63B0 cw Q (LoopP (f63W0 cw Q)) t1h t3 H) : f63L0 cw Q t1h t3 H := LoopP.step (of_eq (by kernel_rfl) h)
def f63R (cw : CallW) (a0_0 a0_1 a0_2 : Int) (a0_3b : Option Addr) (a0_3n a0_3k : Nat) (H : AH) (Q : Value → AH → Prop) : Prop :=
 letH (H.new 0 [I a0_0, I a0_1, I a0_2, .slice a0_3b a0_3n a0_3k]) fun H1 =>
 join2 (fun J2 =>
 obI .i64 (H1.load H.next (0 + 0)) fun x3 =>
 ifB (decide (x3 < 1)) (
 J2 true H1) (
 obI .i64 (H1.load H.next (0 + 0)) fun x4 =>
 ifB (decide (x4 > 64)) (
 J2 true H1) (
 obI .i64 (H1.load H.next (0 + 1)) fun x5 =>
 ifB (decide (x5 < 1)) (
 J2 true H1) (
 obI .i64 (H1.load H.next (0 + 1)) fun x6 =>
 ifB (decide (x6 > 32)) (
 J2 true H1) (
 obI .i64 (H1.load H.next (0 + 2)) fun x7 =>
 ifB (decide (x7 < 0)) (
 J2 true H1) (
 obI .i64 (H1.load H.next (0 + 2)) fun x8 =>
 J2 (decide (x8 > 1000)) H1)))))) fun c9 H10 =>
 ifB c9 (
 Q (I 3) H10) (
 obL (H10.load H.next (0 + 3)) fun b11 n11 k11 =>
 ifB (decide ((n11 : Int) > 16)) (
 Q (I 2) H10) (
 f63L0 cw Q H.next 0 H10))
def ks64 : Keeps := fun i => match i with
 | _ => none
def f64R (cw : CallW) (a0_0 a0_1 a0_2 a0_3 a0_4 a0_5 a0_6 a0_7 a0_8 a0_9 a0_10 a0_11 a0_12 a0_13 a0_14 a0_15 a0_16 a0_17 : Int) (a0_18b : Option Addr) (a0_18n a0_18k : Nat) (a0_19b : Option Addr) (a0_19n a0_19k : Nat) (H : AH) (Q : Value → AH → Prop) : Prop :=
 letH (H.new 0 [I a0_0, I a0_1, I a0_2, I a0_3, I a0_4, I a0_5, I a0_6, I a0_7, I a0_8, I a0_9, I a0_10, I a0_11, I a0_12, I a0_13, I a0_14, I a0_15, I a0_16, I a0_17, .slice a0_18b a0_18n a0_18k, .slice a0_19b a0_19n a0_19k]) fun H1 =>
 letH (H1.new 0 [I 0, I 0, I 0, .slice none 0 0]) fun H2 =>
 obI .i64 (H2.load H.next (0 + 6)) fun x3 =>
 obI .i64 (H2.load H.next (0 + 7)) fun x4 =>
 obI .i64 (H2.load H.next (0 + 8)) fun x5 =>
 obH (H2.storeN H1.next 0 [I x3, I x4, I x5, .slice none 0 0]) fun H6 =>
 obI .i64 (H6.load H1.next (0 + 0)) fun x7 =>
 obI .i64 (H6.load H1.next (0 + 1)) fun x8 =>
 obI .i64 (H6.load H1.next (0 + 2)) fun x9 =>
 obL (H6.load H1.next (0 + 3)) fun b10 n10 k10 =>
 Q (.agg ⟨[I x7, I x8, I x9, .slice b10 n10 k10]⟩) H6
def ks65 : Keeps := fun i => match i with
 | 2001 => some [18]
 | 4001 => some [18]
 | _ => none
def f65R (cw : CallW) (a0_0 a0_1 a0_2 : Int) (H : AH) (Q : Value → AH → Prop) : Prop :=
 letH (H.new 0 [I a0_0, I a0_1, I a0_2]) fun H1 =>
 join2 (fun J2 =>
 obI .i64 (H1.load H.next (0 + 0)) fun x3 =>
 cw 96 ⟨[I x3]⟩ H1 fun v4 H5 =>
 obB (some v4) fun c6 =>
 ifB (!c6) (
 J2 true H5) (
 obI .i64 (H5.load H.next (0 + 1)) fun x7 =>
 cw 96 ⟨[I x7]⟩ H5 fun v8 H9 =>
 obB (some v8) fun c10 =>
 ifB (!c10) (
 J2 true H9) (
 obI .i64 (H9.load H.next (0 + 2)) fun x11 =>
 cw 96 ⟨[I x11]⟩ H9 fun v12 H13 =>
 obB (some v12) fun c14 =>
 J2 (!c14) H13))) fun c15 H16 =>
 ifB c15 (
 Q (I 3) H16) (
 Q (I 0) H16)
def ks66 : Keeps := fun i => match i with
 | 6 => some [3, 5]
 | 2001 => some [3, 33]
 | 2003 => some [3, 52]
 | 2008 => some [3, 5, 89]
 | 4001 => some [33]
 | 4003 => some [52]
 | 4008 => some [89]
 | _ => none
def f66_n : Nat := 90
def f66S0 (t3h : Nat) (t5 : Int) (H : AH) : St := (((Tr.leaf.put 3 (.pointer (some ⟨t3h, 0, none⟩))).put 5 (I t5)), H)
def f66W0 (cw : CallW) (Q : Value → AH → Prop) : (St → Prop) → St → Prop := fun rec0 s =>
 execW Tryz.prog cw ks66 f66_n (cL (cL (cR (cL (cR (cR (cR (bodyOf Tryz.f66)))))))) (kLoop ks66 (cL (cL (cR (cL (cR (cR (cR (bodyOf Tryz.f66)))))))) rec0 (kBlock ks66 0 (kSeq (execW Tryz.prog cw ks66 f66_n (cR (cR (cR (cR (bodyOf Tryz.f66)))))) (kRet Tryz.prog Tryz.f66 Q)))) s
def f66L0 (cw : CallW) (Q : Value → AH → Prop) (t3h : Nat) (t5 : Int) (H : AH) : Prop := LoopP (f66W0 cw Q) (f66S0 t3h t5 H)
def f66B0 (cw : CallW) (Q : Value → AH → Prop) (rec0 : St → Prop) (t3h : Nat) (t5 : Int) (H : AH) : Prop :=
 obL (H.load t3h (0 + 1)) fun b1 n1 k1 =>
 ifB (decide (t5 < (n1 : Int))) (
 join2 (fun J2 =>
 obL (H.load t3h (0 + 0)) fun b3 n3 k3 =>
 obA (elemS 1 (.slice b3 n3 k3) (I t5)) fun h4 i4 =>
 obI .i64 (H.load h4 i4) fun x5 =>
 ifB (decide (x5 < 0)) (
 J2 true H) (
 obL (H.load t3h (0 + 0)) fun b6 n6 k6 =>
 obA (elemS 1 (.slice b6 n6 k6) (I t5)) fun h7 i7 =>
 obI .i64 (H.load h7 i7) fun x8 =>
 ifB (decide (x8 > 240)) (
 J2 true H) (
 obL (H.load t3h (0 + 1)) fun b9 n9 k9 =>
 obA (elemS 1 (.slice b9 n9 k9) (I t5)) fun h10 i10 =>
 obI .i64 (H.load h10 i10) fun x11 =>
 ifB (decide (x11 < 0)) (
 J2 true H) (
 obL (H.load t3h (0 + 1)) fun b12 n12 k12 =>
 obA (elemS 1 (.slice b12 n12 k12) (I t5)) fun h13 i13 =>
 obI .i64 (H.load h13 i13) fun x14 =>
 J2 (decide (x14 > 1000)) H)))) fun c15 H16 =>
 ifB c15 (
 Q (I 1) H16) (
 rec0 (f66S0 t3h (IntKind.wrap .i64 (t5 + 1)) H16))) (
 Q (I 0) H)
theorem f66L0_step {cw : CallW} {Q : Value → AH → Prop} {t3h : Nat} {t5 : Int} {H : AH} (h : f66B0 cw Q (LoopP (f66W0 cw Q)) t3h t5 H) : f66L0 cw Q t3h t5 H := LoopP.step (of_eq (by kernel_rfl) h)
def f66R (cw : CallW) (a0_0 a0_1 a0_2 : Int) (a1_0b : Option Addr) (a1_0n a1_0k : Nat) (a1_1b : Option Addr) (a1_1n a1_1k : Nat) (H : AH) (Q : Value → AH → Prop) : Prop :=
 letH (H.new 0 [I a0_0, I a0_1, I a0_2]) fun H1 =>
 letH (H1.new 0 [.slice a1_0b a1_0n a1_0k, .slice a1_1b a1_1n a1_1k]) fun H2 =>
 join2 (fun J3 =>
 obI .i64 (H2.load H.next (0 + 0)) fun x4 =>
 ifB (decide (x4 < (-15))) (
 J3 true H2) (
 obI .i64 (H2.load H.next (0 + 0)) fun x5 =>
 ifB (decide (x5 > 15)) (
 J3 true H2) (
 obI .i64 (H2.load H.next (0 + 1)) fun x6 =>
 ifB (decide (x6 < 0)) (
 J3 true H2) (
 obI .i64 (H2.load H.next (0 + 1)) fun x7 =>
 ifB (decide (x7 > 15)) (
 J3 true H2) (
 obI .i64 (H2.load H.next (0 + 2)) fun x8 =>
 ifB (decide (x8 < 1)) (
 J3 true H2) (
 obI .i64 (H2.load H.next (0 + 2)) fun x9 =>
 J3 (decide (x9 > 1000)) H2)))))) fun c10 H11 =>
 ifB c10 (
 Q (I 3) H11) (
 join2 (fun J12 =>
 obL (H11.load H1.next (0 + 0)) fun b13 n13 k13 =>
 obL (H11.load H1.next (0 + 1)) fun b14 n14 k14 =>
 ifB ((n13 : Int) != (n14 : Int)) (
 J12 true H11) (
 obL (H11.load H1.next (0 + 1)) fun b15 n15 k15 =>
 ifB (decide ((n15 : Int) < 1)) (
 J12 true H11) (
 obL (H11.load H1.next (0 + 1)) fun b16 n16 k16 =>
 J12 (decide ((n16 : Int) > 3)) H11))) fun c17 H18 =>
 ifB c17 (
 Q (I 2) H18) (
 f66L0 cw Q H1.next 0 H18))
def ks67 : Keeps := fun i => match i with
 | 4 => some [0, 3]
 | 2007 => some [0, 3, 4, 18]
 | 2009 => some [0, 3, 4, 27]
 | 2011 => some [0, 3, 36]
 | 4007 => some [18]
 | 4009 => some [27]
 | 4011 => some [36]
 | _ => none
def f67_n : Nat := 65
def f67S0 (t0b : Option Addr) (t0n t0k : Nat) (t3 : Int) (H : AH) : St := (((Tr.leaf.put 0 (.slice t0b t0n t0k)).put 3 (I t3)), H)
def f67W0 (cw : CallW) (Q : Value → AH → Prop) : (St → Prop) → St → Prop := fun rec0 s =>
 execW Tryz.prog cw ks67 f67_n (cL (cL (cR (cL (cR (cR (bodyOf Tryz.f67))))))) (kLoop ks67 (cL (cL (cR (cL (cR (cR (bodyOf Tryz.f67))))))) rec0 (kBlock ks67 0 (kSeq (execW Tryz.prog cw ks67 f67_n (cR (cR (cR (bodyOf Tryz.f67))))) (kRet Tryz.prog Tryz.f67 Q)))) s
def f67L0 (cw : CallW) (Q : Value → AH → Prop) (t0b : Option Addr) (t0n t0k : Nat) (t3 : Int) (H : AH) : Prop := LoopP (f67W0 cw Q) (f67S0 t0b t0n t0k t3 H)
def f67B0 (cw : CallW) (Q : Value → AH → Prop) (rec0 : St → Prop) (t0b : Option Addr) (t0n t0k : Nat) (t3 : Int) (H : AH) : Prop :=
 ifB (decide (t3 < (t0n : Int))) (
 obA (elemS 5 (.slice t0b t0n t0k) (I t3)) fun h1 i1 =>
 obI .i64 (H.load h1 (i1 + 0)) fun x2 =>
 obI .i64 (H.load h1 (i1 + 1)) fun x3 =>
 obI .i64 (H.load h1 (i1 + 2)) fun x4 =>
 obI .i64 (H.load h1 (i1 + 3)) fun x5 =>
 obI .i64 (H.load h1 (i1 + 4)) fun x6 =>
 letH (H.new 0 [I 0, I 0, I 0, I 0, I 0]) fun H7 =>
 obH (H7.storeN H.next 0 [I x2, I x3, I x4, I x5, I x6]) fun H8 =>
 join2 (fun J9 =>
 obI .i64 (H8.load H.next (0 + 0)) fun x10 =>
 ifB (decide (x10 < 0)) (
 J9 true H8) (
 obI .i64 (H8.load H.next (0 + 0)) fun x11 =>
 J9 (decide (x11 ≥ 4)) H8)) fun c12 H13 =>
 ifB c12 (
 Q (I 64) H13) (
 join2 (fun J14 =>
 obI .i64 (H13.load H.next (0 + 1)) fun x15 =>
 ifB (decide (x15 < 0)) (
 J14 true H13) (
 obI .i64 (H13.load H.next (0 + 1)) fun x16 =>
 J14 (decide (x16 ≥ 3)) H13)) fun c17 H18 =>
 ifB c17 (
 Q (I 63) H18) (
 join2 (fun J19 =>
 obI .i64 (H18.load H.next (0 + 2)) fun x20 =>
 ifB (decide (x20 < 0)) (
 J19 true H18) (
 obI .i64 (H18.load H.next (0 + 2)) fun x21 =>
 ifB (decide (x21 > 1048576)) (
 J19 true H18) (
 obI .i64 (H18.load H.next (0 + 3)) fun x22 =>
 ifB (decide (x22 < 0)) (
 J19 true H18) (
 obI .i64 (H18.load H.next (0 + 3)) fun x23 =>
 ifB (decide (x23 > 127)) (
 J19 true H18) (
 obI .i64 (H18.load H.next (0 + 4)) fun x24 =>
 ifB (decide (x24 < 0)) (
 J19 true H18) (
 obI .i64 (H18.load H.next (0 + 4)) fun x25 =>
 J19 (decide (x25 > 1000)) H18)))))) fun c26 H27 =>
 ifB c26 (
 Q (I 3) H27) (
 rec0 (f67S0 t0b t0n t0k (IntKind.wrap .i64 (t3 + 1)) H27))))) (
 Q (I 0) H)
theorem f67L0_step {cw : CallW} {Q : Value → AH → Prop} {t0b : Option Addr} {t0n t0k : Nat} {t3 : Int} {H : AH} (h : f67B0 cw Q (LoopP (f67W0 cw Q)) t0b t0n t0k t3 H) : f67L0 cw Q t0b t0n t0k t3 H := LoopP.step (of_eq (by kernel_rfl) h)
def f67R (cw : CallW) (a0b : Option Addr) (a0n a0k : Nat) (H : AH) (Q : Value → AH → Prop) : Prop :=
 ifB (decide ((a0n : Int) > 400)) (
 Q (I 2) H) (
 f67L0 cw Q a0b a0n a0k 0 H)
def ks68 : Keeps := fun i => match i with
 | 6 => some [3, 5]
 | 2001 => some [3, 16]
 | 2003 => some [3, 35]
 | 2011 => some [88]
 | 4001 => some [16]
 | 4003 => some [35]
 | 4011 => some [88]
 | _ => none
def f68_n : Nat := 89
def f68S0 (t3h : Nat) (t5 : Int) (H : AH) : St := (((Tr.leaf.put 3 (.pointer (some ⟨t3h, 0, none⟩))).put 5 (I t5)), H)
def f68W0 (cw : CallW) (Q : Value → AH → Prop) : (St → Prop) → St → Prop := fun rec0 s =>
 execW Tryz.prog cw ks68 f68_n (cL (cL (cR (cL (cR (cR (cR (bodyOf Tryz.f68)))))))) (kLoop ks68 (cL (cL (cR (cL (cR (cR (cR (bodyOf Tryz.f68)))))))) rec0 (kBlock ks68 0 (kSeq (execW Tryz.prog cw ks68 f68_n (cR (cR (cR (cR (bodyOf Tryz.f68)))))) (kRet Tryz.prog Tryz.f68 Q)))) s
def f68L0 (cw : CallW) (Q : Value → AH → Prop) (t3h : Nat) (t5 : Int) (H : AH) : Prop := LoopP (f68W0 cw Q) (f68S0 t3h t5 H)
def f68B0 (cw : CallW) (Q : Value → AH → Prop) (rec0 : St → Prop) (t3h : Nat) (t5 : Int) (H : AH) : Prop :=
 obL (H.load t3h (0 + 2)) fun b1 n1 k1 =>
 ifB (decide (t5 < (n1 : Int))) (
 obL (H.load t3h (0 + 2)) fun b2 n2 k2 =>
 obA (elemS 11 (.slice b2 n2 k2) (I t5)) fun h3 i3 =>
 obI .i64 (H.load h3 (i3 + 0)) fun x4 =>
 obI .i64 (H.load h3 (i3 + 1)) fun x5 =>
 obI .i64 (H.load h3 (i3 + 2)) fun x6 =>
 obI .i64 (H.load h3 (i3 + 3)) fun x7 =>
 obI .i64 (H.load h3 (i3 + 4)) fun x8 =>
 obI .i64 (H.load h3 (i3 + 5)) fun x9 =>
 obI .i64 (H.load h3 (i3 + 6)) fun x10 =>
 obI .i64 (H.load h3 (i3 + 7)) fun x11 =>
 obI .i64 (H.load h3 (i3 + 8)) fun x12 =>
 obI .i64 (H.load h3 (i3 + 9)) fun x13 =>
 obI .i64 (H.load h3 (i3 + 10)) fun x14 =>
 cw 97 ⟨[.agg ⟨[I x4, I x5, I x6, I x7, I x8, I x9, I x10, I x11, I x12, I x13, I x14]⟩]⟩ H fun v15 H16 =>
 obI .i64 (some v15) fun x17 =>
 ifB (x17 != 0) (
 Q (I x17) H16) (
 rec0 (f68S0 t3h (IntKind.wrap .i64 (t5 + 1)) H16))) (
 join2 (fun J18 =>
 obL (H.load t3h (0 + 3)) fun b19 n19 k19 =>
 cw 98 ⟨[.slice b19 n19 k19]⟩ H fun v20 H21 =>
 obB (some v20) fun c22 =>
 ifB (!c22) (
 J18 true H21) (
 obI .i64 (H21.load t3h (0 + 1)) fun x23 =>
 ifB (decide (x23 < 0)) (
 J18 true H21) (
 obI .i64 (H21.load t3h (0 + 1)) fun x24 =>
 ifB (decide (x24 > 15)) (
 J18 true H21) (
 obI .i64 (H21.load t3h (0 + 13)) fun x25 =>
 ifB (decide (x25 < 0)) (
 J18 true H21) (
 obI .i64 (H21.load t3h (0 + 13)) fun x26 =>
 ifB (decide (x26 > 1048576)) (
 J18 true H21) (
 obI .i64 (H21.load t3h ((0 + 4) + 0)) fun x27 =>
 obI .i64 (H21.load t3h ((0 + 4) + 1)) fun x28 =>
 obI .i64 (H21.load t3h ((0 + 4) + 2)) fun x29 =>
 letH (H21.new 3 [I x27, I x28, I x29]) fun H30 =>
 cw 99 ⟨[.slice (some ⟨H21.next, 0, none⟩) 1 1]⟩ H30 fun v31 H32 =>
 obI .i64 (some v31) fun x33 =>
 ifB (x33 != 0) (
 J18 true H32) (
 obI .i64 (H32.load t3h ((0 + 7) + 0)) fun x34 =>
 obI .i64 (H32.load t3h ((0 + 7) + 1)) fun x35 =>
 obI .i64 (H32.load t3h ((0 + 7) + 2)) fun x36 =>
 obI .i64 (H32.load t3h ((0 + 7) + 3)) fun x37 =>
 obI .i64 (H32.load t3h ((0 + 7) + 4)) fun x38 =>
 obI .i64 (H32.load t3h ((0 + 7) + 5)) fun x39 =>
 cw 100 ⟨[.agg ⟨[I x34, I x35, I x36, I x37, I x38, I x39]⟩]⟩ H32 fun v40 H41 =>
 obI .i64 (some v40) fun x42 =>
 J18 (x42 != 0) H41))))))) fun c43 H44 =>
 ifB c43 (
 Q (I 3) H44) (
 Q (I 0) H44))
theorem f68L0_step {cw : CallW} {Q : Value → AH → Prop} {t3h : Nat} {t5 : Int} {H : AH} (h : f68B0 cw Q (LoopP (f68W0 cw Q)) t3h t5 H) : f68L0 cw Q t3h t5 H := LoopP.step (of_eq (by kernel_rfl) h)
def f68R (cw : CallW) (a0_0 a0_1 a0_2 a0_3 a0_4 a0_5 a0_6 a0_7 a0_8 a0_9 a0_10 a0_11 a0_12 a0_13 a0_14 a0_15 a0_16 a0_17 : Int) (a0_18b : Option Addr) (a0_18n a0_18k : Nat) (a0_19b : Option Addr) (a0_19n a0_19k : Nat) (a1_0 a1_1 : Int) (a1_2b : Option Addr) (a1_2n a1_2k : Nat) (a1_3b : Option Addr) (a1_3n a1_3k : Nat) (a1_4 a1_5 a1_6 a1_7 a1_8 a1_9 a1_10 a1_11 a1_12 a1_13 : Int) (H : AH) (Q : Value → AH → Prop) : Prop :=
 letH (H.new 0 [I a0_0, I a0_1, I a0_2, I a0_3, I a0_4, I a0_5, I a0_6, I a0_7, I a0_8, I a0_9, I a0_10, I a0_11, I a0_12, I a0_13, I a0_14, I a0_15, I a0_16, I a0_17, .slice a0_18b a0_18n a0_18k, .slice a0_19b a0_19n a0_19k]) fun H1 =>
 letH (H1.new 0 [I a1_0, I a1_1, .slice a1_2b a1_2n a1_2k, .slice a1_3b a1_3n a1_3k, I a1_4, I a1_5, I a1_6, I a1_7, I a1_8, I a1_9, I a1_10, I a1_11, I a1_12, I a1_13]) fun H2 =>
 join2 (fun J3 =>
 obI .i64 (H2.load H1.next (0 + 0)) fun x4 =>
 ifB (decide (x4 < 0)) (
 J3 true H2) (
 obI .i64 (H2.load H1.next (0 + 0)) fun x5 =>
 obI .i64 (H2.load H.next (0 + 1)) fun x6 =>
 J3 (decide (x5 ≥ x6)) H2)) fun c7 H8 =>
 ifB c7 (
 Q (I 63) H8) (
 join2 (fun J9 =>
 obL (H8.load H1.next (0 + 2)) fun b10 n10 k10 =>
 ifB (decide ((n10 : Int) < 1)) (
 J9 true H8) (
 obL (H8.load H1.next (0 + 2)) fun b11 n11 k11 =>
 ifB (decide ((n11 : Int) > 2)) (
 J9 true H8) (
 obL (H8.load H1.next (0 + 3)) fun b12 n12 k12 =>
 obL (H8.load H1.next (0 + 2)) fun b13 n13 k13 =>
 J9 ((n12 : Int) != (n13 : Int)) H8))) fun c14 H15 =>
 ifB c14 (
 Q (I 2) H15) (
 f68L0 cw Q H1.next 0 H15))
def ks93 : Keeps := fun i => match i with
 | 2001 => some [0, 1, 2, 28]
 | 4001 => some [28]
 | _ => none
def ks94 : Keeps := fun i => match i with
 | 2 => some [0, 1, 5]
 | _ => none
def ks95 : Keeps := fun i => match i with
 | 2001 => some [4]
 | 4001 => some [4]
 | _ => none
def ks96 : Keeps := fun i => match i with
 | 2001 => some [2]
 | 4001 => some [2]
 | _ => none
def f96R (cw : CallW) (a0 : Int) (H : AH) (Q : Value → AH → Prop) : Prop :=
 join2 (fun J1 =>
 ifB (decide (a0 ≥ 1)) (
 J1 (decide (a0 ≤ 1000)) H) (
 J1 false H)) fun c2 H3 =>
 Q (.bool c2) H3
def ks97 : Keeps := fun i => match i with
 | 2001 => some [1, 20]
 | 2003 => some [59]
 | 4001 => some [20]
 | 4003 => some [59]
 | _ => none
def f97R (cw : CallW) (a0_0 a0_1 a0_2 a0_3 a0_4 a0_5 a0_6 a0_7 a0_8 a0_9 a0_10 : Int) (H : AH) (Q : Value → AH → Prop) : Prop :=
 letH (H.new 0 [I a0_0, I a0_1, I a0_2, I a0_3, I a0_4, I a0_5, I a0_6, I a0_7, I a0_8, I a0_9, I a0_10]) fun H1 =>
 join2 (fun J2 =>
 obI .i64 (H1.load H.next (0 + 0)) fun x3 =>
 ifB (x3 != 1) (
 obI .i64 (H1.load H.next (0 + 0)) fun x4 =>
 ifB (x4 != 2) (
 J2 true H1) (
 obI .i64 (H1.load H.next (0 + 1)) fun x5 =>
 ifB (decide (x5 < 0)) (
 J2 true H1) (
 obI .i64 (H1.load H.next (0 + 1)) fun x6 =>
 J2 (decide (x6 > 3)) H1))) (
 obI .i64 (H1.load H.next (0 + 1)) fun x7 =>
 ifB (decide (x7 < 0)) (
 J2 true H1) (
 obI .i64 (H1.load H.next (0 + 1)) fun x8 =>
 J2 (decide (x8 > 3)) H1))) fun c9 H10 =>
 ifB c9 (
 Q (I 7) H10) (
 join2 (fun J11 =>
 obI .i64 (H10.load H.next (0 + 1)) fun x12 =>
 ifB (decide (x12 > 0)) (
 obI .i64 (H10.load H.next (0 + 2)) fun x13 =>
 ifB (decide (x13 < 1)) (
 J11 true H10) (
 obI .i64 (H10.load H.next (0 + 2)) fun x14 =>
 ifB (decide (x14 > 8)) (
 J11 true H10) (
 obI .i64 (H10.load H.next (0 + 3)) fun x15 =>
 ifB (decide (x15 < 5)) (
 J11 true H10) (
 obI .i64 (H10.load H.next (0 + 3)) fun x16 =>
 ifB (decide (x16 > 9)) (
 J11 true H10) (
 obI .i64 (H10.load H.next (0 + 4)) fun x17 =>
 ifB (decide (x17 < 1)) (
 J11 true H10) (
 obI .i64 (H10.load H.next (0 + 4)) fun x18 =>
 ifB (decide (x18 > 1000)) (
 J11 true H10) (
 obI .i64 (H10.load H.next ((0 + 5) + 0)) fun x19 =>
 obI .i64 (H10.load H.next ((0 + 5) + 1)) fun x20 =>
 obI .i64 (H10.load H.next ((0 + 5) + 2)) fun x21 =>
 obI .i64 (H10.load H.next ((0 + 5) + 3)) fun x22 =>
 obI .i64 (H10.load H.next ((0 + 5) + 4)) fun x23 =>
 obI .i64 (H10.load H.next ((0 + 5) + 5)) fun x24 =>
 cw 123 ⟨[.agg ⟨[I x19, I x20, I x21, I x22, I x23, I x24]⟩]⟩ H10 fun v25 H26 =>
 obB (some v25) fun c27 =>
 J11 (!c27) H26))))))) (
 obI .i64 (H10.load H.next (0 + 3)) fun x28 =>
 ifB (decide (x28 < 5)) (
 J11 true H10) (
 obI .i64 (H10.load H.next (0 + 3)) fun x29 =>
 ifB (decide (x29 > 9)) (
 J11 true H10) (
 obI .i64 (H10.load H.next (0 + 4)) fun x30 =>
 ifB (decide (x30 < 1)) (
 J11 true H10) (
 obI .i64 (H10.load H.next (0 + 4)) fun x31 =>
 ifB (decide (x31 > 1000)) (
 J11 true H10) (
 obI .i64 (H10.load H.next ((0 + 5) + 0)) fun x32 =>
 obI .i64 (H10.load H.next ((0 + 5) + 1)) fun x33 =>
 obI .i64 (H10.load H.next ((0 + 5) + 2)) fun x34 =>
 obI .i64 (H10.load H.next ((0 + 5) + 3)) fun x35 =>
 obI .i64 (H10.load H.next ((0 + 5) + 4)) fun x36 =>
 obI .i64 (H10.load H.next ((0 + 5) + 5)) fun x37 =>
 cw 123 ⟨[.agg ⟨[I x32, I x33, I x34, I x35, I x36, I x37]⟩]⟩ H10 fun v38 H39 =>
 obB (some v38) fun c40 =>
 J11 (!c40) H39)))))) fun c41 H42 =>
 ifB c41 (
 Q (I 3) H42) (
 Q (I 0) H42))
def ks98 : Keeps := fun i => match i with
 | 2 => some [0, 3]
 | 2005 => some [0, 3, 54]
 | 4005 => some [54]
 | _ => none
def f98_n : Nat := 58
def f98S0 (t0b : Option Addr) (t0n t0k : Nat) (t3 : Int) (H : AH) : St := (((Tr.leaf.put 0 (.slice t0b t0n t0k)).put 3 (I t3)), H)
def f98W0 (cw : CallW) (Q : Value → AH → Prop) : (St → Prop) → St → Prop := fun rec0 s =>
 execW Tryz.prog cw ks98 f98_n (cL (cL (cR (cL (cR (bodyOf Tryz.f98)))))) (kLoop ks98 (cL (cL (cR (cL (cR (bodyOf Tryz.f98)))))) rec0 (kBlock ks98 0 (kSeq (execW Tryz.prog cw ks98 f98_n (cR (cR (bodyOf Tryz.f98)))) (kRet Tryz.prog Tryz.f98 Q)))) s
def f98L0 (cw : CallW) (Q : Value → AH → Prop) (t0b : Option Addr) (t0n t0k : Nat) (t3 : Int) (H : AH) : Prop := LoopP (f98W0 cw Q) (f98S0 t0b t0n t0k t3 H)
def f98B0 (cw : CallW) (Q : Value → AH → Prop) (rec0 : St → Prop) (t0b : Option Addr) (t0n t0k : Nat) (t3 : Int) (H : AH) : Prop :=
 ifB (decide (t3 < (t0n : Int))) (
 obA (elemS 4 (.slice t0b t0n t0k) (I t3)) fun h1 i1 =>
 obI .i64 (H.load h1 (i1 + 0)) fun x2 =>
 obI .i64 (H.load h1 (i1 + 1)) fun x3 =>
 obI .i64 (H.load h1 (i1 + 2)) fun x4 =>
 obI .i64 (H.load h1 (i1 + 3)) fun x5 =>
 letH (H.new 0 [I 0, I 0, I 0, I 0]) fun H6 =>
 obH (H6.storeN H.next 0 [I x2, I x3, I x4, I x5]) fun H7 =>
 join2 (fun J8 =>
 obI .i64 (H7.load H.next (0 + 0)) fun x9 =>
 ifB (decide (x9 < 0)) (
 J8 true H7) (
 obI .i64 (H7.load H.next (0 + 0)) fun x10 =>
 ifB (decide (x10 > 15)) (
 J8 true H7) (
 obI .i64 (H7.load H.next (0 + 1)) fun x11 =>
 ifB (decide (x11 < 0)) (
 J8 true H7) (
 obI .i64 (H7.load H.next (0 + 1)) fun x12 =>
 ifB (decide (x12 > 1048576)) (
 J8 true H7) (
 obI .i64 (H7.load H.next (0 + 2)) fun x13 =>
 ifB (decide (x13 < 0)) (
 J8 true H7) (
 obI .i64 (H7.load H.next (0 + 2)) fun x14 =>
 ifB (decide (x14 > 1048576)) (
 J8 true H7) (
 obI .i64 (H7.load H.next (0 + 3)) fun x15 =>
 ifB (decide (x15 < (-1048576))) (
 J8 true H7) (
 obI .i64 (H7.load H.next (0 + 3)) fun x16 =>
 obI .i64 (H7.load H.next (0 + 2)) fun x17 =>
 J8 (decide (x16 > x17)) H7)))))))) fun c18 H19 =>
 ifB c18 (
 Q (.bool false) H19) (
 rec0 (f98S0 t0b t0n t0k (IntKind.wrap .i64 (t3 + 1)) H19))) (
 Q (.bool (decide ((t0n : Int) ≤ 8))) H)
theorem f98L0_step {cw : CallW} {Q : Value → AH → Prop} {t0b : Option Addr} {t0n t0k : Nat} {t3 : Int} {H : AH} (h : f98B0 cw Q (LoopP (f98W0 cw Q)) t0b t0n t0k t3 H) : f98L0 cw Q t0b t0n t0k t3 H := LoopP.step (of_eq (by kernel_rfl) h)
def f98R (cw : CallW) (a0b : Option Addr) (a0n a0k : Nat) (H : AH) (Q : Value → AH → Prop) : Prop :=
 f98L0 cw Q a0b a0n a0k 0 H
def ks99 : Keeps := fun i => match i with
 | 4 => some [0, 3]
 | _ => none
def f99_n : Nat := 19
def f99S0 (t0b : Option Addr) (t0n t0k : Nat) (t3 : Int) (H : AH) : St := (((Tr.leaf.put 0 (.slice t0b t0n t0k)).put 3 (I t3)), H)
def f99W0 (cw : CallW) (Q : Value → AH → Prop) : (St → Prop) → St → Prop := fun rec0 s =>
 execW Tryz.prog cw ks99 f99_n (cL (cL (cR (cL (cR (cR (bodyOf Tryz.f99))))))) (kLoop ks99 (cL (cL (cR (cL (cR (cR (bodyOf Tryz.f99))))))) rec0 (kBlock ks99 0 (kSeq (execW Tryz.prog cw ks99 f99_n (cR (cR (cR (bodyOf Tryz.f99))))) (kRet Tryz.prog Tryz.f99 Q)))) s
def f99L0 (cw : CallW) (Q : Value → AH → Prop) (t0b : Option Addr) (t0n t0k : Nat) (t3 : Int) (H : AH) : Prop := LoopP (f99W0 cw Q) (f99S0 t0b t0n t0k t3 H)
def f99B0 (cw : CallW) (Q : Value → AH → Prop) (rec0 : St → Prop) (t0b : Option Addr) (t0n t0k : Nat) (t3 : Int) (H : AH) : Prop :=
 ifB (decide (t3 < (t0n : Int))) (
 obA (elemS 3 (.slice t0b t0n t0k) (I t3)) fun h1 i1 =>
 obI .i64 (H.load h1 (i1 + 0)) fun x2 =>
 obI .i64 (H.load h1 (i1 + 1)) fun x3 =>
 obI .i64 (H.load h1 (i1 + 2)) fun x4 =>
 cw 124 ⟨[.agg ⟨[I x2, I x3, I x4]⟩]⟩ H fun v5 H6 =>
 obB (some v5) fun c7 =>
 ifB (!c7) (
 Q (I 3) H6) (
 rec0 (f99S0 t0b t0n t0k (IntKind.wrap .i64 (t3 + 1)) H6))) (
 Q (I 0) H)
theorem f99L0_step {cw : CallW} {Q : Value → AH → Prop} {t0b : Option Addr} {t0n t0k : Nat} {t3 : Int} {H : AH} (h : f99B0 cw Q (LoopP (f99W0 cw Q)) t0b t0n t0k t3 H) : f99L0 cw Q t0b t0n t0k t3 H := LoopP.step (of_eq (by kernel_rfl) h)
def f99R (cw : CallW) (a0b : Option Addr) (a0n a0k : Nat) (H : AH) (Q : Value → AH → Prop) : Prop :=
 ifB (decide ((a0n : Int) > 4)) (
 Q (I 2) H) (
 f99L0 cw Q a0b a0n a0k 0 H)
def ks100 : Keeps := fun i => match i with
 | 2001 => some [1, 3]
 | 2002 => some [76]
 | 4001 => some [3]
 | 4002 => some [76]
 | _ => none
def f100R (cw : CallW) (a0_0 a0_1 a0_2 a0_3 a0_4 a0_5 : Int) (H : AH) (Q : Value → AH → Prop) : Prop :=
 letH (H.new 0 [I a0_0, I a0_1, I a0_2, I a0_3, I a0_4, I a0_5]) fun H1 =>
 join2 (fun J2 =>
 obI .i64 (H1.load H.next (0 + 4)) fun x3 =>
 ifB (x3 == 0) (
 J2 true H1) (
 obI .i64 (H1.load H.next (0 + 4)) fun x4 =>
 obI .i64 (H1.load H.next (0 + 2)) fun x5 =>
 ifB (decide (x4 ≥ x5)) (
 obI .i64 (H1.load H.next (0 + 4)) fun x6 =>
 obI .i64 (H1.load H.next (0 + 0)) fun x7 =>
 J2 (decide (x6 ≤ x7)) H1) (
 J2 false H1))) fun c8 H9 =>
 join2 (fun J10 =>
 obI .i64 (H9.load H.next (0 + 0)) fun x11 =>
 ifB (decide (x11 < 1)) (
 J10 true H9) (
 obI .i64 (H9.load H.next (0 + 0)) fun x12 =>
 ifB (decide (x12 > 256)) (
 J10 true H9) (
 obI .i64 (H9.load H.next (0 + 1)) fun x13 =>
 ifB (decide (x13 < 0)) (
 J10 true H9) (
 obI .i64 (H9.load H.next (0 + 1)) fun x14 =>
 obI .i64 (H9.load H.next (0 + 0)) fun x15 =>
 ifB (decide (x14 ≥ x15)) (
 J10 true H9) (
 obI .i64 (H9.load H.next (0 + 2)) fun x16 =>
 ifB (decide (x16 < 1)) (
 J10 true H9) (
 obI .i64 (H9.load H.next (0 + 2)) fun x17 =>
 obI .i64 (H9.load H.next (0 + 0)) fun x18 =>
 ifB (decide (x17 > x18)) (
 J10 true H9) (
 obI .i64 (H9.load H.next (0 + 3)) fun x19 =>
 ifB (decide (x19 < 0)) (
 J10 true H9) (
 obI .i64 (H9.load H.next (0 + 3)) fun x20 =>
 ifB (decide (x20 > 256)) (
 J10 true H9) (
 ifB (!c8) (
 J10 true H9) (
 obI .i64 (H9.load H.next (0 + 5)) fun x21 =>
 ifB (decide (x21 < 0)) (
 J10 true H9) (
 obI .i64 (H9.load H.next (0 + 5)) fun x22 =>
 J10 (decide (x22 > 16)) H9))))))))))) fun c23 H24 =>
 ifB c23 (
 Q (I 3) H24) (
 Q (I 0) H24)
def ks123 : Keeps := fun i => match i with
 | 2001 => some [2]
 | 4001 => some [2]
 | _ => none
def f123R (cw : CallW) (a0_0 a0_1 a0_2 a0_3 a0_4 a0_5 : Int) (H : AH) (Q : Value → AH → Prop) : Prop :=
 letH (H.new 0 [I a0_0, I a0_1, I a0_2, I a0_3, I a0_4, I a0_5]) fun H1 =>
 join2 (fun J2 =>
 obI .i64 (H1.load H.next (0 + 0)) fun x3 =>
 cw 151 ⟨[I x3]⟩ H1 fun v4 H5 =>
 obB (some v4) fun c6 =>
 ifB c6 (
 obI .i64 (H5.load H.next (0 + 1)) fun x7 =>
 ifB (decide (x7 ≥ 1)) (
 obI .i64 (H5.load H.next (0 + 1)) fun x8 =>
 ifB (decide (x8 ≤ 64)) (
 obI .i64 (H5.load H.next (0 + 2)) fun x9 =>
 ifB (decide (x9 ≥ 1)) (
 obI .i64 (H5.load H.next (0 + 2)) fun x10 =>
 ifB (decide (x10 ≤ 1000)) (
 obI .i64 (H5.load H.next (0 + 3)) fun x11 =>
 ifB (decide (x11 ≥ 1)) (
 obI .i64 (H5.load H.next (0 + 3)) fun x12 =>
 ifB (decide (x12 ≤ 1000)) (
 obI .i64 (H5.load H.next (0 + 4)) fun x13 =>
 ifB (decide (x13 ≥ 0)) (
 obI .i64 (H5.load H.next (0 + 4)) fun x14 =>
 ifB (decide (x14 ≤ 1000)) (
 obI .i64 (H5.load H.next (0 + 5)) fun x15 =>
 ifB (decide (x15 ≥ 1)) (
 obI .i64 (H5.load H.next (0 + 5)) fun x16 =>
 J2 (decide (x16 ≤ 32)) H5) (
 J2 false H5)) (
 J2 false H5)) (
 J2 false H5)) (
 J2 false H5)) (
 J2 false H5)) (
 J2 false H5)) (
 J2 false H5)) (
 J2 false H5)) (
 J2 false H5)) (
 J2 false H5)) fun c17 H18 =>
 Q (.bool c17) H18
def ks124 : Keeps := fun i => match i with
 | 2001 => some [2]
 | 4001 => some [2]
 | _ => none
def f124R (cw : CallW) (a0_0 a0_1 a0_2 : Int) (H : AH) (Q : Value → AH → Prop) : Prop :=
 letH (H.new 0 [I a0_0, I a0_1, I a0_2]) fun H1 =>
 join2 (fun J2 =>
 obI .i64 (H1.load H.next (0 + 0)) fun x3 =>
 ifB (decide (x3 ≥ 0)) (
 obI .i64 (H1.load H.next (0 + 0)) fun x4 =>
 ifB (decide (x4 ≤ 1048576)) (
 obI .i64 (H1.load H.next (0 + 1)) fun x5 =>
 ifB (decide (x5 ≥ 1)) (
 obI .i64 (H1.load H.next (0 + 1)) fun x6 =>
 ifB (decide (x6 ≤ 64)) (
 obI .i64 (H1.load H.next (0 + 2)) fun x7 =>
 ifB (decide (x7 ≥ 0)) (
 obI .i64 (H1.load H.next (0 + 2)) fun x8 =>
 obI .i64 (H1.load H.next (0 + 1)) fun x9 =>
 J2 (decide (x8 ≤ (IntKind.wrap .i64 (12 * x9)))) H1) (
 J2 false H1)) (
 J2 false H1)) (
 J2 false H1)) (
 J2 false H1)) (
 J2 false H1)) fun c10 H11 =>
 Q (.bool c10) H11
def ks151 : Keeps := fun i => match i with
 | 2001 => some [2]
 | 4001 => some [2]
 | _ => none
def f151R (cw : CallW) (a0 : Int) (H : AH) (Q : Value → AH → Prop) : Prop :=
 join2 (fun J1 =>
 ifB (decide (a0 ≥ 5)) (
 J1 (decide (a0 ≤ 9)) H) (
 J1 false H)) fun c2 H3 =>
 Q (.bool c2) H3
end AM
end Go.Proofs.YtemcmblcogljkaaGreatDoor

