/-  -/
import Derived.Test.YtemcmblcogljkaaGreatDoorMb
set_option linter.all false
set_option linter.unusedSimpArgs false
set_option linter.unusedVariables false
set_option maxRecDepth 100000
namespace Go.Proofs.YtemcmblcogljkaaGreatDoor
namespace AM
open Go
def ks8 : Keeps := fun i => match i with
 | _ => none
def f8R (cw : CallW) (a0b : Option Addr) (a0n a0k : Nat) (H : AH) (Q : Value → AH → Prop) : Prop :=
 Q (.bool (decide ((a0n : Int) ≤ 300))) H
def ks9 : Keeps := fun i => match i with
 | _ => none
def f9R (cw : CallW) (a0b : Option Addr) (a0n a0k : Nat) (H : AH) (Q : Value → AH → Prop) : Prop :=
 letH (H.new 1 []) fun H1 =>
 obG (appendV 1 8 H1 (.slice (some ⟨H.next, 0, none⟩) 0 0) (.slice a0b a0n a0k)) fun b2 n2 k2 H3 =>
 letH (H3.new 0 [.slice b2 n2 k2, I 0]) fun H4 =>
 Q (.pointer (some ⟨H3.next, 0, none⟩)) H4
def ks11 : Keeps := fun i => match i with
 | _ => none
def f11R (cw : CallW) (a0h a0i : Nat) (a1 : Int) (H : AH) (Q : Value → AH → Prop) : Prop :=
 obI .i64 (H.load a0h (a0i + 1)) fun x1 =>
 obL (H.load a0h (a0i + 0)) fun b2 n2 k2 =>
 ifB (decide (x1 ≥ (n2 : Int))) (
 Q (I 0) H) (
 obI .i64 (H.load a0h (a0i + 1)) fun x3 =>
 obH (H.storeN a0h (a0i + 1) [I (IntKind.wrap .i64 (x3 + 1))]) fun H4 =>
 obL (H4.load a0h (a0i + 0)) fun b5 n5 k5 =>
 obI .i64 (H4.load a0h (a0i + 1)) fun x6 =>
 obA (elemS 1 (.slice b5 n5 k5) (I (IntKind.wrap .i64 (x6 - 1)))) fun h7 i7 =>
 obI .i64 (H4.load h7 i7) fun x8 =>
 cw 14 ⟨[I x8, I a1]⟩ H4 fun v9 H10 =>
 obI .i64 (some v9) fun x11 =>
 Q (I x11) H10)
def ks14 : Keeps := fun i => match i with
 | _ => none
def f14R (cw : CallW) (a0 a1 : Int) (H : AH) (Q : Value → AH → Prop) : Prop :=
 ifB (decide (a1 < 1)) (
 Q (I 0) H) (
 obI .i64 (aInt .rem .i64 a0 a1) fun x1 =>
 obI .i64 (aInt .rem .i64 (IntKind.wrap .i64 (x1 + a1)) a1) fun x2 =>
 Q (I x2) H)
def ks20 : Keeps := fun i => match i with
 | _ => none
def f20R (cw : CallW) (a0h a0i : Nat) (a1 : Int) (H : AH) (Q : Value → AH → Prop) : Prop :=
 letH (H.new 0 [I 0, I 0, I 0, I 0, I 0, I 0, I 0, I 0, I 0, I 0, I 0]) fun H1 =>
 cw 11 ⟨[.pointer (some ⟨a0h, a0i, none⟩), I 4]⟩ H1 fun v2 H3 =>
 obI .i64 (some v2) fun x4 =>
 cw 11 ⟨[.pointer (some ⟨a0h, a0i, none⟩), I 3]⟩ H3 fun v5 H6 =>
 obI .i64 (some v5) fun x7 =>
 cw 11 ⟨[.pointer (some ⟨a0h, a0i, none⟩), I 8]⟩ H6 fun v8 H9 =>
 obI .i64 (some v8) fun x10 =>
 letH (H9.new 0 [I 0, I 0, I 0, I 0, I 0, I 0, I 0, I 0, I 0, I 0, I 0]) fun H11 =>
 obH (H11.storeN H9.next 0 [I a1, I x4, I 0, I (IntKind.wrap .i64 (5 + x7)), I (IntKind.wrap .i64 (1 + x10)), I 0, I 0, I 0, I 0, I 0, I 0]) fun H12 =>
 obI .i64 (H12.load H9.next (0 + 1)) fun x13 =>
 ifB (decide (x13 > 0)) (
 cw 11 ⟨[.pointer (some ⟨a0h, a0i, none⟩), I 3]⟩ H12 fun v14 H15 =>
 obI .i64 (some v14) fun x16 =>
 obH (H15.storeN H9.next (0 + 2) [I (IntKind.wrap .i64 (1 + x16))]) fun H17 =>
 cw 11 ⟨[.pointer (some ⟨a0h, a0i, none⟩), I 3]⟩ H17 fun v18 H19 =>
 obI .i64 (some v18) fun x20 =>
 cw 11 ⟨[.pointer (some ⟨a0h, a0i, none⟩), I 4]⟩ H19 fun v21 H22 =>
 obI .i64 (some v21) fun x23 =>
 cw 11 ⟨[.pointer (some ⟨a0h, a0i, none⟩), I 8]⟩ H22 fun v24 H25 =>
 obI .i64 (some v24) fun x26 =>
 cw 11 ⟨[.pointer (some ⟨a0h, a0i, none⟩), I 6]⟩ H25 fun v27 H28 =>
 obI .i64 (some v27) fun x29 =>
 cw 11 ⟨[.pointer (some ⟨a0h, a0i, none⟩), I 3]⟩ H28 fun v30 H31 =>
 obI .i64 (some v30) fun x32 =>
 obH (H31.storeN H9.next (0 + 5) [I (IntKind.wrap .i64 (5 + x20)), I (IntKind.wrap .i64 (1 + x23)), I (IntKind.wrap .i64 (2 + x26)), I (IntKind.wrap .i64 (1 + x29)), I x32, I 32]) fun H33 =>
 obI .i64 (H33.load H9.next (0 + 0)) fun x34 =>
 obI .i64 (H33.load H9.next (0 + 1)) fun x35 =>
 obI .i64 (H33.load H9.next (0 + 2)) fun x36 =>
 obI .i64 (H33.load H9.next (0 + 3)) fun x37 =>
 obI .i64 (H33.load H9.next (0 + 4)) fun x38 =>
 obI .i64 (H33.load H9.next (0 + 5)) fun x39 =>
 obI .i64 (H33.load H9.next (0 + 6)) fun x40 =>
 obI .i64 (H33.load H9.next (0 + 7)) fun x41 =>
 obI .i64 (H33.load H9.next (0 + 8)) fun x42 =>
 obI .i64 (H33.load H9.next (0 + 9)) fun x43 =>
 obI .i64 (H33.load H9.next (0 + 10)) fun x44 =>
 obH (H33.storeN H.next 0 [I x34, I x35, I x36, I x37, I x38, I x39, I x40, I x41, I x42, I x43, I x44]) fun H45 =>
 obI .i64 (H45.load H.next (0 + 0)) fun x46 =>
 obI .i64 (H45.load H.next (0 + 1)) fun x47 =>
 obI .i64 (H45.load H.next (0 + 2)) fun x48 =>
 obI .i64 (H45.load H.next (0 + 3)) fun x49 =>
 obI .i64 (H45.load H.next (0 + 4)) fun x50 =>
 obI .i64 (H45.load H.next (0 + 5)) fun x51 =>
 obI .i64 (H45.load H.next (0 + 6)) fun x52 =>
 obI .i64 (H45.load H.next (0 + 7)) fun x53 =>
 obI .i64 (H45.load H.next (0 + 8)) fun x54 =>
 obI .i64 (H45.load H.next (0 + 9)) fun x55 =>
 obI .i64 (H45.load H.next (0 + 10)) fun x56 =>
 Q (.agg ⟨[I x46, I x47, I x48, I x49, I x50, I x51, I x52, I x53, I x54, I x55, I x56]⟩) H45) (
 cw 11 ⟨[.pointer (some ⟨a0h, a0i, none⟩), I 3]⟩ H12 fun v57 H58 =>
 obI .i64 (some v57) fun x59 =>
 cw 11 ⟨[.pointer (some ⟨a0h, a0i, none⟩), I 4]⟩ H58 fun v60 H61 =>
 obI .i64 (some v60) fun x62 =>
 cw 11 ⟨[.pointer (some ⟨a0h, a0i, none⟩), I 8]⟩ H61 fun v63 H64 =>
 obI .i64 (some v63) fun x65 =>
 cw 11 ⟨[.pointer (some ⟨a0h, a0i, none⟩), I 6]⟩ H64 fun v66 H67 =>
 obI .i64 (some v66) fun x68 =>
 cw 11 ⟨[.pointer (some ⟨a0h, a0i, none⟩), I 3]⟩ H67 fun v69 H70 =>
 obI .i64 (some v69) fun x71 =>
 obH (H70.storeN H9.next (0 + 5) [I (IntKind.wrap .i64 (5 + x59)), I (IntKind.wrap .i64 (1 + x62)), I (IntKind.wrap .i64 (2 + x65)), I (IntKind.wrap .i64 (1 + x68)), I x71, I 32]) fun H72 =>
 obI .i64 (H72.load H9.next (0 + 0)) fun x73 =>
 obI .i64 (H72.load H9.next (0 + 1)) fun x74 =>
 obI .i64 (H72.load H9.next (0 + 2)) fun x75 =>
 obI .i64 (H72.load H9.next (0 + 3)) fun x76 =>
 obI .i64 (H72.load H9.next (0 + 4)) fun x77 =>
 obI .i64 (H72.load H9.next (0 + 5)) fun x78 =>
 obI .i64 (H72.load H9.next (0 + 6)) fun x79 =>
 obI .i64 (H72.load H9.next (0 + 7)) fun x80 =>
 obI .i64 (H72.load H9.next (0 + 8)) fun x81 =>
 obI .i64 (H72.load H9.next (0 + 9)) fun x82 =>
 obI .i64 (H72.load H9.next (0 + 10)) fun x83 =>
 obH (H72.storeN H.next 0 [I x73, I x74, I x75, I x76, I x77, I x78, I x79, I x80, I x81, I x82, I x83]) fun H84 =>
 obI .i64 (H84.load H.next (0 + 0)) fun x85 =>
 obI .i64 (H84.load H.next (0 + 1)) fun x86 =>
 obI .i64 (H84.load H.next (0 + 2)) fun x87 =>
 obI .i64 (H84.load H.next (0 + 3)) fun x88 =>
 obI .i64 (H84.load H.next (0 + 4)) fun x89 =>
 obI .i64 (H84.load H.next (0 + 5)) fun x90 =>
 obI .i64 (H84.load H.next (0 + 6)) fun x91 =>
 obI .i64 (H84.load H.next (0 + 7)) fun x92 =>
 obI .i64 (H84.load H.next (0 + 8)) fun x93 =>
 obI .i64 (H84.load H.next (0 + 9)) fun x94 =>
 obI .i64 (H84.load H.next (0 + 10)) fun x95 =>
 Q (.agg ⟨[I x85, I x86, I x87, I x88, I x89, I x90, I x91, I x92, I x93, I x94, I x95]⟩) H84)
def ks10 : Keeps := fun i => match i with
 | 8 => some [0, 1, 2, 6, 7, 8, 9]
 | 15 => some [0, 1, 2, 6, 7, 8, 9, 10, 11]
 | 3003 => some [0, 1, 2, 6, 7, 8, 9, 10, 11]
 | 1021 => some [0, 1, 2, 4, 3, 5, 6, 7, 8, 9, 10]
 | _ => none
def f10_n : Nat := 154
def f10T0 (t0h t0i : Nat) (t1 t2 : Bool) (t6h t7h : Nat) (t8 t9 : Int) (t10h : Nat) (t11 : Int) (H : AH) : St := ((((((((((Tr.leaf.put 0 (.pointer (some ⟨t0h, t0i, none⟩))).put 1 (.bool t1)).put 2 (.bool t2)).put 6 (.pointer (some ⟨t6h, 0, none⟩))).put 7 (.pointer (some ⟨t7h, 0, none⟩))).put 8 (I t8)).put 9 (I t9)).put 10 (.pointer (some ⟨t10h, 0, none⟩))).put 11 (I t11)), H)
def f10S1 (t0h t0i : Nat) (t1 t2 : Bool) (t6h t7h : Nat) (t8 t9 : Int) (t10h : Nat) (t11 : Int) (H : AH) : St := ((((((((((Tr.leaf.put 0 (.pointer (some ⟨t0h, t0i, none⟩))).put 1 (.bool t1)).put 2 (.bool t2)).put 6 (.pointer (some ⟨t6h, 0, none⟩))).put 7 (.pointer (some ⟨t7h, 0, none⟩))).put 8 (I t8)).put 9 (I t9)).put 10 (.pointer (some ⟨t10h, 0, none⟩))).put 11 (I t11)), H)
def f10S0 (t0h t0i : Nat) (t1 t2 : Bool) (t6h t7h : Nat) (t8 t9 : Int) (H : AH) : St := ((((((((Tr.leaf.put 0 (.pointer (some ⟨t0h, t0i, none⟩))).put 1 (.bool t1)).put 2 (.bool t2)).put 6 (.pointer (some ⟨t6h, 0, none⟩))).put 7 (.pointer (some ⟨t7h, 0, none⟩))).put 8 (I t8)).put 9 (I t9)), H)
def f10J0 (cw : CallW) (Q : Value → AH → Prop) (rec0 rec1 : St → Prop) (t0h t0i : Nat) (t1 t2 : Bool) (t6h t7h : Nat) (t8 t9 : Int) (t10h : Nat) (t11 : Int) (H : AH) : Prop := (kSeq (execW Tryz.prog cw ks10 f10_n (cR (cR (cL (cL (cR (cL (cR (cR (cR (cL (cL (cR (cL (cL (cR (cL (cR (cR (cR (cR (cR (cR (cR (bodyOf Tryz.f10))))))))))))))))))))))))) (kLoop ks10 (cL (cL (cR (cL (cR (cR (cR (cL (cL (cR (cL (cL (cR (cL (cR (cR (cR (cR (cR (cR (cR (bodyOf Tryz.f10)))))))))))))))))))))) rec1 (kBlock ks10 2 (kSeq (execW Tryz.prog cw ks10 f10_n (cR (cR (cR (cR (cL (cL (cR (cL (cL (cR (cL (cR (cR (cR (cR (cR (cR (cR (bodyOf Tryz.f10)))))))))))))))))))) (kBlock ks10 1 (kSeq (execW Tryz.prog cw ks10 f10_n (cR (cR (cL (cL (cR (cL (cR (cR (cR (cR (cR (cR (cR (bodyOf Tryz.f10))))))))))))))) (kLoop ks10 (cL (cL (cR (cL (cR (cR (cR (cR (cR (cR (cR (bodyOf Tryz.f10)))))))))))) rec0 (kBlock ks10 0 (kSeq (execW Tryz.prog cw ks10 f10_n (cR (cR (cR (cR (cR (cR (cR (cR (bodyOf Tryz.f10)))))))))) (kRet Tryz.prog Tryz.f10 Q)))))))))) .normal (f10T0 t0h t0i t1 t2 t6h t7h t8 t9 t10h t11 H)
def f10W1 (cw : CallW) (Q : Value → AH → Prop) (rec0 : St → Prop) : (St → Prop) → St → Prop := fun rec1 s =>
 execW Tryz.prog cw ks10 f10_n (cL (cL (cR (cL (cR (cR (cR (cL (cL (cR (cL (cL (cR (cL (cR (cR (cR (cR (cR (cR (cR (bodyOf Tryz.f10)))))))))))))))))))))) (kLoop ks10 (cL (cL (cR (cL (cR (cR (cR (cL (cL (cR (cL (cL (cR (cL (cR (cR (cR (cR (cR (cR (cR (bodyOf Tryz.f10)))))))))))))))))))))) rec1 (kBlock ks10 2 (kSeq (execW Tryz.prog cw ks10 f10_n (cR (cR (cR (cR (cL (cL (cR (cL (cL (cR (cL (cR (cR (cR (cR (cR (cR (cR (bodyOf Tryz.f10)))))))))))))))))))) (kBlock ks10 1 (kSeq (execW Tryz.prog cw ks10 f10_n (cR (cR (cL (cL (cR (cL (cR (cR (cR (cR (cR (cR (cR (bodyOf Tryz.f10))))))))))))))) (kLoop ks10 (cL (cL (cR (cL (cR (cR (cR (cR (cR (cR (cR (bodyOf Tryz.f10)))))))))))) rec0 (kBlock ks10 0 (kSeq (execW Tryz.prog cw ks10 f10_n (cR (cR (cR (cR (cR (cR (cR (cR (bodyOf Tryz.f10)))))))))) (kRet Tryz.prog Tryz.f10 Q))))))))) s
def f10L1 (cw : CallW) (Q : Value → AH → Prop) (rec0 : St → Prop) (t0h t0i : Nat) (t1 t2 : Bool) (t6h t7h : Nat) (t8 t9 : Int) (t10h : Nat) (t11 : Int) (H : AH) : Prop := LoopP (f10W1 cw Q rec0) (f10S1 t0h t0i t1 t2 t6h t7h t8 t9 t10h t11 H)
def f10W0 (cw : CallW) (Q : Value → AH → Prop) : (St → Prop) → St → Prop := fun rec0 s =>
 execW Tryz.prog cw ks10 f10_n (cL (cL (cR (cL (cR (cR (cR (cR (cR (cR (cR (bodyOf Tryz.f10)))))))))))) (kLoop ks10 (cL (cL (cR (cL (cR (cR (cR (cR (cR (cR (cR (bodyOf Tryz.f10)))))))))))) rec0 (kBlock ks10 0 (kSeq (execW Tryz.prog cw ks10 f10_n (cR (cR (cR (cR (cR (cR (cR (cR (bodyOf Tryz.f10)))))))))) (kRet Tryz.prog Tryz.f10 Q)))) s
def f10L0 (cw : CallW) (Q : Value → AH → Prop) (t0h t0i : Nat) (t1 t2 : Bool) (t6h t7h : Nat) (t8 t9 : Int) (H : AH) : Prop := LoopP (f10W0 cw Q) (f10S0 t0h t0i t1 t2 t6h t7h t8 t9 H)
def f10K0 (cw : CallW) (Q : Value → AH → Prop) (rec0 rec1 : St → Prop) (t0h t0i : Nat) (t1 t2 : Bool) (t6h t7h : Nat) (t8 t9 : Int) (t10h : Nat) (t11 : Int) (H : AH) : Prop :=
 rec1 (f10S1 t0h t0i t1 t2 t6h t7h t8 t9 t10h (IntKind.wrap .i64 (t11 - 1)) H)
theorem f10J0_eq (cw : CallW) (Q : Value → AH → Prop) (rec0 rec1 : St → Prop) (t0h t0i : Nat) (t1 t2 : Bool) (t6h t7h : Nat) (t8 t9 : Int) (t10h : Nat) (t11 : Int) (H : AH) : f10J0 cw Q rec0 rec1 t0h t0i t1 t2 t6h t7h t8 t9 t10h t11 H = f10K0 cw Q rec0 rec1 t0h t0i t1 t2 t6h t7h t8 t9 t10h t11 H := by kernel_rfl
def f10B1 (cw : CallW) (Q : Value → AH → Prop) (rec0 rec1 : St → Prop) (t0h t0i : Nat) (t1 t2 : Bool) (t6h t7h : Nat) (t8 t9 : Int) (t10h : Nat) (t11 : Int) (H : AH) : Prop :=
 ifB (decide (t11 > 0)) (
 cw 11 ⟨[.pointer (some ⟨t0h, t0i, none⟩), I 4]⟩ H fun v1 H2 =>
 obI .i64 (some v1) fun x3 =>
 ifB (x3 == 3) (
 obL (H2.load t10h (0 + 2)) fun b4 n4 k4 =>
 cw 20 ⟨[.pointer (some ⟨t0h, t0i, none⟩), I 2]⟩ H2 fun v5 H6 =>
 obN 11 v5 (
 obI .i64 (cellAt v5 0) fun x7 =>
 obI .i64 (cellAt v5 1) fun x8 =>
 obI .i64 (cellAt v5 2) fun x9 =>
 obI .i64 (cellAt v5 3) fun x10 =>
 obI .i64 (cellAt v5 4) fun x11 =>
 obI .i64 (cellAt v5 5) fun x12 =>
 obI .i64 (cellAt v5 6) fun x13 =>
 obI .i64 (cellAt v5 7) fun x14 =>
 obI .i64 (cellAt v5 8) fun x15 =>
 obI .i64 (cellAt v5 9) fun x16 =>
 obI .i64 (cellAt v5 10) fun x17 =>
 letH (H6.new 11 [I x7, I x8, I x9, I x10, I x11, I x12, I x13, I x14, I x15, I x16, I x17]) fun H18 =>
 obG (appendV 11 88 H18 (.slice b4 n4 k4) (.slice (some ⟨H6.next, 0, none⟩) 1 1)) fun b19 n19 k19 H20 =>
 obH (H20.storeN t10h (0 + 2) [.slice b19 n19 k19]) fun H21 =>
 obE1 (H18.load t10h (0 + 2)) (.slice b4 n4 k4) (
 obE1 (H2.load t10h (0 + 2)) (.slice b4 n4 k4) (
 obL (H21.load t10h (0 + 3)) fun b22 n22 k22 =>
 cw 11 ⟨[.pointer (some ⟨t0h, t0i, none⟩), I 3]⟩ H21 fun v23 H24 =>
 obI .i64 (some v23) fun x25 =>
 cw 11 ⟨[.pointer (some ⟨t0h, t0i, none⟩), I 40]⟩ H24 fun v26 H27 =>
 obI .i64 (some v26) fun x28 =>
 letH (H27.new 4 [I x25, I x28, I 80, I 0]) fun H29 =>
 obG (appendV 4 32 H29 (.slice b22 n22 k22) (.slice (some ⟨H27.next, 0, none⟩) 1 1)) fun b30 n30 k30 H31 =>
 obH (H31.storeN t10h (0 + 3) [.slice b30 n30 k30]) fun H32 =>
 obE1 (H29.load t10h (0 + 3)) (.slice b22 n22 k22) (
 obE1 (H24.load t10h (0 + 3)) (.slice b22 n22 k22) (
 obE1 (H21.load t10h (0 + 3)) (.slice b22 n22 k22) (
 f10J0 cw Q rec0 rec1 t0h t0i t1 t2 t6h t7h t8 t9 t10h t11 H32))))))) (
 obL (H2.load t10h (0 + 2)) fun b33 n33 k33 =>
 cw 20 ⟨[.pointer (some ⟨t0h, t0i, none⟩), I 1]⟩ H2 fun v34 H35 =>
 obN 11 v34 (
 obI .i64 (cellAt v34 0) fun x36 =>
 obI .i64 (cellAt v34 1) fun x37 =>
 obI .i64 (cellAt v34 2) fun x38 =>
 obI .i64 (cellAt v34 3) fun x39 =>
 obI .i64 (cellAt v34 4) fun x40 =>
 obI .i64 (cellAt v34 5) fun x41 =>
 obI .i64 (cellAt v34 6) fun x42 =>
 obI .i64 (cellAt v34 7) fun x43 =>
 obI .i64 (cellAt v34 8) fun x44 =>
 obI .i64 (cellAt v34 9) fun x45 =>
 obI .i64 (cellAt v34 10) fun x46 =>
 letH (H35.new 11 [I x36, I x37, I x38, I x39, I x40, I x41, I x42, I x43, I x44, I x45, I x46]) fun H47 =>
 obG (appendV 11 88 H47 (.slice b33 n33 k33) (.slice (some ⟨H35.next, 0, none⟩) 1 1)) fun b48 n48 k48 H49 =>
 obH (H49.storeN t10h (0 + 2) [.slice b48 n48 k48]) fun H50 =>
 obE1 (H47.load t10h (0 + 2)) (.slice b33 n33 k33) (
 obE1 (H2.load t10h (0 + 2)) (.slice b33 n33 k33) (
 obL (H50.load t10h (0 + 3)) fun b51 n51 k51 =>
 cw 11 ⟨[.pointer (some ⟨t0h, t0i, none⟩), I 3]⟩ H50 fun v52 H53 =>
 obI .i64 (some v52) fun x54 =>
 cw 11 ⟨[.pointer (some ⟨t0h, t0i, none⟩), I 40]⟩ H53 fun v55 H56 =>
 obI .i64 (some v55) fun x57 =>
 letH (H56.new 4 [I x54, I x57, I 80, I 0]) fun H58 =>
 obG (appendV 4 32 H58 (.slice b51 n51 k51) (.slice (some ⟨H56.next, 0, none⟩) 1 1)) fun b59 n59 k59 H60 =>
 obH (H60.storeN t10h (0 + 3) [.slice b59 n59 k59]) fun H61 =>
 obE1 (H58.load t10h (0 + 3)) (.slice b51 n51 k51) (
 obE1 (H53.load t10h (0 + 3)) (.slice b51 n51 k51) (
 obE1 (H50.load t10h (0 + 3)) (.slice b51 n51 k51) (
 f10J0 cw Q rec0 rec1 t0h t0i t1 t2 t6h t7h t8 t9 t10h t11 H61)))))))) (
 obL (H.load t7h (0 + 19)) fun b62 n62 k62 =>
 obI .i64 (H.load t10h (0 + 0)) fun x63 =>
 obI .i64 (H.load t10h (0 + 1)) fun x64 =>
 obL (H.load t10h (0 + 2)) fun b65 n65 k65 =>
 obL (H.load t10h (0 + 3)) fun b66 n66 k66 =>
 obI .i64 (H.load t10h (0 + 4)) fun x67 =>
 obI .i64 (H.load t10h (0 + 5)) fun x68 =>
 obI .i64 (H.load t10h (0 + 6)) fun x69 =>
 obI .i64 (H.load t10h (0 + 7)) fun x70 =>
 obI .i64 (H.load t10h (0 + 8)) fun x71 =>
 obI .i64 (H.load t10h (0 + 9)) fun x72 =>
 obI .i64 (H.load t10h (0 + 10)) fun x73 =>
 obI .i64 (H.load t10h (0 + 11)) fun x74 =>
 obI .i64 (H.load t10h (0 + 12)) fun x75 =>
 obI .i64 (H.load t10h (0 + 13)) fun x76 =>
 letH (H.new 14 [I x63, I x64, .slice b65 n65 k65, .slice b66 n66 k66, I x67, I x68, I x69, I x70, I x71, I x72, I x73, I x74, I x75, I x76]) fun H77 =>
 obG (appendV 14 144 H77 (.slice b62 n62 k62) (.slice (some ⟨H.next, 0, none⟩) 1 1)) fun b78 n78 k78 H79 =>
 obH (H79.storeN t7h (0 + 19) [.slice b78 n78 k78]) fun H80 =>
 obL (H80.load t7h (0 + 18)) fun b81 n81 k81 =>
 obI .i64 (H80.load t7h (0 + 0)) fun x82 =>
 obI .i64 (H80.load t7h (0 + 1)) fun x83 =>
 obI .i64 (H80.load t7h (0 + 2)) fun x84 =>
 obI .i64 (H80.load t7h (0 + 3)) fun x85 =>
 obI .i64 (H80.load t7h (0 + 4)) fun x86 =>
 obI .i64 (H80.load t7h (0 + 5)) fun x87 =>
 obI .i64 (H80.load t7h (0 + 6)) fun x88 =>
 obI .i64 (H80.load t7h (0 + 7)) fun x89 =>
 obI .i64 (H80.load t7h (0 + 8)) fun x90 =>
 obI .i64 (H80.load t7h (0 + 9)) fun x91 =>
 obI .i64 (H80.load t7h (0 + 10)) fun x92 =>
 obI .i64 (H80.load t7h (0 + 11)) fun x93 =>
 obI .i64 (H80.load t7h (0 + 12)) fun x94 =>
 obI .i64 (H80.load t7h (0 + 13)) fun x95 =>
 obI .i64 (H80.load t7h (0 + 14)) fun x96 =>
 obI .i64 (H80.load t7h (0 + 15)) fun x97 =>
 obI .i64 (H80.load t7h (0 + 16)) fun x98 =>
 obI .i64 (H80.load t7h (0 + 17)) fun x99 =>
 obL (H80.load t7h (0 + 18)) fun b100 n100 k100 =>
 obL (H80.load t7h (0 + 19)) fun b101 n101 k101 =>
 cw 21 ⟨[.pointer (some ⟨t0h, t0i, none⟩), .agg ⟨[I x82, I x83, I x84, I x85, I x86, I x87, I x88, I x89, I x90, I x91, I x92, I x93, I x94, I x95, I x96, I x97, I x98, I x99, .slice b100 n100 k100, .slice b101 n101 k101]⟩, I t9, .bool t1, .bool t2]⟩ H80 fun v102 H103 =>
 obL (some v102) fun b104 n104 k104 =>
 obG (appendV 5 40 H103 (.slice b81 n81 k81) (.slice b104 n104 k104)) fun b105 n105 k105 H106 =>
 obH (H106.storeN t7h (0 + 18) [.slice b105 n105 k105]) fun H107 =>
 obE1 (H103.load t7h (0 + 18)) (.slice b81 n81 k81) (
 rec0 (f10S0 t0h t0i t1 t2 t6h t7h t8 (IntKind.wrap .i64 (t9 + 1)) H107)))
theorem f10L1_step {cw : CallW} {Q : Value → AH → Prop} {rec0 : St → Prop} {t0h t0i : Nat} {t1 t2 : Bool} {t6h t7h : Nat} {t8 t9 : Int} {t10h : Nat} {t11 : Int} {H : AH} (h : f10B1 cw Q rec0 (LoopP (f10W1 cw Q rec0)) t0h t0i t1 t2 t6h t7h t8 t9 t10h t11 H) : f10L1 cw Q rec0 t0h t0i t1 t2 t6h t7h t8 t9 t10h t11 H := LoopP.step (of_eq (by kernel_rfl) h)
def f10B0 (cw : CallW) (Q : Value → AH → Prop) (rec0 : St → Prop) (t0h t0i : Nat) (t1 t2 : Bool) (t6h t7h : Nat) (t8 t9 : Int) (H : AH) : Prop :=
 ifB (decide (t9 < t8)) (
 obI .i64 (H.load t7h (0 + 1)) fun x1 =>
 cw 11 ⟨[.pointer (some ⟨t0h, t0i, none⟩), I x1]⟩ H fun v2 H3 =>
 obI .i64 (some v2) fun x4 =>
 cw 11 ⟨[.pointer (some ⟨t0h, t0i, none⟩), I 2]⟩ H3 fun v5 H6 =>
 obI .i64 (some v5) fun x7 =>
 cw 11 ⟨[.pointer (some ⟨t0h, t0i, none⟩), I 5000]⟩ H6 fun v8 H9 =>
 obI .i64 (some v8) fun x10 =>
 letH (H9.new 0 [I 0, I 0, .slice none 0 0, .slice none 0 0, I 0, I 0, I 0, I 0, I 0, I 0, I 0, I 0, I 0, I 0]) fun H11 =>
 obH (H11.storeN H9.next 0 [I x4, I x7, .slice none 0 0, .slice none 0 0, I 0, I 0, I 0, I 1, I 0, I 1, I 0, I 0, I 0, I (IntKind.wrap .i64 (500 + x10))]) fun H12 =>
 cw 11 ⟨[.pointer (some ⟨t0h, t0i, none⟩), I 4]⟩ H12 fun v13 H14 =>
 obI .i64 (some v13) fun x15 =>
 ifB (x15 == 3) (
 cw 11 ⟨[.pointer (some ⟨t0h, t0i, none⟩), I 8]⟩ H14 fun v16 H17 =>
 obI .i64 (some v16) fun x18 =>
 cw 11 ⟨[.pointer (some ⟨t0h, t0i, none⟩), I 3]⟩ H17 fun v19 H20 =>
 obI .i64 (some v19) fun x21 =>
 cw 11 ⟨[.pointer (some ⟨t0h, t0i, none⟩), I 4]⟩ H20 fun v22 H23 =>
 obI .i64 (some v22) fun x24 =>
 obH (H23.storeN H9.next (0 + 7) [I (IntKind.wrap .i64 (4 + x18)), I 0, I (IntKind.wrap .i64 (1 + x21)), I x24, I 0, I 0]) fun H25 =>
 cw 11 ⟨[.pointer (some ⟨t0h, t0i, none⟩), I 9]⟩ H25 fun v26 H27 =>
 obI .i64 (some v26) fun x28 =>
 cw 11 ⟨[.pointer (some ⟨t0h, t0i, none⟩), I 4]⟩ H27 fun v29 H30 =>
 obI .i64 (some v29) fun x31 =>
 obH (H30.storeN H9.next (0 + 4) [I 0, I (IntKind.wrap .i64 (1 + x28)), I x31]) fun H32 =>
 cw 11 ⟨[.pointer (some ⟨t0h, t0i, none⟩), I 2]⟩ H32 fun v33 H34 =>
 obI .i64 (some v33) fun x35 =>
 f10L1 cw Q rec0 t0h t0i t1 t2 t6h t7h t8 t9 H9.next (IntKind.wrap .i64 (1 + x35)) H34) (
 cw 11 ⟨[.pointer (some ⟨t0h, t0i, none⟩), I 9]⟩ H14 fun v36 H37 =>
 obI .i64 (some v36) fun x38 =>
 cw 11 ⟨[.pointer (some ⟨t0h, t0i, none⟩), I 4]⟩ H37 fun v39 H40 =>
 obI .i64 (some v39) fun x41 =>
 obH (H40.storeN H9.next (0 + 4) [I 0, I (IntKind.wrap .i64 (1 + x38)), I x41]) fun H42 =>
 cw 11 ⟨[.pointer (some ⟨t0h, t0i, none⟩), I 2]⟩ H42 fun v43 H44 =>
 obI .i64 (some v43) fun x45 =>
 f10L1 cw Q rec0 t0h t0i t1 t2 t6h t7h t8 t9 H9.next (IntKind.wrap .i64 (1 + x45)) H44)) (
 obI .i64 (H.load t7h (0 + 0)) fun x46 =>
 obI .i64 (H.load t7h (0 + 1)) fun x47 =>
 obI .i64 (H.load t7h (0 + 2)) fun x48 =>
 obI .i64 (H.load t7h (0 + 3)) fun x49 =>
 obI .i64 (H.load t7h (0 + 4)) fun x50 =>
 obI .i64 (H.load t7h (0 + 5)) fun x51 =>
 obI .i64 (H.load t7h (0 + 6)) fun x52 =>
 obI .i64 (H.load t7h (0 + 7)) fun x53 =>
 obI .i64 (H.load t7h (0 + 8)) fun x54 =>
 obI .i64 (H.load t7h (0 + 9)) fun x55 =>
 obI .i64 (H.load t7h (0 + 10)) fun x56 =>
 obI .i64 (H.load t7h (0 + 11)) fun x57 =>
 obI .i64 (H.load t7h (0 + 12)) fun x58 =>
 obI .i64 (H.load t7h (0 + 13)) fun x59 =>
 obI .i64 (H.load t7h (0 + 14)) fun x60 =>
 obI .i64 (H.load t7h (0 + 15)) fun x61 =>
 obI .i64 (H.load t7h (0 + 16)) fun x62 =>
 obI .i64 (H.load t7h (0 + 17)) fun x63 =>
 obL (H.load t7h (0 + 18)) fun b64 n64 k64 =>
 obL (H.load t7h (0 + 19)) fun b65 n65 k65 =>
 obH (H.storeN t6h 0 [I x46, I x47, I x48, I x49, I x50, I x51, I x52, I x53, I x54, I x55, I x56, I x57, I x58, I x59, I x60, I x61, I x62, I x63, .slice b64 n64 k64, .slice b65 n65 k65]) fun H66 =>
 obI .i64 (H66.load t6h (0 + 0)) fun x67 =>
 obI .i64 (H66.load t6h (0 + 1)) fun x68 =>
 obI .i64 (H66.load t6h (0 + 2)) fun x69 =>
 obI .i64 (H66.load t6h (0 + 3)) fun x70 =>
 obI .i64 (H66.load t6h (0 + 4)) fun x71 =>
 obI .i64 (H66.load t6h (0 + 5)) fun x72 =>
 obI .i64 (H66.load t6h (0 + 6)) fun x73 =>
 obI .i64 (H66.load t6h (0 + 7)) fun x74 =>
 obI .i64 (H66.load t6h (0 + 8)) fun x75 =>
 obI .i64 (H66.load t6h (0 + 9)) fun x76 =>
 obI .i64 (H66.load t6h (0 + 10)) fun x77 =>
 obI .i64 (H66.load t6h (0 + 11)) fun x78 =>
 obI .i64 (H66.load t6h (0 + 12)) fun x79 =>
 obI .i64 (H66.load t6h (0 + 13)) fun x80 =>
 obI .i64 (H66.load t6h (0 + 14)) fun x81 =>
 obI .i64 (H66.load t6h (0 + 15)) fun x82 =>
 obI .i64 (H66.load t6h (0 + 16)) fun x83 =>
 obI .i64 (H66.load t6h (0 + 17)) fun x84 =>
 obL (H66.load t6h (0 + 18)) fun b85 n85 k85 =>
 obL (H66.load t6h (0 + 19)) fun b86 n86 k86 =>
 Q (.agg ⟨[I x67, I x68, I x69, I x70, I x71, I x72, I x73, I x74, I x75, I x76, I x77, I x78, I x79, I x80, I x81, I x82, I x83, I x84, .slice b85 n85 k85, .slice b86 n86 k86]⟩) H66)
theorem f10L0_step {cw : CallW} {Q : Value → AH → Prop} {t0h t0i : Nat} {t1 t2 : Bool} {t6h t7h : Nat} {t8 t9 : Int} {H : AH} (h : f10B0 cw Q (LoopP (f10W0 cw Q)) t0h t0i t1 t2 t6h t7h t8 t9 H) : f10L0 cw Q t0h t0i t1 t2 t6h t7h t8 t9 H := LoopP.step (of_eq (by kernel_rfl) h)
def f10R (cw : CallW) (a0h a0i : Nat) (a1 a2 : Bool) (H : AH) (Q : Value → AH → Prop) : Prop :=
 letH (H.new 0 [I 0, I 0, I 0, I 0, I 0, I 0, I 0, I 0, I 0, I 0, I 0, I 0, I 0, I 0, I 0, I 0, I 0, I 0, .slice none 0 0, .slice none 0 0]) fun H1 =>
 cw 11 ⟨[.pointer (some ⟨a0h, a0i, none⟩), I 1000]⟩ H1 fun v2 H3 =>
 obI .i64 (some v2) fun x4 =>
 cw 11 ⟨[.pointer (some ⟨a0h, a0i, none⟩), I 3]⟩ H3 fun v5 H6 =>
 obI .i64 (some v5) fun x7 =>
 cw 11 ⟨[.pointer (some ⟨a0h, a0i, none⟩), I 7]⟩ H6 fun v8 H9 =>
 obI .i64 (some v8) fun x10 =>
 cw 11 ⟨[.pointer (some ⟨a0h, a0i, none⟩), I 5]⟩ H9 fun v11 H12 =>
 obI .i64 (some v11) fun x13 =>
 cw 11 ⟨[.pointer (some ⟨a0h, a0i, none⟩), I 5]⟩ H12 fun v14 H15 =>
 obI .i64 (some v14) fun x16 =>
 cw 11 ⟨[.pointer (some ⟨a0h, a0i, none⟩), I 4]⟩ H15 fun v17 H18 =>
 obI .i64 (some v17) fun x19 =>
 letH (H18.new 0 [I 0, I 0, I 0, I 0, I 0, I 0, I 0, I 0, I 0, I 0, I 0, I 0, I 0, I 0, I 0, I 0, I 0, I 0, .slice none 0 0, .slice none 0 0]) fun H20 =>
 obH (H20.storeN H18.next 0 [I x4, I (IntKind.wrap .i64 (1 + x7)), I (IntKind.wrap .i64 (6 + x10)), I (IntKind.wrap .i64 (1 + x13)), I (IntKind.wrap .i64 (1 + x16)), I (IntKind.wrap .i64 (1 + x19)), I 0, I 0, I 0, I 0, I 0, I 0, I 0, I 0, I 0, I 0, I 0, I 0, .slice none 0 0, .slice none 0 0]) fun H21 =>
 cw 11 ⟨[.pointer (some ⟨a0h, a0i, none⟩), I 4]⟩ H21 fun v22 H23 =>
 obI .i64 (some v22) fun x24 =>
 cw 11 ⟨[.pointer (some ⟨a0h, a0i, none⟩), I 4]⟩ H23 fun v25 H26 =>
 obI .i64 (some v25) fun x27 =>
 cw 11 ⟨[.pointer (some ⟨a0h, a0i, none⟩), I 5]⟩ H26 fun v28 H29 =>
 obI .i64 (some v28) fun x30 =>
 obH (H29.storeN H18.next (0 + 6) [I (IntKind.wrap .i64 (1 + x24))]) fun H31 =>
 obH (H31.storeN H18.next (0 + 7) [I (IntKind.wrap .i64 (1 + x27))]) fun H32 =>
 obH (H32.storeN H18.next (0 + 8) [I x30]) fun H33 =>
 cw 11 ⟨[.pointer (some ⟨a0h, a0i, none⟩), I 20]⟩ H33 fun v34 H35 =>
 obI .i64 (some v34) fun x36 =>
 cw 11 ⟨[.pointer (some ⟨a0h, a0i, none⟩), I 9]⟩ H35 fun v37 H38 =>
 obI .i64 (some v37) fun x39 =>
 cw 11 ⟨[.pointer (some ⟨a0h, a0i, none⟩), I 9]⟩ H38 fun v40 H41 =>
 obI .i64 (some v40) fun x42 =>
 obH (H41.storeN H18.next (0 + 9) [I (IntKind.wrap .i64 (4 + x36)), I (IntKind.wrap .i64 (2 + x39)), I (IntKind.wrap .i64 (2 + x42))]) fun H43 =>
 cw 11 ⟨[.pointer (some ⟨a0h, a0i, none⟩), I 3]⟩ H43 fun v44 H45 =>
 obI .i64 (some v44) fun x46 =>
 cw 11 ⟨[.pointer (some ⟨a0h, a0i, none⟩), I 2]⟩ H45 fun v47 H48 =>
 obI .i64 (some v47) fun x49 =>
 cw 11 ⟨[.pointer (some ⟨a0h, a0i, none⟩), I 4]⟩ H48 fun v50 H51 =>
 obI .i64 (some v50) fun x52 =>
 obH (H51.storeN H18.next (0 + 12) [I x46, I x49, I (IntKind.wrap .i64 (1 + x52))]) fun H53 =>
 cw 11 ⟨[.pointer (some ⟨a0h, a0i, none⟩), I 3]⟩ H53 fun v54 H55 =>
 obI .i64 (some v54) fun x56 =>
 cw 11 ⟨[.pointer (some ⟨a0h, a0i, none⟩), I 20]⟩ H55 fun v57 H58 =>
 obI .i64 (some v57) fun x59 =>
 obH (H58.storeN H18.next (0 + 15) [I 0, I (IntKind.wrap .i64 (1 + x56)), I (IntKind.wrap .i64 (4 + x59))]) fun H60 =>
 cw 11 ⟨[.pointer (some ⟨a0h, a0i, none⟩), I 3]⟩ H60 fun v61 H62 =>
 obI .i64 (some v61) fun x63 =>
 f10L0 cw Q a0h a0i a1 a2 H.next H18.next (IntKind.wrap .i64 (1 + x63)) 0 H62
def ks21 : Keeps := fun i => match i with
 | 3 => some [0, 2, 3, 4, 6, 11, 12]
 | 9 => some [0, 2, 3, 4, 6, 11, 13]
 | 13 => some [0, 2, 3, 4, 6, 11, 13, 14, 15]
 | 22 => some [0, 2, 3, 6, 11, 17]
 | 2006 => some [0, 2, 3, 4, 6, 11, 12, 40]
 | 2009 => some [0, 2, 3, 4, 6, 11, 13, 54]
 | 2022 => some [0, 2, 3, 6, 11, 17, 96]
 | 3001 => some [0, 2, 3, 4, 6, 11, 12]
 | 3005 => some [0, 2, 3, 4, 6, 11, 13, 14, 15]
 | 4006 => some [40]
 | 4009 => some [54]
 | 4022 => some [96]
 | _ => none
def f21_n : Nat := 112
def f21T0 (t0h t0i : Nat) (t2 : Int) (t3 t4 : Bool) (t6h : Nat) (t11b : Option Addr) (t11n t11k : Nat) (t12 : Int) (H : AH) : St := ((((((((Tr.leaf.put 0 (.pointer (some ⟨t0h, t0i, none⟩))).put 2 (I t2)).put 3 (.bool t3)).put 4 (.bool t4)).put 6 (.pointer (some ⟨t6h, 0, none⟩))).put 11 (.slice t11b t11n t11k)).put 12 (I t12)), H)
def f21T1 (t0h t0i : Nat) (t2 : Int) (t3 t4 : Bool) (t6h : Nat) (t11b : Option Addr) (t11n t11k : Nat) (t13 t14 t15 : Int) (H : AH) : St := ((((((((((Tr.leaf.put 0 (.pointer (some ⟨t0h, t0i, none⟩))).put 2 (I t2)).put 3 (.bool t3)).put 4 (.bool t4)).put 6 (.pointer (some ⟨t6h, 0, none⟩))).put 11 (.slice t11b t11n t11k)).put 13 (I t13)).put 14 (I t14)).put 15 (I t15)), H)
def f21S2 (t0h t0i : Nat) (t2 : Int) (t3 t4 : Bool) (t6h : Nat) (t11b : Option Addr) (t11n t11k : Nat) (t13 t14 t15 : Int) (H : AH) : St := ((((((((((Tr.leaf.put 0 (.pointer (some ⟨t0h, t0i, none⟩))).put 2 (I t2)).put 3 (.bool t3)).put 4 (.bool t4)).put 6 (.pointer (some ⟨t6h, 0, none⟩))).put 11 (.slice t11b t11n t11k)).put 13 (I t13)).put 14 (I t14)).put 15 (I t15)), H)
def f21S3 (t0h t0i : Nat) (t2 : Int) (t3 : Bool) (t6h : Nat) (t11b : Option Addr) (t11n t11k : Nat) (t17 : Int) (H : AH) : St := (((((((Tr.leaf.put 0 (.pointer (some ⟨t0h, t0i, none⟩))).put 2 (I t2)).put 3 (.bool t3)).put 6 (.pointer (some ⟨t6h, 0, none⟩))).put 11 (.slice t11b t11n t11k)).put 17 (I t17)), H)
def f21S1 (t0h t0i : Nat) (t2 : Int) (t3 t4 : Bool) (t6h : Nat) (t11b : Option Addr) (t11n t11k : Nat) (t13 : Int) (H : AH) : St := ((((((((Tr.leaf.put 0 (.pointer (some ⟨t0h, t0i, none⟩))).put 2 (I t2)).put 3 (.bool t3)).put 4 (.bool t4)).put 6 (.pointer (some ⟨t6h, 0, none⟩))).put 11 (.slice t11b t11n t11k)).put 13 (I t13)), H)
def f21S0 (t0h t0i : Nat) (t2 : Int) (t3 t4 : Bool) (t6h : Nat) (t11b : Option Addr) (t11n t11k : Nat) (t12 : Int) (H : AH) : St := ((((((((Tr.leaf.put 0 (.pointer (some ⟨t0h, t0i, none⟩))).put 2 (I t2)).put 3 (.bool t3)).put 4 (.bool t4)).put 6 (.pointer (some ⟨t6h, 0, none⟩))).put 11 (.slice t11b t11n t11k)).put 12 (I t12)), H)
def f21J0 (cw : CallW) (Q : Value → AH → Prop) (rec0 : St → Prop) (t0h t0i : Nat) (t2 : Int) (t3 t4 : Bool) (t6h : Nat) (t11b : Option Addr) (t11n t11k : Nat) (t12 : Int) (H : AH) : Prop := (kSeq (execW Tryz.prog cw ks21 f21_n (cR (cR (cL (cL (cR (cL (cR (cR (bodyOf Tryz.f21)))))))))) (kLoop ks21 (cL (cL (cR (cL (cR (cR (bodyOf Tryz.f21))))))) rec0 (kBlock ks21 0 (kSeq (execW Tryz.prog cw ks21 f21_n (cR (cR (cR (bodyOf Tryz.f21))))) (kRet Tryz.prog Tryz.f21 Q))))) .normal (f21T0 t0h t0i t2 t3 t4 t6h t11b t11n t11k t12 H)
def f21J1 (cw : CallW) (Q : Value → AH → Prop) (rec1 rec2 : St → Prop) (t0h t0i : Nat) (t2 : Int) (t3 t4 : Bool) (t6h : Nat) (t11b : Option Addr) (t11n t11k : Nat) (t13 t14 t15 : Int) (H : AH) : Prop := (kSeq (execW Tryz.prog cw ks21 f21_n (cR (cR (cL (cL (cR (cR (cL (cL (cR (cL (cL (cR (cL (cR (cR (cR (bodyOf Tryz.f21)))))))))))))))))) (kLoop ks21 (cL (cL (cR (cR (cL (cL (cR (cL (cL (cR (cL (cR (cR (cR (bodyOf Tryz.f21))))))))))))))) rec2 (kBlock ks21 4 (kBlock ks21 3 (kSeq (execW Tryz.prog cw ks21 f21_n (cR (cR (cL (cL (cR (cL (cR (cR (cR (bodyOf Tryz.f21))))))))))) (kLoop ks21 (cL (cL (cR (cL (cR (cR (cR (bodyOf Tryz.f21)))))))) rec1 (kBlock ks21 2 (kSeq (execW Tryz.prog cw ks21 f21_n (cR (cR (cR (cR (bodyOf Tryz.f21)))))) (kRet Tryz.prog Tryz.f21 Q))))))))) .normal (f21T1 t0h t0i t2 t3 t4 t6h t11b t11n t11k t13 t14 t15 H)
def f21W2 (cw : CallW) (Q : Value → AH → Prop) (rec1 : St → Prop) : (St → Prop) → St → Prop := fun rec2 s =>
 execW Tryz.prog cw ks21 f21_n (cL (cL (cR (cR (cL (cL (cR (cL (cL (cR (cL (cR (cR (cR (bodyOf Tryz.f21))))))))))))))) (kLoop ks21 (cL (cL (cR (cR (cL (cL (cR (cL (cL (cR (cL (cR (cR (cR (bodyOf Tryz.f21))))))))))))))) rec2 (kBlock ks21 4 (kBlock ks21 3 (kSeq (execW Tryz.prog cw ks21 f21_n (cR (cR (cL (cL (cR (cL (cR (cR (cR (bodyOf Tryz.f21))))))))))) (kLoop ks21 (cL (cL (cR (cL (cR (cR (cR (bodyOf Tryz.f21)))))))) rec1 (kBlock ks21 2 (kSeq (execW Tryz.prog cw ks21 f21_n (cR (cR (cR (cR (bodyOf Tryz.f21)))))) (kRet Tryz.prog Tryz.f21 Q)))))))) s
def f21L2 (cw : CallW) (Q : Value → AH → Prop) (rec1 : St → Prop) (t0h t0i : Nat) (t2 : Int) (t3 t4 : Bool) (t6h : Nat) (t11b : Option Addr) (t11n t11k : Nat) (t13 t14 t15 : Int) (H : AH) : Prop := LoopP (f21W2 cw Q rec1) (f21S2 t0h t0i t2 t3 t4 t6h t11b t11n t11k t13 t14 t15 H)
def f21W3 (cw : CallW) (Q : Value → AH → Prop) : (St → Prop) → St → Prop := fun rec3 s =>
 execW Tryz.prog cw ks21 f21_n (cL (cL (cR (cL (cR (cR (cR (cR (bodyOf Tryz.f21))))))))) (kLoop ks21 (cL (cL (cR (cL (cR (cR (cR (cR (bodyOf Tryz.f21))))))))) rec3 (kBlock ks21 6 (kSeq (execW Tryz.prog cw ks21 f21_n (cR (cR (cR (cR (cR (bodyOf Tryz.f21))))))) (kRet Tryz.prog Tryz.f21 Q)))) s
def f21L3 (cw : CallW) (Q : Value → AH → Prop) (t0h t0i : Nat) (t2 : Int) (t3 : Bool) (t6h : Nat) (t11b : Option Addr) (t11n t11k : Nat) (t17 : Int) (H : AH) : Prop := LoopP (f21W3 cw Q) (f21S3 t0h t0i t2 t3 t6h t11b t11n t11k t17 H)
def f21W1 (cw : CallW) (Q : Value → AH → Prop) : (St → Prop) → St → Prop := fun rec1 s =>
 execW Tryz.prog cw ks21 f21_n (cL (cL (cR (cL (cR (cR (cR (bodyOf Tryz.f21)))))))) (kLoop ks21 (cL (cL (cR (cL (cR (cR (cR (bodyOf Tryz.f21)))))))) rec1 (kBlock ks21 2 (kSeq (execW Tryz.prog cw ks21 f21_n (cR (cR (cR (cR (bodyOf Tryz.f21)))))) (kRet Tryz.prog Tryz.f21 Q)))) s
def f21L1 (cw : CallW) (Q : Value → AH → Prop) (t0h t0i : Nat) (t2 : Int) (t3 t4 : Bool) (t6h : Nat) (t11b : Option Addr) (t11n t11k : Nat) (t13 : Int) (H : AH) : Prop := LoopP (f21W1 cw Q) (f21S1 t0h t0i t2 t3 t4 t6h t11b t11n t11k t13 H)
def f21W0 (cw : CallW) (Q : Value → AH → Prop) : (St → Prop) → St → Prop := fun rec0 s =>
 execW Tryz.prog cw ks21 f21_n (cL (cL (cR (cL (cR (cR (bodyOf Tryz.f21))))))) (kLoop ks21 (cL (cL (cR (cL (cR (cR (bodyOf Tryz.f21))))))) rec0 (kBlock ks21 0 (kSeq (execW Tryz.prog cw ks21 f21_n (cR (cR (cR (bodyOf Tryz.f21))))) (kRet Tryz.prog Tryz.f21 Q)))) s
def f21L0 (cw : CallW) (Q : Value → AH → Prop) (t0h t0i : Nat) (t2 : Int) (t3 t4 : Bool) (t6h : Nat) (t11b : Option Addr) (t11n t11k : Nat) (t12 : Int) (H : AH) : Prop := LoopP (f21W0 cw Q) (f21S0 t0h t0i t2 t3 t4 t6h t11b t11n t11k t12 H)
def f21K0 (cw : CallW) (Q : Value → AH → Prop) (rec0 : St → Prop) (t0h t0i : Nat) (t2 : Int) (t3 t4 : Bool) (t6h : Nat) (t11b : Option Addr) (t11n t11k : Nat) (t12 : Int) (H : AH) : Prop :=
 rec0 (f21S0 t0h t0i t2 t3 t4 t6h t11b t11n t11k (IntKind.wrap .i64 (t12 + 1)) H)
theorem f21J0_eq (cw : CallW) (Q : Value → AH → Prop) (rec0 : St → Prop) (t0h t0i : Nat) (t2 : Int) (t3 t4 : Bool) (t6h : Nat) (t11b : Option Addr) (t11n t11k : Nat) (t12 : Int) (H : AH) : f21J0 cw Q rec0 t0h t0i t2 t3 t4 t6h t11b t11n t11k t12 H = f21K0 cw Q rec0 t0h t0i t2 t3 t4 t6h t11b t11n t11k t12 H := by kernel_rfl
def f21K1 (cw : CallW) (Q : Value → AH → Prop) (rec1 rec2 : St → Prop) (t0h t0i : Nat) (t2 : Int) (t3 t4 : Bool) (t6h : Nat) (t11b : Option Addr) (t11n t11k : Nat) (t13 t14 t15 : Int) (H : AH) : Prop :=
 rec2 (f21S2 t0h t0i t2 t3 t4 t6h t11b t11n t11k t13 t14 (IntKind.wrap .i64 (t15 + 1)) H)
theorem f21J1_eq (cw : CallW) (Q : Value → AH → Prop) (rec1 rec2 : St → Prop) (t0h t0i : Nat) (t2 : Int) (t3 t4 : Bool) (t6h : Nat) (t11b : Option Addr) (t11n t11k : Nat) (t13 t14 t15 : Int) (H : AH) : f21J1 cw Q rec1 rec2 t0h t0i t2 t3 t4 t6h t11b t11n t11k t13 t14 t15 H = f21K1 cw Q rec1 rec2 t0h t0i t2 t3 t4 t6h t11b t11n t11k t13 t14 t15 H := by kernel_rfl
def f21B2 (cw : CallW) (Q : Value → AH → Prop) (rec1 rec2 : St → Prop) (t0h t0i : Nat) (t2 : Int) (t3 t4 : Bool) (t6h : Nat) (t11b : Option Addr) (t11n t11k : Nat) (t13 t14 t15 : Int) (H : AH) : Prop :=
 obI .i64 (H.load t6h (0 + 1)) fun x1 =>
 ifB (decide (t15 < x1)) (
 cw 11 ⟨[.pointer (some ⟨t0h, t0i, none⟩), I 30]⟩ H fun v2 H3 =>
 obI .i64 (some v2) fun x4 =>
 letH (H3.new 0 [I 0, I 0, I 0, I 0, I 0]) fun H5 =>
 obH (H5.storeN H3.next 0 [I t2, I t15, I (IntKind.wrap .i64 (2 * t13)), I 40, I (IntKind.wrap .i64 (8 + x4))]) fun H6 =>
 ifB (t15 == t14) (
 obH (H6.storeN H3.next (0 + 4) [I 0]) fun H7 =>
 cw 11 ⟨[.pointer (some ⟨t0h, t0i, none⟩), I 6]⟩ H7 fun v8 H9 =>
 obI .i64 (some v8) fun x10 =>
 ifB (x10 == 5) (
 obH (H9.storeN H3.next (0 + 3) [I 0]) fun H11 =>
 obI .i64 (H11.load H3.next (0 + 0)) fun x12 =>
 obI .i64 (H11.load H3.next (0 + 1)) fun x13 =>
 obI .i64 (H11.load H3.next (0 + 2)) fun x14 =>
 obI .i64 (H11.load H3.next (0 + 3)) fun x15 =>
 obI .i64 (H11.load H3.next (0 + 4)) fun x16 =>
 letH (H11.new 5 [I x12, I x13, I x14, I x15, I x16]) fun H17 =>
 obG (appendV 5 40 H17 (.slice t11b t11n t11k) (.slice (some ⟨H11.next, 0, none⟩) 1 1)) fun b18 n18 k18 H19 =>
 f21J1 cw Q rec1 rec2 t0h t0i t2 t3 t4 t6h b18 n18 k18 t13 t14 t15 H19) (
 obI .i64 (H9.load H3.next (0 + 0)) fun x20 =>
 obI .i64 (H9.load H3.next (0 + 1)) fun x21 =>
 obI .i64 (H9.load H3.next (0 + 2)) fun x22 =>
 obI .i64 (H9.load H3.next (0 + 3)) fun x23 =>
 obI .i64 (H9.load H3.next (0 + 4)) fun x24 =>
 letH (H9.new 5 [I x20, I x21, I x22, I x23, I x24]) fun H25 =>
 obG (appendV 5 40 H25 (.slice t11b t11n t11k) (.slice (some ⟨H9.next, 0, none⟩) 1 1)) fun b26 n26 k26 H27 =>
 f21J1 cw Q rec1 rec2 t0h t0i t2 t3 t4 t6h b26 n26 k26 t13 t14 t15 H27)) (
 cw 11 ⟨[.pointer (some ⟨t0h, t0i, none⟩), I 6]⟩ H6 fun v28 H29 =>
 obI .i64 (some v28) fun x30 =>
 ifB (x30 == 5) (
 obH (H29.storeN H3.next (0 + 3) [I 0]) fun H31 =>
 obI .i64 (H31.load H3.next (0 + 0)) fun x32 =>
 obI .i64 (H31.load H3.next (0 + 1)) fun x33 =>
 obI .i64 (H31.load H3.next (0 + 2)) fun x34 =>
 obI .i64 (H31.load H3.next (0 + 3)) fun x35 =>
 obI .i64 (H31.load H3.next (0 + 4)) fun x36 =>
 letH (H31.new 5 [I x32, I x33, I x34, I x35, I x36]) fun H37 =>
 obG (appendV 5 40 H37 (.slice t11b t11n t11k) (.slice (some ⟨H31.next, 0, none⟩) 1 1)) fun b38 n38 k38 H39 =>
 f21J1 cw Q rec1 rec2 t0h t0i t2 t3 t4 t6h b38 n38 k38 t13 t14 t15 H39) (
 obI .i64 (H29.load H3.next (0 + 0)) fun x40 =>
 obI .i64 (H29.load H3.next (0 + 1)) fun x41 =>
 obI .i64 (H29.load H3.next (0 + 2)) fun x42 =>
 obI .i64 (H29.load H3.next (0 + 3)) fun x43 =>
 obI .i64 (H29.load H3.next (0 + 4)) fun x44 =>
 letH (H29.new 5 [I x40, I x41, I x42, I x43, I x44]) fun H45 =>
 obG (appendV 5 40 H45 (.slice t11b t11n t11k) (.slice (some ⟨H29.next, 0, none⟩) 1 1)) fun b46 n46 k46 H47 =>
 f21J1 cw Q rec1 rec2 t0h t0i t2 t3 t4 t6h b46 n46 k46 t13 t14 t15 H47))) (
 cw 11 ⟨[.pointer (some ⟨t0h, t0i, none⟩), I 30]⟩ H fun v48 H49 =>
 obI .i64 (some v48) fun x50 =>
 rec1 (f21S1 t0h t0i t2 t3 t4 t6h t11b t11n t11k (IntKind.wrap .i64 ((IntKind.wrap .i64 (t13 + 15)) + x50)) H49))
theorem f21L2_step {cw : CallW} {Q : Value → AH → Prop} {rec1 : St → Prop} {t0h t0i : Nat} {t2 : Int} {t3 t4 : Bool} {t6h : Nat} {t11b : Option Addr} {t11n t11k : Nat} {t13 t14 t15 : Int} {H : AH} (h : f21B2 cw Q rec1 (LoopP (f21W2 cw Q rec1)) t0h t0i t2 t3 t4 t6h t11b t11n t11k t13 t14 t15 H) : f21L2 cw Q rec1 t0h t0i t2 t3 t4 t6h t11b t11n t11k t13 t14 t15 H := LoopP.step (of_eq (by kernel_rfl) h)
def f21B3 (cw : CallW) (Q : Value → AH → Prop) (rec3 : St → Prop) (t0h t0i : Nat) (t2 : Int) (t3 : Bool) (t6h : Nat) (t11b : Option Addr) (t11n t11k : Nat) (t17 : Int) (H : AH) : Prop :=
 join2 (fun J1 =>
 obI .i64 (H.load t6h (0 + 1)) fun x2 =>
 ifB (decide (t17 < x2)) (
 J1 t3 H) (
 J1 false H)) fun c3 H4 =>
 ifB c3 (
 cw 11 ⟨[.pointer (some ⟨t0h, t0i, none⟩), I 40]⟩ H4 fun v5 H6 =>
 obI .i64 (some v5) fun x7 =>
 cw 11 ⟨[.pointer (some ⟨t0h, t0i, none⟩), I 60]⟩ H6 fun v8 H9 =>
 obI .i64 (some v8) fun x10 =>
 letH (H9.new 5 [I t2, I t17, I (IntKind.wrap .i64 (2 * (IntKind.wrap .i64 (20 + x7)))), I 30, I x10]) fun H11 =>
 obG (appendV 5 40 H11 (.slice t11b t11n t11k) (.slice (some ⟨H9.next, 0, none⟩) 1 1)) fun b12 n12 k12 H13 =>
 rec3 (f21S3 t0h t0i t2 t3 t6h b12 n12 k12 (IntKind.wrap .i64 (t17 + 1)) H13)) (
 Q (.slice t11b t11n t11k) H4)
theorem f21L3_step {cw : CallW} {Q : Value → AH → Prop} {t0h t0i : Nat} {t2 : Int} {t3 : Bool} {t6h : Nat} {t11b : Option Addr} {t11n t11k : Nat} {t17 : Int} {H : AH} (h : f21B3 cw Q (LoopP (f21W3 cw Q)) t0h t0i t2 t3 t6h t11b t11n t11k t17 H) : f21L3 cw Q t0h t0i t2 t3 t6h t11b t11n t11k t17 H := LoopP.step (of_eq (by kernel_rfl) h)
def f21B1 (cw : CallW) (Q : Value → AH → Prop) (rec1 : St → Prop) (t0h t0i : Nat) (t2 : Int) (t3 t4 : Bool) (t6h : Nat) (t11b : Option Addr) (t11n t11k : Nat) (t13 : Int) (H : AH) : Prop :=
 join2 (fun J1 =>
 ifB t4 (
 J1 (decide (t13 < 160)) H) (
 J1 false H)) fun c2 H3 =>
 ifB c2 (
 obI .i64 (H3.load t6h (0 + 1)) fun x4 =>
 cw 11 ⟨[.pointer (some ⟨t0h, t0i, none⟩), I x4]⟩ H3 fun v5 H6 =>
 obI .i64 (some v5) fun x7 =>
 f21L2 cw Q rec1 t0h t0i t2 t3 t4 t6h t11b t11n t11k t13 x7 0 H6) (
 f21L3 cw Q t0h t0i t2 t3 t6h t11b t11n t11k 0 H3)
theorem f21L1_step {cw : CallW} {Q : Value → AH → Prop} {t0h t0i : Nat} {t2 : Int} {t3 t4 : Bool} {t6h : Nat} {t11b : Option Addr} {t11n t11k : Nat} {t13 : Int} {H : AH} (h : f21B1 cw Q (LoopP (f21W1 cw Q)) t0h t0i t2 t3 t4 t6h t11b t11n t11k t13 H) : f21L1 cw Q t0h t0i t2 t3 t4 t6h t11b t11n t11k t13 H := LoopP.step (of_eq (by kernel_rfl) h)
def f21B0 (cw : CallW) (Q : Value → AH → Prop) (rec0 : St → Prop) (t0h t0i : Nat) (t2 : Int) (t3 t4 : Bool) (t6h : Nat) (t11b : Option Addr) (t11n t11k : Nat) (t12 : Int) (H : AH) : Prop :=
 obI .i64 (H.load t6h (0 + 1)) fun x1 =>
 ifB (decide (t12 < x1)) (
 letH (H.new 5 [I t2, I t12, I 0, I 40, I 0]) fun H2 =>
 obG (appendV 5 40 H2 (.slice t11b t11n t11k) (.slice (some ⟨H.next, 0, none⟩) 1 1)) fun b3 n3 k3 H4 =>
 join2 (fun J5 =>
 ifB t4 (
 obL (H4.load t6h (0 + 19)) fun b6 n6 k6 =>
 obA (elemS 14 (.slice b6 n6 k6) (I t2)) fun h7 i7 =>
 obI .i64 (H4.load h7 (i7 + 0)) fun x8 =>
 J5 (t12 != x8) H4) (
 J5 false H4)) fun c9 H10 =>
 ifB c9 (
 obA (elemS 5 (.slice b3 n3 k3) (I (IntKind.wrap .i64 ((n3 : Int) - 1)))) fun h11 i11 =>
 obH (H10.storeN h11 (i11 + 4) [I 30]) fun H12 =>
 f21J0 cw Q rec0 t0h t0i t2 t3 t4 t6h b3 n3 k3 t12 H12) (
 f21J0 cw Q rec0 t0h t0i t2 t3 t4 t6h b3 n3 k3 t12 H10)) (
 cw 11 ⟨[.pointer (some ⟨t0h, t0i, none⟩), I 20]⟩ H fun v13 H14 =>
 obI .i64 (some v13) fun x15 =>
 f21L1 cw Q t0h t0i t2 t3 t4 t6h t11b t11n t11k (IntKind.wrap .i64 (10 + x15)) H14)
theorem f21L0_step {cw : CallW} {Q : Value → AH → Prop} {t0h t0i : Nat} {t2 : Int} {t3 t4 : Bool} {t6h : Nat} {t11b : Option Addr} {t11n t11k : Nat} {t12 : Int} {H : AH} (h : f21B0 cw Q (LoopP (f21W0 cw Q)) t0h t0i t2 t3 t4 t6h t11b t11n t11k t12 H) : f21L0 cw Q t0h t0i t2 t3 t4 t6h t11b t11n t11k t12 H := LoopP.step (of_eq (by kernel_rfl) h)
def f21R (cw : CallW) (a0h a0i : Nat) (a1_0 a1_1 a1_2 a1_3 a1_4 a1_5 a1_6 a1_7 a1_8 a1_9 a1_10 a1_11 a1_12 a1_13 a1_14 a1_15 a1_16 a1_17 : Int) (a1_18b : Option Addr) (a1_18n a1_18k : Nat) (a1_19b : Option Addr) (a1_19n a1_19k : Nat) (a2 : Int) (a3 a4 : Bool) (H : AH) (Q : Value → AH → Prop) : Prop :=
 letH (H.new 0 [I a1_0, I a1_1, I a1_2, I a1_3, I a1_4, I a1_5, I a1_6, I a1_7, I a1_8, I a1_9, I a1_10, I a1_11, I a1_12, I a1_13, I a1_14, I a1_15, I a1_16, I a1_17, .slice a1_18b a1_18n a1_18k, .slice a1_19b a1_19n a1_19k]) fun H1 =>
 f21L0 cw Q a0h a0i a2 a3 a4 H.next none 0 0 0 H1
def ks13 : Keeps := fun i => match i with
 | 3 => some [0, 2, 3, 5, 9, 10]
 | 1005 => some [0, 1, 3, 4, 5, 6, 8, 11, 2, 7, 9, 10, 12]
 | _ => none
def f13_n : Nat := 48
def f13S0 (t0h t0i : Nat) (t2 t3 : Int) (t5h : Nat) (t9b : Option Addr) (t9n t9k : Nat) (t10 : Int) (H : AH) : St := (((((((Tr.leaf.put 0 (.pointer (some ⟨t0h, t0i, none⟩))).put 2 (I t2)).put 3 (I t3)).put 5 (.pointer (some ⟨t5h, 0, none⟩))).put 9 (.slice t9b t9n t9k)).put 10 (I t10)), H)
def f13W0 (cw : CallW) (Q : Value → AH → Prop) : (St → Prop) → St → Prop := fun rec0 s =>
 execW Tryz.prog cw ks13 f13_n (cL (cL (cR (cL (cR (cR (bodyOf Tryz.f13))))))) (kLoop ks13 (cL (cL (cR (cL (cR (cR (bodyOf Tryz.f13))))))) rec0 (kBlock ks13 0 (kSeq (execW Tryz.prog cw ks13 f13_n (cR (cR (cR (bodyOf Tryz.f13))))) (kRet Tryz.prog Tryz.f13 Q)))) s
def f13L0 (cw : CallW) (Q : Value → AH → Prop) (t0h t0i : Nat) (t2 t3 : Int) (t5h : Nat) (t9b : Option Addr) (t9n t9k : Nat) (t10 : Int) (H : AH) : Prop := LoopP (f13W0 cw Q) (f13S0 t0h t0i t2 t3 t5h t9b t9n t9k t10 H)
def f13B0 (cw : CallW) (Q : Value → AH → Prop) (rec0 : St → Prop) (t0h t0i : Nat) (t2 t3 : Int) (t5h : Nat) (t9b : Option Addr) (t9n t9k : Nat) (t10 : Int) (H : AH) : Prop :=
 ifB (decide (t10 < t2)) (
 obL (H.load t5h (0 + 19)) fun b1 n1 k1 =>
 letH (H.new 0 [I 0, I 0, I 0, I 0, .slice none 0 0]) fun H2 =>
 cw 11 ⟨[.pointer (some ⟨t0h, t0i, none⟩), I t3]⟩ H2 fun v3 H4 =>
 obI .i64 (some v3) fun x5 =>
 cw 11 ⟨[.pointer (some ⟨t0h, t0i, none⟩), I (n1 : Int)]⟩ H4 fun v6 H7 =>
 obI .i64 (some v6) fun x8 =>
 cw 11 ⟨[.pointer (some ⟨t0h, t0i, none⟩), I 2]⟩ H7 fun v9 H10 =>
 obI .i64 (some v9) fun x11 =>
 obH (H10.storeN H.next 0 [I x5, I x8, I 0, I x11, .slice none 0 0]) fun H12 =>
 obE1 (H4.load t5h (0 + 19)) (.slice b1 n1 k1) (
 obE1 (H2.load t5h (0 + 19)) (.slice b1 n1 k1) (
 obL (H12.load t5h (0 + 19)) fun b13 n13 k13 =>
 obI .i64 (H12.load H.next (0 + 1)) fun x14 =>
 obA (elemS 14 (.slice b13 n13 k13) (I x14)) fun h15 i15 =>
 obL (H12.load h15 (i15 + 2)) fun b16 n16 k16 =>
 cw 11 ⟨[.pointer (some ⟨t0h, t0i, none⟩), I (n16 : Int)]⟩ H12 fun v17 H18 =>
 obI .i64 (some v17) fun x19 =>
 obH (H18.storeN H.next (0 + 2) [I x19]) fun H20 =>
 cw 24 ⟨[.pointer (some ⟨t0h, t0i, none⟩), I t10]⟩ H20 fun v21 H22 =>
 obL (some v21) fun b23 n23 k23 =>
 obH (H22.storeN H.next (0 + 4) [.slice b23 n23 k23]) fun H24 =>
 obI .i64 (H24.load H.next (0 + 0)) fun x25 =>
 obI .i64 (H24.load H.next (0 + 1)) fun x26 =>
 obI .i64 (H24.load H.next (0 + 2)) fun x27 =>
 obI .i64 (H24.load H.next (0 + 3)) fun x28 =>
 obL (H24.load H.next (0 + 4)) fun b29 n29 k29 =>
 letH (H24.new 5 [I x25, I x26, I x27, I x28, .slice b29 n29 k29]) fun H30 =>
 obG (appendV 5 56 H30 (.slice t9b t9n t9k) (.slice (some ⟨H24.next, 0, none⟩) 1 1)) fun b31 n31 k31 H32 =>
 rec0 (f13S0 t0h t0i t2 t3 t5h b31 n31 k31 (IntKind.wrap .i64 (t10 + 1)) H32)))) (
 Q (.slice t9b t9n t9k) H)
theorem f13L0_step {cw : CallW} {Q : Value → AH → Prop} {t0h t0i : Nat} {t2 t3 : Int} {t5h : Nat} {t9b : Option Addr} {t9n t9k : Nat} {t10 : Int} {H : AH} (h : f13B0 cw Q (LoopP (f13W0 cw Q)) t0h t0i t2 t3 t5h t9b t9n t9k t10 H) : f13L0 cw Q t0h t0i t2 t3 t5h t9b t9n t9k t10 H := LoopP.step (of_eq (by kernel_rfl) h)
def f13R (cw : CallW) (a0h a0i : Nat) (a1_0 a1_1 a1_2 a1_3 a1_4 a1_5 a1_6 a1_7 a1_8 a1_9 a1_10 a1_11 a1_12 a1_13 a1_14 a1_15 a1_16 a1_17 : Int) (a1_18b : Option Addr) (a1_18n a1_18k : Nat) (a1_19b : Option Addr) (a1_19n a1_19k : Nat) (a2 a3 : Int) (H : AH) (Q : Value → AH → Prop) : Prop :=
 letH (H.new 0 [I a1_0, I a1_1, I a1_2, I a1_3, I a1_4, I a1_5, I a1_6, I a1_7, I a1_8, I a1_9, I a1_10, I a1_11, I a1_12, I a1_13, I a1_14, I a1_15, I a1_16, I a1_17, .slice a1_18b a1_18n a1_18k, .slice a1_19b a1_19n a1_19k]) fun H1 =>
 f13L0 cw Q a0h a0i a2 a3 H.next none 0 0 0 H1
def ks24 : Keeps := fun i => match i with
 | 3000 => some [0, 1, 5]
 | _ => none
def f24_n : Nat := 54
def f24T0 (t0h t0i : Nat) (t1 : Int) (t5h : Nat) (H : AH) : St := ((((Tr.leaf.put 0 (.pointer (some ⟨t0h, t0i, none⟩))).put 1 (I t1)).put 5 (.pointer (some ⟨t5h, 0, none⟩))), H)
def f24J0 (cw : CallW) (Q : Value → AH → Prop) (t0h t0i : Nat) (t1 : Int) (t5h : Nat) (H : AH) : Prop := (kSeq (execW Tryz.prog cw ks24 f24_n (cR (cR (cR (bodyOf Tryz.f24))))) (kRet Tryz.prog Tryz.f24 Q)) .normal (f24T0 t0h t0i t1 t5h H)
def f24K0 (cw : CallW) (Q : Value → AH → Prop) (t0h t0i : Nat) (t1 : Int) (t5h : Nat) (H : AH) : Prop :=
 obI .i64 (H.load t5h (0 + 0)) fun x1 =>
 obI .i64 (H.load t5h (0 + 1)) fun x2 =>
 obI .i64 (H.load t5h (0 + 2)) fun x3 =>
 obI .i64 (H.load t5h (0 + 3)) fun x4 =>
 obI .i64 (H.load t5h (0 + 4)) fun x5 =>
 obI .i64 (H.load t5h (0 + 5)) fun x6 =>
 obI .i64 (H.load t5h (0 + 6)) fun x7 =>
 obI .i64 (H.load t5h (0 + 7)) fun x8 =>
 obI .i64 (H.load t5h (0 + 8)) fun x9 =>
 obI .i64 (H.load t5h (0 + 9)) fun x10 =>
 obI .i64 (H.load t5h (0 + 10)) fun x11 =>
 obI .i64 (H.load t5h (0 + 11)) fun x12 =>
 obI .i64 (H.load t5h (0 + 12)) fun x13 =>
 obI .i64 (H.load t5h (0 + 13)) fun x14 =>
 obI .i64 (H.load t5h (0 + 14)) fun x15 =>
 cw 11 ⟨[.pointer (some ⟨t0h, t0i, none⟩), I 20]⟩ H fun v16 H17 =>
 obI .i64 (some v16) fun x18 =>
 cw 47 ⟨[.pointer (some ⟨t0h, t0i, none⟩), I (IntKind.wrap .i64 (1 + x18))]⟩ H17 fun v19 H20 =>
 obL (some v19) fun b21 n21 k21 =>
 cw 48 ⟨[.agg ⟨[I x1, I x2, I x3, I x4, I x5, I x6, I x7, I x8, I x9, I x10, I x11, I x12, I x13, I x14, I x15]⟩, .slice b21 n21 k21]⟩ H20 fun v22 H23 =>
 obL (tupV 0 v22) fun b25 n25 k25 =>
 obI .i64 (tupV 1 v22) fun x26 =>
 obE1 (H20.load t5h (0 + 0)) (I x1) (
 obE1 (H20.load t5h (0 + 1)) (I x2) (
 obE1 (H20.load t5h (0 + 2)) (I x3) (
 obE1 (H20.load t5h (0 + 3)) (I x4) (
 obE1 (H20.load t5h (0 + 4)) (I x5) (
 obE1 (H20.load t5h (0 + 5)) (I x6) (
 obE1 (H20.load t5h (0 + 6)) (I x7) (
 obE1 (H20.load t5h (0 + 7)) (I x8) (
 obE1 (H20.load t5h (0 + 8)) (I x9) (
 obE1 (H20.load t5h (0 + 9)) (I x10) (
 obE1 (H20.load t5h (0 + 10)) (I x11) (
 obE1 (H20.load t5h (0 + 11)) (I x12) (
 obE1 (H20.load t5h (0 + 12)) (I x13) (
 obE1 (H20.load t5h (0 + 13)) (I x14) (
 obE1 (H20.load t5h (0 + 14)) (I x15) (
 obE1 (H17.load t5h (0 + 0)) (I x1) (
 obE1 (H17.load t5h (0 + 1)) (I x2) (
 obE1 (H17.load t5h (0 + 2)) (I x3) (
 obE1 (H17.load t5h (0 + 3)) (I x4) (
 obE1 (H17.load t5h (0 + 4)) (I x5) (
 obE1 (H17.load t5h (0 + 5)) (I x6) (
 obE1 (H17.load t5h (0 + 6)) (I x7) (
 obE1 (H17.load t5h (0 + 7)) (I x8) (
 obE1 (H17.load t5h (0 + 8)) (I x9) (
 obE1 (H17.load t5h (0 + 9)) (I x10) (
 obE1 (H17.load t5h (0 + 10)) (I x11) (
 obE1 (H17.load t5h (0 + 11)) (I x12) (
 obE1 (H17.load t5h (0 + 12)) (I x13) (
 obE1 (H17.load t5h (0 + 13)) (I x14) (
 obE1 (H17.load t5h (0 + 14)) (I x15) (
 ifB (x26 != 0) (
 letH (H23.new 1 [.int .u8 (IntKind.wrap .u8 t1), .int .u8 1]) fun H27 =>
 Q (.slice (some ⟨H23.next, 0, none⟩) 2 2) H27) (
 Q (.slice b25 n25 k25) H23)))))))))))))))))))))))))))))))
theorem f24J0_eq (cw : CallW) (Q : Value → AH → Prop) (t0h t0i : Nat) (t1 : Int) (t5h : Nat) (H : AH) : f24J0 cw Q t0h t0i t1 t5h H = f24K0 cw Q t0h t0i t1 t5h H := by kernel_rfl
def f24R (cw : CallW) (a0h a0i : Nat) (a1 : Int) (H : AH) (Q : Value → AH → Prop) : Prop :=
 obI .i64 (aInt .rem .i64 (IntKind.wrap .i64 (100 + a1)) 65536) fun x1 =>
 letH (H.new 0 [I 0, I 0, I 0, I 0, I 0, I 0, I 0, I 0, I 0, I 0, I 0, I 0, I 0, I 0, I 0]) fun H2 =>
 obH (H2.storeN H.next 0 [I 1, I 0, I x1, I 0, I 64, I 167772161, I 167772162, I 1000, I 2000, I 0, I 0, I 0, I 0, I 0, I 0]) fun H3 =>
 cw 11 ⟨[.pointer (some ⟨a0h, a0i, none⟩), I 4]⟩ H3 fun v4 H5 =>
 obI .i64 (some v4) fun x6 =>
 ifB (x6 == 0) (
 letH (H5.new 1 [.int .u8 (IntKind.wrap .u8 a1)]) fun H7 =>
 cw 11 ⟨[.pointer (some ⟨a0h, a0i, none⟩), I 30]⟩ H7 fun v8 H9 =>
 obI .i64 (some v8) fun x10 =>
 cw 47 ⟨[.pointer (some ⟨a0h, a0i, none⟩), I (IntKind.wrap .i64 (1 + x10))]⟩ H9 fun v11 H12 =>
 obL (some v11) fun b13 n13 k13 =>
 obG (appendV 1 1 H12 (.slice (some ⟨H5.next, 0, none⟩) 1 1) (.slice b13 n13 k13)) fun b14 n14 k14 H15 =>
 Q (.slice b14 n14 k14) H15) (
 ifB (x6 == 1) (
 obI .i64 (aInt .rem .i64 (IntKind.wrap .i64 (500 + a1)) 65536) fun x16 =>
 obH (H5.storeN H.next (0 + 0) [I 2]) fun H17 =>
 obH (H17.storeN H.next (0 + 12) [I x16]) fun H18 =>
 obH (H18.storeN H.next (0 + 13) [I (IntKind.wrap .i64 (160 * a1))]) fun H19 =>
 obH (H19.storeN H.next (0 + 14) [I 77]) fun H20 =>
 obH (H20.storeN H.next (0 + 11) [I 8]) fun H21 =>
 obH (H21.storeN H.next (0 + 7) [I 1002]) fun H22 =>
 f24J0 cw Q a0h a0i a1 H.next H22) (
 f24J0 cw Q a0h a0i a1 H.next H5))
def ks47 : Keeps := fun i => match i with
 | 4 => some [1, 5, 6, 7]
 | _ => none
def f47_n : Nat := 28
def f47S0 (t1 : Int) (t5b : Option Addr) (t5n t5k : Nat) (t6 t7 : Int) (H : AH) : St := (((((Tr.leaf.put 1 (I t1)).put 5 (.slice t5b t5n t5k)).put 6 (I t6)).put 7 (I t7)), H)
def f47W0 (cw : CallW) (Q : Value → AH → Prop) : (St → Prop) → St → Prop := fun rec0 s =>
 execW Tryz.prog cw ks47 f47_n (cL (cL (cR (cL (cR (cR (cR (bodyOf Tryz.f47)))))))) (kLoop ks47 (cL (cL (cR (cL (cR (cR (cR (bodyOf Tryz.f47)))))))) rec0 (kBlock ks47 0 (kSeq (execW Tryz.prog cw ks47 f47_n (cR (cR (cR (cR (bodyOf Tryz.f47)))))) (kRet Tryz.prog Tryz.f47 Q)))) s
def f47L0 (cw : CallW) (Q : Value → AH → Prop) (t1 : Int) (t5b : Option Addr) (t5n t5k : Nat) (t6 t7 : Int) (H : AH) : Prop := LoopP (f47W0 cw Q) (f47S0 t1 t5b t5n t5k t6 t7 H)
def f47B0 (cw : CallW) (Q : Value → AH → Prop) (rec0 : St → Prop) (t1 : Int) (t5b : Option Addr) (t5n t5k : Nat) (t6 t7 : Int) (H : AH) : Prop :=
 ifB (decide (t7 < t1)) (
 obA (elemS 1 (.slice t5b t5n t5k) (I t7)) fun h1 i1 =>
 obH (H.storeN h1 i1 [.int .u8 (IntKind.wrap .u8 (IntKind.wrap .i64 (t6 + (IntKind.wrap .i64 (t7 * (IntKind.wrap .i64 (t6 + 7)))))))]) fun H2 =>
 rec0 (f47S0 t1 t5b t5n t5k t6 (IntKind.wrap .i64 (t7 + 1)) H2)) (
 Q (.slice t5b t5n t5k) H)
theorem f47L0_step {cw : CallW} {Q : Value → AH → Prop} {t1 : Int} {t5b : Option Addr} {t5n t5k : Nat} {t6 t7 : Int} {H : AH} (h : f47B0 cw Q (LoopP (f47W0 cw Q)) t1 t5b t5n t5k t6 t7 H) : f47L0 cw Q t1 t5b t5n t5k t6 t7 H := LoopP.step (of_eq (by kernel_rfl) h)
def f47R (cw : CallW) (a0h a0i : Nat) (a1 : Int) (H : AH) (Q : Value → AH → Prop) : Prop :=
 obG (makeV 1 1 [.int .u8 0] H (I a1) (I a1)) fun b1 n1 k1 H2 =>
 cw 11 ⟨[.pointer (some ⟨a0h, a0i, none⟩), I 256]⟩ H2 fun v3 H4 =>
 obI .i64 (some v3) fun x5 =>
 f47L0 cw Q a1 b1 n1 k1 x5 0 H4
def ks48 : Keeps := fun i => match i with
 | _ => none
def f48R (cw : CallW) (a0_0 a0_1 a0_2 a0_3 a0_4 a0_5 a0_6 a0_7 a0_8 a0_9 a0_10 a0_11 a0_12 a0_13 a0_14 : Int) (a1b : Option Addr) (a1n a1k : Nat) (H : AH) (Q : Value → AH → Prop) : Prop :=
 letH (H.new 0 [I a0_0, I a0_1, I a0_2, I a0_3, I a0_4, I a0_5, I a0_6, I a0_7, I a0_8, I a0_9, I a0_10, I a0_11, I a0_12, I a0_13, I a0_14]) fun H1 =>
 obI .i64 (H1.load H.next (0 + 0)) fun x2 =>
 obI .i64 (H1.load H.next (0 + 1)) fun x3 =>
 obI .i64 (H1.load H.next (0 + 2)) fun x4 =>
 obI .i64 (H1.load H.next (0 + 3)) fun x5 =>
 obI .i64 (H1.load H.next (0 + 4)) fun x6 =>
 obI .i64 (H1.load H.next (0 + 5)) fun x7 =>
 obI .i64 (H1.load H.next (0 + 6)) fun x8 =>
 obI .i64 (H1.load H.next (0 + 7)) fun x9 =>
 obI .i64 (H1.load H.next (0 + 8)) fun x10 =>
 obI .i64 (H1.load H.next (0 + 9)) fun x11 =>
 obI .i64 (H1.load H.next (0 + 10)) fun x12 =>
 obI .i64 (H1.load H.next (0 + 11)) fun x13 =>
 obI .i64 (H1.load H.next (0 + 12)) fun x14 =>
 obI .i64 (H1.load H.next (0 + 13)) fun x15 =>
 obI .i64 (H1.load H.next (0 + 14)) fun x16 =>
 cw 70 ⟨[.agg ⟨[I x2, I x3, I x4, I x5, I x6, I x7, I x8, I x9, I x10, I x11, I x12, I x13, I x14, I x15, I x16]⟩]⟩ H1 fun v17 H18 =>
 obB (some v17) fun c19 =>
 ifB (!c19) (
 Q (.tuple ⟨[.slice none 0 0, I 1]⟩) H18) (
 obI .i64 (H18.load H.next (0 + 0)) fun x20 =>
 obI .i64 (H18.load H.next (0 + 1)) fun x21 =>
 obI .i64 (H18.load H.next (0 + 2)) fun x22 =>
 obI .i64 (H18.load H.next (0 + 3)) fun x23 =>
 obI .i64 (H18.load H.next (0 + 4)) fun x24 =>
 obI .i64 (H18.load H.next (0 + 5)) fun x25 =>
 obI .i64 (H18.load H.next (0 + 6)) fun x26 =>
 obI .i64 (H18.load H.next (0 + 7)) fun x27 =>
 obI .i64 (H18.load H.next (0 + 8)) fun x28 =>
 obI .i64 (H18.load H.next (0 + 9)) fun x29 =>
 obI .i64 (H18.load H.next (0 + 10)) fun x30 =>
 obI .i64 (H18.load H.next (0 + 11)) fun x31 =>
 obI .i64 (H18.load H.next (0 + 12)) fun x32 =>
 obI .i64 (H18.load H.next (0 + 13)) fun x33 =>
 obI .i64 (H18.load H.next (0 + 14)) fun x34 =>
 cw 71 ⟨[.agg ⟨[I x20, I x21, I x22, I x23, I x24, I x25, I x26, I x27, I x28, I x29, I x30, I x31, I x32, I x33, I x34]⟩]⟩ H18 fun v35 H36 =>
 obL (some v35) fun b37 n37 k37 =>
 obG (appendV 1 1 H36 (.slice b37 n37 k37) (.slice a1b a1n a1k)) fun b38 n38 k38 H39 =>
 ifB (decide ((n38 : Int) > 1500)) (
 Q (.tuple ⟨[.slice none 0 0, I 2]⟩) H39) (
 cw 72 ⟨[.slice b38 n38 k38, I 2, I (n38 : Int)]⟩ H39 fun v40 H41 =>
 cw 72 ⟨[.slice b38 n38 k38, I 24, I (IntKind.wrap .i64 ((n38 : Int) - 20))]⟩ H41 fun v43 H44 =>
 obL (sliceV 1 H44 (.slice b38 n38 k38) none (some (I 20))) fun b46 n46 k46 =>
 cw 73 ⟨[.slice b46 n46 k46]⟩ H44 fun v47 H48 =>
 obI .i64 (some v47) fun x49 =>
 cw 72 ⟨[.slice b38 n38 k38, I 10, I x49]⟩ H48 fun v50 H51 =>
 Q (.tuple ⟨[.slice b38 n38 k38, I 0]⟩) H51))
def ks70 : Keeps := fun i => match i with
 | 2001 => some [1, 64]
 | 2004 => some [2]
 | 2005 => some [2]
 | 4001 => some [64]
 | 4004 => some [2]
 | 4005 => some [2]
 | _ => none
def f70R (cw : CallW) (a0_0 a0_1 a0_2 a0_3 a0_4 a0_5 a0_6 a0_7 a0_8 a0_9 a0_10 a0_11 a0_12 a0_13 a0_14 : Int) (H : AH) (Q : Value → AH → Prop) : Prop :=
 letH (H.new 0 [I a0_0, I a0_1, I a0_2, I a0_3, I a0_4, I a0_5, I a0_6, I a0_7, I a0_8, I a0_9, I a0_10, I a0_11, I a0_12, I a0_13, I a0_14]) fun H1 =>
 join2 (fun J2 =>
 obI .i64 (H1.load H.next (0 + 0)) fun x3 =>
 ifB (x3 != 1) (
 obI .i64 (H1.load H.next (0 + 0)) fun x4 =>
 ifB (x4 != 2) (
 J2 true H1) (
 obI .i64 (H1.load H.next (0 + 1)) fun x5 =>
 cw 101 ⟨[I x5, I 255]⟩ H1 fun v6 H7 =>
 obB (some v6) fun c8 =>
 ifB (!c8) (
 J2 true H7) (
 obI .i64 (H7.load H.next (0 + 4)) fun x9 =>
 cw 101 ⟨[I x9, I 255]⟩ H7 fun v10 H11 =>
 obB (some v10) fun c12 =>
 ifB (!c12) (
 J2 true H11) (
 obI .i64 (H11.load H.next (0 + 2)) fun x13 =>
 cw 101 ⟨[I x13, I 65535]⟩ H11 fun v14 H15 =>
 obB (some v14) fun c16 =>
 ifB (!c16) (
 J2 true H15) (
 obI .i64 (H15.load H.next (0 + 7)) fun x17 =>
 cw 101 ⟨[I x17, I 65535]⟩ H15 fun v18 H19 =>
 obB (some v18) fun c20 =>
 ifB (!c20) (
 J2 true H19) (
 obI .i64 (H19.load H.next (0 + 8)) fun x21 =>
 cw 101 ⟨[I x21, I 65535]⟩ H19 fun v22 H23 =>
 obB (some v22) fun c24 =>
 ifB (!c24) (
 J2 true H23) (
 obI .i64 (H23.load H.next (0 + 9)) fun x25 =>
 cw 101 ⟨[I x25, I 65535]⟩ H23 fun v26 H27 =>
 obB (some v26) fun c28 =>
 ifB (!c28) (
 J2 true H27) (
 obI .i64 (H27.load H.next (0 + 3)) fun x29 =>
 cw 101 ⟨[I x29, I 1]⟩ H27 fun v30 H31 =>
 obB (some v30) fun c32 =>
 ifB (!c32) (
 J2 true H31) (
 obI .i64 (H31.load H.next (0 + 5)) fun x33 =>
 cw 101 ⟨[I x33, I 4294967295]⟩ H31 fun v34 H35 =>
 obB (some v34) fun c36 =>
 ifB (!c36) (
 J2 true H35) (
 obI .i64 (H35.load H.next (0 + 6)) fun x37 =>
 cw 101 ⟨[I x37, I 4294967295]⟩ H35 fun v38 H39 =>
 obB (some v38) fun c40 =>
 J2 (!c40) H39)))))))))) (
 obI .i64 (H1.load H.next (0 + 1)) fun x41 =>
 cw 101 ⟨[I x41, I 255]⟩ H1 fun v42 H43 =>
 obB (some v42) fun c44 =>
 ifB (!c44) (
 J2 true H43) (
 obI .i64 (H43.load H.next (0 + 4)) fun x45 =>
 cw 101 ⟨[I x45, I 255]⟩ H43 fun v46 H47 =>
 obB (some v46) fun c48 =>
 ifB (!c48) (
 J2 true H47) (
 obI .i64 (H47.load H.next (0 + 2)) fun x49 =>
 cw 101 ⟨[I x49, I 65535]⟩ H47 fun v50 H51 =>
 obB (some v50) fun c52 =>
 ifB (!c52) (
 J2 true H51) (
 obI .i64 (H51.load H.next (0 + 7)) fun x53 =>
 cw 101 ⟨[I x53, I 65535]⟩ H51 fun v54 H55 =>
 obB (some v54) fun c56 =>
 ifB (!c56) (
 J2 true H55) (
 obI .i64 (H55.load H.next (0 + 8)) fun x57 =>
 cw 101 ⟨[I x57, I 65535]⟩ H55 fun v58 H59 =>
 obB (some v58) fun c60 =>
 ifB (!c60) (
 J2 true H59) (
 obI .i64 (H59.load H.next (0 + 9)) fun x61 =>
 cw 101 ⟨[I x61, I 65535]⟩ H59 fun v62 H63 =>
 obB (some v62) fun c64 =>
 ifB (!c64) (
 J2 true H63) (
 obI .i64 (H63.load H.next (0 + 3)) fun x65 =>
 cw 101 ⟨[I x65, I 1]⟩ H63 fun v66 H67 =>
 obB (some v66) fun c68 =>
 ifB (!c68) (
 J2 true H67) (
 obI .i64 (H67.load H.next (0 + 5)) fun x69 =>
 cw 101 ⟨[I x69, I 4294967295]⟩ H67 fun v70 H71 =>
 obB (some v70) fun c72 =>
 ifB (!c72) (
 J2 true H71) (
 obI .i64 (H71.load H.next (0 + 6)) fun x73 =>
 cw 101 ⟨[I x73, I 4294967295]⟩ H71 fun v74 H75 =>
 obB (some v74) fun c76 =>
 J2 (!c76) H75)))))))))) fun c77 H78 =>
 ifB c77 (
 Q (.bool false) H78) (
 obI .i64 (H78.load H.next (0 + 0)) fun x79 =>
 ifB (x79 == 1) (
 join2 (fun J80 =>
 obI .i64 (H78.load H.next (0 + 10)) fun x81 =>
 ifB (x81 == 0) (
 obI .i64 (H78.load H.next (0 + 11)) fun x82 =>
 ifB (x82 == 0) (
 obI .i64 (H78.load H.next (0 + 12)) fun x83 =>
 ifB (x83 == 0) (
 obI .i64 (H78.load H.next (0 + 13)) fun x84 =>
 ifB (x84 == 0) (
 obI .i64 (H78.load H.next (0 + 14)) fun x85 =>
 J80 (x85 == 0) H78) (
 J80 false H78)) (
 J80 false H78)) (
 J80 false H78)) (
 J80 false H78)) fun c86 H87 =>
 Q (.bool c86) H87) (
 join2 (fun J88 =>
 obI .i64 (H78.load H.next (0 + 10)) fun x89 =>
 cw 101 ⟨[I x89, I 1]⟩ H78 fun v90 H91 =>
 obB (some v90) fun c92 =>
 ifB c92 (
 obI .i64 (H91.load H.next (0 + 11)) fun x93 =>
 cw 101 ⟨[I x93, I 127]⟩ H91 fun v94 H95 =>
 obB (some v94) fun c96 =>
 ifB c96 (
 obI .i64 (H95.load H.next (0 + 12)) fun x97 =>
 cw 101 ⟨[I x97, I 65535]⟩ H95 fun v98 H99 =>
 obB (some v98) fun c100 =>
 ifB c100 (
 obI .i64 (H99.load H.next (0 + 13)) fun x101 =>
 cw 101 ⟨[I x101, I 4294967295]⟩ H99 fun v102 H103 =>
 obB (some v102) fun c104 =>
 ifB c104 (
 obI .i64 (H103.load H.next (0 + 14)) fun x105 =>
 cw 101 ⟨[I x105, I 4294967295]⟩ H103 fun v106 H107 =>
 obB (some v106) fun c108 =>
 J88 c108 H107) (
 J88 false H103)) (
 J88 false H99)) (
 J88 false H95)) (
 J88 false H91)) fun c109 H110 =>
 Q (.bool c109) H110))
def ks71 : Keeps := fun i => match i with
 | 1008 => some [0, 1, 3, 4, 2, 5, 6]
 | _ => none
def f71R (cw : CallW) (a0_0 a0_1 a0_2 a0_3 a0_4 a0_5 a0_6 a0_7 a0_8 a0_9 a0_10 a0_11 a0_12 a0_13 a0_14 : Int) (H : AH) (Q : Value → AH → Prop) : Prop :=
 letH (H.new 0 [I a0_0, I a0_1, I a0_2, I a0_3, I a0_4, I a0_5, I a0_6, I a0_7, I a0_8, I a0_9, I a0_10, I a0_11, I a0_12, I a0_13, I a0_14]) fun H1 =>
 obI .i64 (H1.load H.next (0 + 0)) fun x2 =>
 obI .i64 (H1.load H.next (0 + 1)) fun x3 =>
 obI .i64 (H1.load H.next (0 + 2)) fun x4 =>
 obI .i64 (H1.load H.next (0 + 3)) fun x5 =>
 obI .i64 (H1.load H.next (0 + 4)) fun x6 =>
 obI .i64 (H1.load H.next (0 + 5)) fun x7 =>
 obI .i64 (H1.load H.next (0 + 6)) fun x8 =>
 obI .i64 (H1.load H.next (0 + 7)) fun x9 =>
 obI .i64 (H1.load H.next (0 + 8)) fun x10 =>
 obI .i64 (H1.load H.next (0 + 9)) fun x11 =>
 obI .i64 (H1.load H.next (0 + 10)) fun x12 =>
 obI .i64 (H1.load H.next (0 + 11)) fun x13 =>
 obI .i64 (H1.load H.next (0 + 12)) fun x14 =>
 obI .i64 (H1.load H.next (0 + 13)) fun x15 =>
 obI .i64 (H1.load H.next (0 + 14)) fun x16 =>
 cw 70 ⟨[.agg ⟨[I x2, I x3, I x4, I x5, I x6, I x7, I x8, I x9, I x10, I x11, I x12, I x13, I x14, I x15, I x16]⟩]⟩ H1 fun v17 H18 =>
 obB (some v17) fun c19 =>
 ifB (!c19) (
 Q (.slice none 0 0) H18) (
 obI .i64 (H18.load H.next (0 + 1)) fun x20 =>
 letH (H18.new 1 [.int .u8 69, .int .u8 (IntKind.wrap .u8 x20), .int .u8 0, .int .u8 0]) fun H21 =>
 obI .i64 (H21.load H.next (0 + 2)) fun x22 =>
 cw 102 ⟨[.slice (some ⟨H18.next, 0, none⟩) 4 4, I 2, I x22]⟩ H21 fun v23 H24 =>
 obL (some v23) fun b25 n25 k25 =>
 obI .i64 (H24.load H.next (0 + 3)) fun x26 =>
 obI .i64 (H24.load H.next (0 + 4)) fun x27 =>
 letH (H24.new 1 [.int .u8 (IntKind.wrap .u8 (IntKind.wrap .i64 (64 * x26))), .int .u8 0, .int .u8 (IntKind.wrap .u8 x27), .int .u8 17, .int .u8 0, .int .u8 0]) fun H28 =>
 obG (appendV 1 1 H28 (.slice b25 n25 k25) (.slice (some ⟨H24.next, 0, none⟩) 6 6)) fun b29 n29 k29 H30 =>
 obI .i64 (H30.load H.next (0 + 5)) fun x31 =>
 cw 102 ⟨[.slice b29 n29 k29, I 4, I x31]⟩ H30 fun v32 H33 =>
 obL (some v32) fun b34 n34 k34 =>
 obI .i64 (H33.load H.next (0 + 6)) fun x35 =>
 cw 102 ⟨[.slice b34 n34 k34, I 4, I x35]⟩ H33 fun v36 H37 =>
 obL (some v36) fun b38 n38 k38 =>
 obE1 (H30.load H.next (0 + 6)) (I x35) (
 obI .i64 (H37.load H.next (0 + 7)) fun x39 =>
 cw 102 ⟨[.slice b38 n38 k38, I 2, I x39]⟩ H37 fun v40 H41 =>
 obL (some v40) fun b42 n42 k42 =>
 obI .i64 (H41.load H.next (0 + 8)) fun x43 =>
 cw 102 ⟨[.slice b42 n42 k42, I 2, I x43]⟩ H41 fun v44 H45 =>
 obL (some v44) fun b46 n46 k46 =>
 obE1 (H37.load H.next (0 + 8)) (I x43) (
 letH (H45.new 1 [.int .u8 0, .int .u8 0]) fun H47 =>
 obI .i64 (H47.load H.next (0 + 9)) fun x48 =>
 obG (appendV 1 1 H47 (.slice b46 n46 k46) (.slice (some ⟨H45.next, 0, none⟩) 2 2)) fun b49 n49 k49 H50 =>
 cw 102 ⟨[.slice b49 n49 k49, I 2, I x48]⟩ H50 fun v51 H52 =>
 obL (some v51) fun b53 n53 k53 =>
 obE1 (H50.load H.next (0 + 9)) (I x48) (
 obE1 (H47.load H.next (0 + 9)) (I x48) (
 obI .i64 (H52.load H.next (0 + 0)) fun x54 =>
 ifB (x54 == 2) (
 obI .i64 (H52.load H.next (0 + 10)) fun x55 =>
 obI .i64 (H52.load H.next (0 + 11)) fun x56 =>
 letH (H52.new 1 [.int .u8 128, .int .u8 (IntKind.wrap .u8 (IntKind.wrap .i64 ((IntKind.wrap .i64 (128 * x55)) + x56)))]) fun H57 =>
 obG (appendV 1 1 H57 (.slice b53 n53 k53) (.slice (some ⟨H52.next, 0, none⟩) 2 2)) fun b58 n58 k58 H59 =>
 obI .i64 (H59.load H.next (0 + 12)) fun x60 =>
 cw 102 ⟨[.slice b58 n58 k58, I 2, I x60]⟩ H59 fun v61 H62 =>
 obL (some v61) fun b63 n63 k63 =>
 obI .i64 (H62.load H.next (0 + 13)) fun x64 =>
 cw 102 ⟨[.slice b63 n63 k63, I 4, I x64]⟩ H62 fun v65 H66 =>
 obL (some v65) fun b67 n67 k67 =>
 obI .i64 (H66.load H.next (0 + 14)) fun x68 =>
 cw 102 ⟨[.slice b67 n67 k67, I 4, I x68]⟩ H66 fun v69 H70 =>
 obL (some v69) fun b71 n71 k71 =>
 obE1 (H59.load H.next (0 + 13)) (I x64) (
 obE1 (H62.load H.next (0 + 14)) (I x68) (
 obE1 (H59.load H.next (0 + 14)) (I x68) (
 Q (.slice b71 n71 k71) H70)))) (
 Q (.slice b53 n53 k53) H52))))))
def ks72 : Keeps := fun i => match i with
 | _ => none
def f72R (cw : CallW) (a0b : Option Addr) (a0n a0k : Nat) (a1 a2 : Int) (H : AH) (Q : Value → AH → Prop) : Prop :=
 obI .i64 (aInt .quo .i64 a2 256) fun x1 =>
 obI .i64 (aInt .rem .i64 a2 256) fun x2 =>
 obA (elemS 1 (.slice a0b a0n a0k) (I a1)) fun h3 i3 =>
 obH (H.storeN h3 i3 [.int .u8 (IntKind.wrap .u8 x1)]) fun H4 =>
 obA (elemS 1 (.slice a0b a0n a0k) (I (IntKind.wrap .i64 (a1 + 1)))) fun h5 i5 =>
 obH (H4.storeN h5 i5 [.int .u8 (IntKind.wrap .u8 x2)]) fun H6 =>
 Q (.tuple ⟨[]⟩) H6
def ks73 : Keeps := fun i => match i with
 | _ => none
def f73R (cw : CallW) (a0b : Option Addr) (a0n a0k : Nat) (H : AH) (Q : Value → AH → Prop) : Prop :=
 cw 103 ⟨[I 0, .slice a0b a0n a0k]⟩ H fun v1 H2 =>
 obI .i64 (some v1) fun x3 =>
 Q (I (IntKind.wrap .i64 (65535 - x3))) H2
def ks101 : Keeps := fun i => match i with
 | 2001 => some [4]
 | 4001 => some [4]
 | _ => none
def f101R (cw : CallW) (a0 a1 : Int) (H : AH) (Q : Value → AH → Prop) : Prop :=
 join2 (fun J1 =>
 ifB (decide (a0 ≥ 0)) (
 J1 (decide (a0 ≤ a1)) H) (
 J1 false H)) fun c2 H3 =>
 Q (.bool c2) H3
def ks102 : Keeps := fun i => match i with
 | 2 => some [0, 2, 7]
 | _ => none
def f102_n : Nat := 24
def f102S0 (t0b : Option Addr) (t0n t0k : Nat) (t2 t7 : Int) (H : AH) : St := ((((Tr.leaf.put 0 (.slice t0b t0n t0k)).put 2 (I t2)).put 7 (I t7)), H)
def f102W0 (cw : CallW) (Q : Value → AH → Prop) : (St → Prop) → St → Prop := fun rec0 s =>
 execW Tryz.prog cw ks102 f102_n (cL (cL (cR (cL (cR (bodyOf Tryz.f102)))))) (kLoop ks102 (cL (cL (cR (cL (cR (bodyOf Tryz.f102)))))) rec0 (kBlock ks102 0 (kSeq (execW Tryz.prog cw ks102 f102_n (cR (cR (bodyOf Tryz.f102)))) (kRet Tryz.prog Tryz.f102 Q)))) s
def f102L0 (cw : CallW) (Q : Value → AH → Prop) (t0b : Option Addr) (t0n t0k : Nat) (t2 t7 : Int) (H : AH) : Prop := LoopP (f102W0 cw Q) (f102S0 t0b t0n t0k t2 t7 H)
def f102B0 (cw : CallW) (Q : Value → AH → Prop) (rec0 : St → Prop) (t0b : Option Addr) (t0n t0k : Nat) (t2 t7 : Int) (H : AH) : Prop :=
 ifB (decide (t7 ≥ 0)) (
 obI .i64 (aShift .shr .i64 t2 (IntKind.wrap .u64 (IntKind.wrap .i64 (8 * t7)))) fun x1 =>
 letH (H.new 1 [.int .u8 (IntKind.wrap .u8 x1)]) fun H2 =>
 obG (appendV 1 1 H2 (.slice t0b t0n t0k) (.slice (some ⟨H.next, 0, none⟩) 1 1)) fun b3 n3 k3 H4 =>
 rec0 (f102S0 b3 n3 k3 t2 (IntKind.wrap .i64 (t7 - 1)) H4)) (
 Q (.slice t0b t0n t0k) H)
theorem f102L0_step {cw : CallW} {Q : Value → AH → Prop} {t0b : Option Addr} {t0n t0k : Nat} {t2 t7 : Int} {H : AH} (h : f102B0 cw Q (LoopP (f102W0 cw Q)) t0b t0n t0k t2 t7 H) : f102L0 cw Q t0b t0n t0k t2 t7 H := LoopP.step (of_eq (by kernel_rfl) h)
def f102R (cw : CallW) (a0b : Option Addr) (a0n a0k : Nat) (a1 a2 : Int) (H : AH) (Q : Value → AH → Prop) : Prop :=
 f102L0 cw Q a0b a0n a0k a2 (IntKind.wrap .i64 (a1 - 1)) H
def ks103 : Keeps := fun i => match i with
 | 3 => some [1, 5, 6]
 | 3001 => some [1, 5, 6]
 | _ => none
def f103_n : Nat := 40
def f103T0 (t1b : Option Addr) (t1n t1k : Nat) (t5 t6 : Int) (H : AH) : St := ((((Tr.leaf.put 1 (.slice t1b t1n t1k)).put 5 (I t5)).put 6 (I t6)), H)
def f103S0 (t1b : Option Addr) (t1n t1k : Nat) (t5 t6 : Int) (H : AH) : St := ((((Tr.leaf.put 1 (.slice t1b t1n t1k)).put 5 (I t5)).put 6 (I t6)), H)
def f103J0 (cw : CallW) (Q : Value → AH → Prop) (rec0 : St → Prop) (t1b : Option Addr) (t1n t1k : Nat) (t5 t6 : Int) (H : AH) : Prop := (kSeq (execW Tryz.prog cw ks103 f103_n (cR (cR (cL (cL (cR (cL (cR (cR (bodyOf Tryz.f103)))))))))) (kLoop ks103 (cL (cL (cR (cL (cR (cR (bodyOf Tryz.f103))))))) rec0 (kBlock ks103 0 (kSeq (execW Tryz.prog cw ks103 f103_n (cR (cR (cR (bodyOf Tryz.f103))))) (kRet Tryz.prog Tryz.f103 Q))))) .normal (f103T0 t1b t1n t1k t5 t6 H)
def f103W0 (cw : CallW) (Q : Value → AH → Prop) : (St → Prop) → St → Prop := fun rec0 s =>
 execW Tryz.prog cw ks103 f103_n (cL (cL (cR (cL (cR (cR (bodyOf Tryz.f103))))))) (kLoop ks103 (cL (cL (cR (cL (cR (cR (bodyOf Tryz.f103))))))) rec0 (kBlock ks103 0 (kSeq (execW Tryz.prog cw ks103 f103_n (cR (cR (cR (bodyOf Tryz.f103))))) (kRet Tryz.prog Tryz.f103 Q)))) s
def f103L0 (cw : CallW) (Q : Value → AH → Prop) (t1b : Option Addr) (t1n t1k : Nat) (t5 t6 : Int) (H : AH) : Prop := LoopP (f103W0 cw Q) (f103S0 t1b t1n t1k t5 t6 H)
def f103K0 (cw : CallW) (Q : Value → AH → Prop) (rec0 : St → Prop) (t1b : Option Addr) (t1n t1k : Nat) (t5 t6 : Int) (H : AH) : Prop :=
 rec0 (f103S0 t1b t1n t1k t5 (IntKind.wrap .i64 (t6 + 2)) H)
theorem f103J0_eq (cw : CallW) (Q : Value → AH → Prop) (rec0 : St → Prop) (t1b : Option Addr) (t1n t1k : Nat) (t5 t6 : Int) (H : AH) : f103J0 cw Q rec0 t1b t1n t1k t5 t6 H = f103K0 cw Q rec0 t1b t1n t1k t5 t6 H := by kernel_rfl
def f103B0 (cw : CallW) (Q : Value → AH → Prop) (rec0 : St → Prop) (t1b : Option Addr) (t1n t1k : Nat) (t5 t6 : Int) (H : AH) : Prop :=
 ifB (decide (t6 < (t1n : Int))) (
 obA (elemS 1 (.slice t1b t1n t1k) (I t6)) fun h1 i1 =>
 obI .u8 (H.load h1 i1) fun x2 =>
 ifB (decide ((IntKind.wrap .i64 (t6 + 1)) < (t1n : Int))) (
 obA (elemS 1 (.slice t1b t1n t1k) (I (IntKind.wrap .i64 (t6 + 1)))) fun h3 i3 =>
 obI .u8 (H.load h3 i3) fun x4 =>
 cw 125 ⟨[I (IntKind.wrap .i64 (t5 + (IntKind.wrap .i64 ((IntKind.wrap .i64 (256 * (IntKind.wrap .i64 x2))) + (IntKind.wrap .i64 x4)))))]⟩ H fun v5 H6 =>
 obI .i64 (some v5) fun x7 =>
 f103J0 cw Q rec0 t1b t1n t1k x7 t6 H6) (
 cw 125 ⟨[I (IntKind.wrap .i64 (t5 + (IntKind.wrap .i64 (256 * (IntKind.wrap .i64 x2)))))]⟩ H fun v8 H9 =>
 obI .i64 (some v8) fun x10 =>
 f103J0 cw Q rec0 t1b t1n t1k x10 t6 H9)) (
 Q (I t5) H)
theorem f103L0_step {cw : CallW} {Q : Value → AH → Prop} {t1b : Option Addr} {t1n t1k : Nat} {t5 t6 : Int} {H : AH} (h : f103B0 cw Q (LoopP (f103W0 cw Q)) t1b t1n t1k t5 t6 H) : f103L0 cw Q t1b t1n t1k t5 t6 H := LoopP.step (of_eq (by kernel_rfl) h)
def f103R (cw : CallW) (a0 : Int) (a1b : Option Addr) (a1n a1k : Nat) (H : AH) (Q : Value → AH → Prop) : Prop :=
 cw 125 ⟨[I a0]⟩ H fun v1 H2 =>
 obI .i64 (some v1) fun x3 =>
 f103L0 cw Q a1b a1n a1k x3 0 H2
def ks125 : Keeps := fun i => match i with
 | 3 => some [0]
 | _ => none
def f125_n : Nat := 13
def f125S0 (t0 : Int) (H : AH) : St := ((Tr.leaf.put 0 (I t0)), H)
def f125W0 (cw : CallW) (Q : Value → AH → Prop) : (St → Prop) → St → Prop := fun rec0 s =>
 execW Tryz.prog cw ks125 f125_n (cL (cL (cL (cR (cR (bodyOf Tryz.f125)))))) (kLoop ks125 (cL (cL (cL (cR (cR (bodyOf Tryz.f125)))))) rec0 (kBlock ks125 0 (kSeq (execW Tryz.prog cw ks125 f125_n (cR (cR (cR (bodyOf Tryz.f125))))) (kRet Tryz.prog Tryz.f125 Q)))) s
def f125L0 (cw : CallW) (Q : Value → AH → Prop) (t0 : Int) (H : AH) : Prop := LoopP (f125W0 cw Q) (f125S0 t0 H)
def f125B0 (cw : CallW) (Q : Value → AH → Prop) (rec0 : St → Prop) (t0 : Int) (H : AH) : Prop :=
 ifB (decide (t0 > 65535)) (
 obI .i64 (aInt .rem .i64 t0 65536) fun x1 =>
 obI .i64 (aInt .quo .i64 t0 65536) fun x2 =>
 rec0 (f125S0 (IntKind.wrap .i64 (x1 + x2)) H)) (
 Q (I t0) H)
theorem f125L0_step {cw : CallW} {Q : Value → AH → Prop} {t0 : Int} {H : AH} (h : f125B0 cw Q (LoopP (f125W0 cw Q)) t0 H) : f125L0 cw Q t0 H := LoopP.step (of_eq (by kernel_rfl) h)
def f125R (cw : CallW) (a0 : Int) (H : AH) (Q : Value → AH → Prop) : Prop :=
 ifB (decide (a0 < 0)) (
 Q (I 0) H) (
 f125L0 cw Q a0 H)
end AM
end Go.Proofs.YtemcmblcogljkaaGreatDoor

