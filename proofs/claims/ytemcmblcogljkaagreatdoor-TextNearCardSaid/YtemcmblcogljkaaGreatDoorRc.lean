/-  -/
import Derived.Test.YtemcmblcogljkaaGreatDoorMb
set_option linter.all false
set_option linter.unusedSimpArgs false
set_option linter.unusedVariables false
set_option maxRecDepth 100000
namespace Go.Proofs.YtemcmblcogljkaaGreatDoor
namespace AM
open Go
def ks3 : Keeps := fun i => match i with
 | 2001 => some [2]
 | 4001 => some [2]
 | _ => none
def f3R (cw : CallW) (a0 : ByteArray) (H : AH) (Q : Value → AH → Prop) : Prop :=
 join2 (fun J1 =>
 ifB (decide ((a0.size : Int) > 2000)) (
 cw 7 ⟨[]⟩ H fun v2 H3 =>
 obB (some v2) fun c4 =>
 J1 c4 H3) (
 cw 6 ⟨[.string a0]⟩ H fun v5 H6 =>
 obB (some v5) fun c7 =>
 ifB c7 (
 cw 7 ⟨[]⟩ H6 fun v8 H9 =>
 obB (some v8) fun c10 =>
 J1 c10 H9) (
 J1 false H6))) fun c11 H12 =>
 Q (.bool c11) H12
def ks6 : Keeps := fun i => match i with
 | 2003 => some [2]
 | 4003 => some [2]
 | _ => none
def f6R (cw : CallW) (a0 : ByteArray) (H : AH) (Q : Value → AH → Prop) : Prop :=
 cw 16 ⟨[.string a0]⟩ H fun v1 H2 =>
 obV (tupV 0 v1) fun v4 =>
 obN 20 v4 (
 obI .i64 (cellAt v4 0) fun x5 =>
 obI .i64 (cellAt v4 1) fun x6 =>
 obI .i64 (cellAt v4 2) fun x7 =>
 obI .i64 (cellAt v4 3) fun x8 =>
 obI .i64 (cellAt v4 4) fun x9 =>
 obI .i64 (cellAt v4 5) fun x10 =>
 obI .i64 (cellAt v4 6) fun x11 =>
 obI .i64 (cellAt v4 7) fun x12 =>
 obI .i64 (cellAt v4 8) fun x13 =>
 obI .i64 (cellAt v4 9) fun x14 =>
 obI .i64 (cellAt v4 10) fun x15 =>
 obI .i64 (cellAt v4 11) fun x16 =>
 obI .i64 (cellAt v4 12) fun x17 =>
 obI .i64 (cellAt v4 13) fun x18 =>
 obI .i64 (cellAt v4 14) fun x19 =>
 obI .i64 (cellAt v4 15) fun x20 =>
 obI .i64 (cellAt v4 16) fun x21 =>
 obI .i64 (cellAt v4 17) fun x22 =>
 obL (cellAt v4 18) fun b23 n23 k23 =>
 obL (cellAt v4 19) fun b24 n24 k24 =>
 obL (tupV 1 v1) fun b25 n25 k25 =>
 obI .i64 (tupV 2 v1) fun x26 =>
 obI .i64 (tupV 3 v1) fun x27 =>
 letH (H2.new 0 [I 0, I 0, I 0, I 0, I 0, I 0, I 0, I 0, I 0, I 0, I 0, I 0, I 0, I 0, I 0, I 0, I 0, I 0, .slice none 0 0, .slice none 0 0]) fun H28 =>
 obH (H28.storeN H2.next 0 [I x5, I x6, I x7, I x8, I x9, I x10, I x11, I x12, I x13, I x14, I x15, I x16, I x17, I x18, I x19, I x20, I x21, I x22, .slice b23 n23 k23, .slice b24 n24 k24]) fun H29 =>
 cw 18 ⟨[.string a0]⟩ H29 fun v30 H31 =>
 obV (tupV 0 v30) fun v33 =>
 obN 20 v33 (
 obI .i64 (cellAt v33 0) fun x34 =>
 obI .i64 (cellAt v33 1) fun x35 =>
 obI .i64 (cellAt v33 2) fun x36 =>
 obI .i64 (cellAt v33 3) fun x37 =>
 obI .i64 (cellAt v33 4) fun x38 =>
 obI .i64 (cellAt v33 5) fun x39 =>
 obI .i64 (cellAt v33 6) fun x40 =>
 obI .i64 (cellAt v33 7) fun x41 =>
 obI .i64 (cellAt v33 8) fun x42 =>
 obI .i64 (cellAt v33 9) fun x43 =>
 obI .i64 (cellAt v33 10) fun x44 =>
 obI .i64 (cellAt v33 11) fun x45 =>
 obI .i64 (cellAt v33 12) fun x46 =>
 obI .i64 (cellAt v33 13) fun x47 =>
 obI .i64 (cellAt v33 14) fun x48 =>
 obI .i64 (cellAt v33 15) fun x49 =>
 obI .i64 (cellAt v33 16) fun x50 =>
 obI .i64 (cellAt v33 17) fun x51 =>
 obL (cellAt v33 18) fun b52 n52 k52 =>
 obL (cellAt v33 19) fun b53 n53 k53 =>
 obL (tupV 1 v30) fun b54 n54 k54 =>
 obI .i64 (tupV 2 v30) fun x55 =>
 obI .i64 (tupV 3 v30) fun x56 =>
 letH (H31.new 0 [I 0, I 0, I 0, I 0, I 0, I 0, I 0, I 0, I 0, I 0, I 0, I 0, I 0, I 0, I 0, I 0, I 0, I 0, .slice none 0 0, .slice none 0 0]) fun H57 =>
 obH (H57.storeN H31.next 0 [I x34, I x35, I x36, I x37, I x38, I x39, I x40, I x41, I x42, I x43, I x44, I x45, I x46, I x47, I x48, I x49, I x50, I x51, .slice b52 n52 k52, .slice b53 n53 k53]) fun H58 =>
 join2 (fun J59 =>
 ifB (x26 == x55) (
 ifB (x27 == x56) (
 obI .i64 (H58.load H2.next (0 + 0)) fun x60 =>
 obI .i64 (H58.load H2.next (0 + 1)) fun x61 =>
 obI .i64 (H58.load H2.next (0 + 2)) fun x62 =>
 obI .i64 (H58.load H2.next (0 + 3)) fun x63 =>
 obI .i64 (H58.load H2.next (0 + 4)) fun x64 =>
 obI .i64 (H58.load H2.next (0 + 5)) fun x65 =>
 obI .i64 (H58.load H2.next (0 + 6)) fun x66 =>
 obI .i64 (H58.load H2.next (0 + 7)) fun x67 =>
 obI .i64 (H58.load H2.next (0 + 8)) fun x68 =>
 obI .i64 (H58.load H2.next (0 + 9)) fun x69 =>
 obI .i64 (H58.load H2.next (0 + 10)) fun x70 =>
 obI .i64 (H58.load H2.next (0 + 11)) fun x71 =>
 obI .i64 (H58.load H2.next (0 + 12)) fun x72 =>
 obI .i64 (H58.load H2.next (0 + 13)) fun x73 =>
 obI .i64 (H58.load H2.next (0 + 14)) fun x74 =>
 obI .i64 (H58.load H2.next (0 + 15)) fun x75 =>
 obI .i64 (H58.load H2.next (0 + 16)) fun x76 =>
 obI .i64 (H58.load H2.next (0 + 17)) fun x77 =>
 obL (H58.load H2.next (0 + 18)) fun b78 n78 k78 =>
 obL (H58.load H2.next (0 + 19)) fun b79 n79 k79 =>
 obI .i64 (H58.load H31.next (0 + 0)) fun x80 =>
 obI .i64 (H58.load H31.next (0 + 1)) fun x81 =>
 obI .i64 (H58.load H31.next (0 + 2)) fun x82 =>
 obI .i64 (H58.load H31.next (0 + 3)) fun x83 =>
 obI .i64 (H58.load H31.next (0 + 4)) fun x84 =>
 obI .i64 (H58.load H31.next (0 + 5)) fun x85 =>
 obI .i64 (H58.load H31.next (0 + 6)) fun x86 =>
 obI .i64 (H58.load H31.next (0 + 7)) fun x87 =>
 obI .i64 (H58.load H31.next (0 + 8)) fun x88 =>
 obI .i64 (H58.load H31.next (0 + 9)) fun x89 =>
 obI .i64 (H58.load H31.next (0 + 10)) fun x90 =>
 obI .i64 (H58.load H31.next (0 + 11)) fun x91 =>
 obI .i64 (H58.load H31.next (0 + 12)) fun x92 =>
 obI .i64 (H58.load H31.next (0 + 13)) fun x93 =>
 obI .i64 (H58.load H31.next (0 + 14)) fun x94 =>
 obI .i64 (H58.load H31.next (0 + 15)) fun x95 =>
 obI .i64 (H58.load H31.next (0 + 16)) fun x96 =>
 obI .i64 (H58.load H31.next (0 + 17)) fun x97 =>
 obL (H58.load H31.next (0 + 18)) fun b98 n98 k98 =>
 obL (H58.load H31.next (0 + 19)) fun b99 n99 k99 =>
 cw 17 ⟨[.agg ⟨[I x60, I x61, I x62, I x63, I x64, I x65, I x66, I x67, I x68, I x69, I x70, I x71, I x72, I x73, I x74, I x75, I x76, I x77, .slice b78 n78 k78, .slice b79 n79 k79]⟩, .agg ⟨[I x80, I x81, I x82, I x83, I x84, I x85, I x86, I x87, I x88, I x89, I x90, I x91, I x92, I x93, I x94, I x95, I x96, I x97, .slice b98 n98 k98, .slice b99 n99 k99]⟩, .slice b25 n25 k25, .slice b54 n54 k54]⟩ H58 fun v100 H101 =>
 obB (some v100) fun c102 =>
 J59 c102 H101) (
 J59 false H58)) (
 J59 false H58)) fun c103 H104 =>
 Q (.bool c103) H104))
def ks7 : Keeps := fun i => match i with
 | 2003 => some [0]
 | 4003 => some [0]
 | _ => none
def ks12 : Keeps := fun i => match i with
 | 7 => some [7, 8, 9]
 | _ => none
def f12_n : Nat := 35
def f12S0 (t7b : Option Addr) (t7n t7k : Nat) (t8b : Option Addr) (t8n t8k : Nat) (t9 : Int) (H : AH) : St := ((((Tr.leaf.put 7 (.slice t7b t7n t7k)).put 8 (.slice t8b t8n t8k)).put 9 (I t9)), H)
def f12W0 (cw : CallW) (Q : Value → AH → Prop) : (St → Prop) → St → Prop := fun rec0 s =>
 execW Tryz.prog cw ks12 f12_n (cL (cL (cR (cL (cR (cR (cR (cR (bodyOf Tryz.f12))))))))) (kLoop ks12 (cL (cL (cR (cL (cR (cR (cR (cR (bodyOf Tryz.f12))))))))) rec0 (kBlock ks12 0 (kSeq (execW Tryz.prog cw ks12 f12_n (cR (cR (cR (cR (cR (bodyOf Tryz.f12))))))) (kRet Tryz.prog Tryz.f12 Q)))) s
def f12L0 (cw : CallW) (Q : Value → AH → Prop) (t7b : Option Addr) (t7n t7k : Nat) (t8b : Option Addr) (t8n t8k : Nat) (t9 : Int) (H : AH) : Prop := LoopP (f12W0 cw Q) (f12S0 t7b t7n t7k t8b t8n t8k t9 H)
def f12B0 (cw : CallW) (Q : Value → AH → Prop) (rec0 : St → Prop) (t7b : Option Addr) (t7n t7k : Nat) (t8b : Option Addr) (t8n t8k : Nat) (t9 : Int) (H : AH) : Prop :=
 ifB (decide (t9 < (t7n : Int))) (
 obA (elemS 1 (.slice t7b t7n t7k) (I t9)) fun h1 i1 =>
 obS (H.load h1 i1) fun s2 =>
 obG (appendV 1 1 H (.slice t8b t8n t8k) (.string s2)) fun b3 n3 k3 H4 =>
 letH (H4.new 1 [.int .u8 10]) fun H5 =>
 obG (appendV 1 1 H5 (.slice b3 n3 k3) (.slice (some ⟨H4.next, 0, none⟩) 1 1)) fun b6 n6 k6 H7 =>
 rec0 (f12S0 t7b t7n t7k b6 n6 k6 (IntKind.wrap .i64 (t9 + 1)) H7)) (
 obS (ofBytes H (.slice t8b t8n t8k)) fun s8 =>
 Q (.tuple ⟨[.string s8, I 0]⟩) H)
theorem f12L0_step {cw : CallW} {Q : Value → AH → Prop} {t7b : Option Addr} {t7n t7k : Nat} {t8b : Option Addr} {t8n t8k : Nat} {t9 : Int} {H : AH} (h : f12B0 cw Q (LoopP (f12W0 cw Q)) t7b t7n t7k t8b t8n t8k t9 H) : f12L0 cw Q t7b t7n t7k t8b t8n t8k t9 H := LoopP.step (of_eq (by kernel_rfl) h)
def f12R (cw : CallW) (a0_0 a0_1 a0_2 a0_3 a0_4 a0_5 a0_6 a0_7 a0_8 a0_9 a0_10 a0_11 a0_12 a0_13 a0_14 a0_15 a0_16 a0_17 : Int) (a0_18b : Option Addr) (a0_18n a0_18k : Nat) (a0_19b : Option Addr) (a0_19n a0_19k : Nat) (a1b : Option Addr) (a1n a1k : Nat) (H : AH) (Q : Value → AH → Prop) : Prop :=
 letH (H.new 0 [I a0_0, I a0_1, I a0_2, I a0_3, I a0_4, I a0_5, I a0_6, I a0_7, I a0_8, I a0_9, I a0_10, I a0_11, I a0_12, I a0_13, I a0_14, I a0_15, I a0_16, I a0_17, .slice a0_18b a0_18n a0_18k, .slice a0_19b a0_19n a0_19k]) fun H1 =>
 obI .i64 (H1.load H.next (0 + 0)) fun x2 =>
 obI .i64 (H1.load H.next (0 + 1)) fun x3 =>
 obI .i64 (H1.load H.next (0 + 2)) fun x4 =>
 obI .i64 (H1.load H.next (0 + 3)) fun x5 =>
 obI .i64 (H1.load H.next (0 + 4)) fun x6 =>
 obI .i64 (H1.load H.next (0 + 5)) fun x7 =>
 obI .i64 (H1.load H.next (0 + 6)) fun x8 =>
 obI .i64 (H1.load H.next (0 + 7)) fun x9 =>
 obI .i64 (H1.load H.next (0 + 8)) fun x10 =>
 obI .i64 (H1.load H.next (0 + 9)) fun x11 =>
 obI .i64 (H1.load H.next (0 + 10)) fun x12 =>
 obI .i64 (H1.load H.next (0 + 11)) fun x13 =>
 obI .i64 (H1.load H.next (0 + 12)) fun x14 =>
 obI .i64 (H1.load H.next (0 + 13)) fun x15 =>
 obI .i64 (H1.load H.next (0 + 14)) fun x16 =>
 obI .i64 (H1.load H.next (0 + 15)) fun x17 =>
 obI .i64 (H1.load H.next (0 + 16)) fun x18 =>
 obI .i64 (H1.load H.next (0 + 17)) fun x19 =>
 obL (H1.load H.next (0 + 18)) fun b20 n20 k20 =>
 obL (H1.load H.next (0 + 19)) fun b21 n21 k21 =>
 cw 22 ⟨[.agg ⟨[I x2, I x3, I x4, I x5, I x6, I x7, I x8, I x9, I x10, I x11, I x12, I x13, I x14, I x15, I x16, I x17, I x18, I x19, .slice b20 n20 k20, .slice b21 n21 k21]⟩, .slice a1b a1n a1k]⟩ H1 fun v22 H23 =>
 obI .i64 (some v22) fun x24 =>
 ifB (x24 != 0) (
 Q (.tuple ⟨[.string (bs []), I x24]⟩) H23) (
 obI .i64 (H23.load H.next (0 + 0)) fun x25 =>
 obI .i64 (H23.load H.next (0 + 1)) fun x26 =>
 obI .i64 (H23.load H.next (0 + 2)) fun x27 =>
 obI .i64 (H23.load H.next (0 + 3)) fun x28 =>
 obI .i64 (H23.load H.next (0 + 4)) fun x29 =>
 obI .i64 (H23.load H.next (0 + 5)) fun x30 =>
 obI .i64 (H23.load H.next (0 + 6)) fun x31 =>
 obI .i64 (H23.load H.next (0 + 7)) fun x32 =>
 obI .i64 (H23.load H.next (0 + 8)) fun x33 =>
 obI .i64 (H23.load H.next (0 + 9)) fun x34 =>
 obI .i64 (H23.load H.next (0 + 10)) fun x35 =>
 obI .i64 (H23.load H.next (0 + 11)) fun x36 =>
 obI .i64 (H23.load H.next (0 + 12)) fun x37 =>
 obI .i64 (H23.load H.next (0 + 13)) fun x38 =>
 obI .i64 (H23.load H.next (0 + 14)) fun x39 =>
 obI .i64 (H23.load H.next (0 + 15)) fun x40 =>
 obI .i64 (H23.load H.next (0 + 16)) fun x41 =>
 obI .i64 (H23.load H.next (0 + 17)) fun x42 =>
 obL (H23.load H.next (0 + 18)) fun b43 n43 k43 =>
 obL (H23.load H.next (0 + 19)) fun b44 n44 k44 =>
 cw 23 ⟨[.agg ⟨[I x25, I x26, I x27, I x28, I x29, I x30, I x31, I x32, I x33, I x34, I x35, I x36, I x37, I x38, I x39, I x40, I x41, I x42, .slice b43 n43 k43, .slice b44 n44 k44]⟩, .slice a1b a1n a1k]⟩ H23 fun v45 H46 =>
 obL (some v45) fun b47 n47 k47 =>
 f12L0 cw Q b47 n47 k47 none 0 0 0 H46)
def ks17 : Keeps := fun i => match i with
 | 2003 => some [8]
 | 4003 => some [8]
 | _ => none
def f17R (cw : CallW) (a0_0 a0_1 a0_2 a0_3 a0_4 a0_5 a0_6 a0_7 a0_8 a0_9 a0_10 a0_11 a0_12 a0_13 a0_14 a0_15 a0_16 a0_17 : Int) (a0_18b : Option Addr) (a0_18n a0_18k : Nat) (a0_19b : Option Addr) (a0_19n a0_19k : Nat) (a1_0 a1_1 a1_2 a1_3 a1_4 a1_5 a1_6 a1_7 a1_8 a1_9 a1_10 a1_11 a1_12 a1_13 a1_14 a1_15 a1_16 a1_17 : Int) (a1_18b : Option Addr) (a1_18n a1_18k : Nat) (a1_19b : Option Addr) (a1_19n a1_19k : Nat) (a2b : Option Addr) (a2n a2k : Nat) (a3b : Option Addr) (a3n a3k : Nat) (H : AH) (Q : Value → AH → Prop) : Prop :=
 letH (H.new 0 [I a0_0, I a0_1, I a0_2, I a0_3, I a0_4, I a0_5, I a0_6, I a0_7, I a0_8, I a0_9, I a0_10, I a0_11, I a0_12, I a0_13, I a0_14, I a0_15, I a0_16, I a0_17, .slice a0_18b a0_18n a0_18k, .slice a0_19b a0_19n a0_19k]) fun H1 =>
 letH (H1.new 0 [I a1_0, I a1_1, I a1_2, I a1_3, I a1_4, I a1_5, I a1_6, I a1_7, I a1_8, I a1_9, I a1_10, I a1_11, I a1_12, I a1_13, I a1_14, I a1_15, I a1_16, I a1_17, .slice a1_18b a1_18n a1_18k, .slice a1_19b a1_19n a1_19k]) fun H2 =>
 obI .i64 (H2.load H.next (0 + 0)) fun x3 =>
 obI .i64 (H2.load H.next (0 + 1)) fun x4 =>
 obI .i64 (H2.load H.next (0 + 2)) fun x5 =>
 obI .i64 (H2.load H.next (0 + 3)) fun x6 =>
 obI .i64 (H2.load H.next (0 + 4)) fun x7 =>
 obI .i64 (H2.load H.next (0 + 5)) fun x8 =>
 obI .i64 (H2.load H.next (0 + 6)) fun x9 =>
 obI .i64 (H2.load H.next (0 + 7)) fun x10 =>
 obI .i64 (H2.load H.next (0 + 8)) fun x11 =>
 obI .i64 (H2.load H.next (0 + 9)) fun x12 =>
 obI .i64 (H2.load H.next (0 + 10)) fun x13 =>
 obI .i64 (H2.load H.next (0 + 11)) fun x14 =>
 obI .i64 (H2.load H.next (0 + 12)) fun x15 =>
 obI .i64 (H2.load H.next (0 + 13)) fun x16 =>
 obI .i64 (H2.load H.next (0 + 14)) fun x17 =>
 obI .i64 (H2.load H.next (0 + 15)) fun x18 =>
 obI .i64 (H2.load H.next (0 + 16)) fun x19 =>
 obI .i64 (H2.load H.next (0 + 17)) fun x20 =>
 obL (H2.load H.next (0 + 18)) fun b21 n21 k21 =>
 obL (H2.load H.next (0 + 19)) fun b22 n22 k22 =>
 cw 12 ⟨[.agg ⟨[I x3, I x4, I x5, I x6, I x7, I x8, I x9, I x10, I x11, I x12, I x13, I x14, I x15, I x16, I x17, I x18, I x19, I x20, .slice b21 n21 k21, .slice b22 n22 k22]⟩, .slice a2b a2n a2k]⟩ H2 fun v23 H24 =>
 obS (tupV 0 v23) fun s26 =>
 obI .i64 (tupV 1 v23) fun x27 =>
 obI .i64 (H24.load H1.next (0 + 0)) fun x28 =>
 obI .i64 (H24.load H1.next (0 + 1)) fun x29 =>
 obI .i64 (H24.load H1.next (0 + 2)) fun x30 =>
 obI .i64 (H24.load H1.next (0 + 3)) fun x31 =>
 obI .i64 (H24.load H1.next (0 + 4)) fun x32 =>
 obI .i64 (H24.load H1.next (0 + 5)) fun x33 =>
 obI .i64 (H24.load H1.next (0 + 6)) fun x34 =>
 obI .i64 (H24.load H1.next (0 + 7)) fun x35 =>
 obI .i64 (H24.load H1.next (0 + 8)) fun x36 =>
 obI .i64 (H24.load H1.next (0 + 9)) fun x37 =>
 obI .i64 (H24.load H1.next (0 + 10)) fun x38 =>
 obI .i64 (H24.load H1.next (0 + 11)) fun x39 =>
 obI .i64 (H24.load H1.next (0 + 12)) fun x40 =>
 obI .i64 (H24.load H1.next (0 + 13)) fun x41 =>
 obI .i64 (H24.load H1.next (0 + 14)) fun x42 =>
 obI .i64 (H24.load H1.next (0 + 15)) fun x43 =>
 obI .i64 (H24.load H1.next (0 + 16)) fun x44 =>
 obI .i64 (H24.load H1.next (0 + 17)) fun x45 =>
 obL (H24.load H1.next (0 + 18)) fun b46 n46 k46 =>
 obL (H24.load H1.next (0 + 19)) fun b47 n47 k47 =>
 cw 12 ⟨[.agg ⟨[I x28, I x29, I x30, I x31, I x32, I x33, I x34, I x35, I x36, I x37, I x38, I x39, I x40, I x41, I x42, I x43, I x44, I x45, .slice b46 n46 k46, .slice b47 n47 k47]⟩, .slice a3b a3n a3k]⟩ H24 fun v48 H49 =>
 obS (tupV 0 v48) fun s51 =>
 obI .i64 (tupV 1 v48) fun x52 =>
 join2 (fun J53 =>
 ifB (x27 == x52) (
 J53 (s26.data.toList == s51.data.toList) H49) (
 J53 false H49)) fun c54 H55 =>
 Q (.bool c54) H55
def ks18 : Keeps := fun i => match i with
 | 4 => some [2, 6, 7, 8]
 | 2008 => some [2, 6, 7, 45]
 | 2010 => some [2, 9, 57]
 | 4008 => some [45]
 | 4010 => some [57]
 | _ => none
def f18_n : Nat := 83
def f18S0 (t2h : Nat) (t6b : Option Addr) (t6n t6k t7h : Nat) (t8 : Int) (H : AH) : St := (((((Tr.leaf.put 2 (.pointer (some ⟨t2h, 0, none⟩))).put 6 (.slice t6b t6n t6k)).put 7 (.pointer (some ⟨t7h, 0, none⟩))).put 8 (I t8)), H)
def f18W0 (cw : CallW) (Q : Value → AH → Prop) : (St → Prop) → St → Prop := fun rec0 s =>
 execW Tryz.prog cw ks18 f18_n (cL (cL (cR (cL (cR (cR (cR (bodyOf Tryz.f18)))))))) (kLoop ks18 (cL (cL (cR (cL (cR (cR (cR (bodyOf Tryz.f18)))))))) rec0 (kBlock ks18 0 (kSeq (execW Tryz.prog cw ks18 f18_n (cR (cR (cR (cR (bodyOf Tryz.f18)))))) (kRet Tryz.prog Tryz.f18 Q)))) s
def f18L0 (cw : CallW) (Q : Value → AH → Prop) (t2h : Nat) (t6b : Option Addr) (t6n t6k t7h : Nat) (t8 : Int) (H : AH) : Prop := LoopP (f18W0 cw Q) (f18S0 t2h t6b t6n t6k t7h t8 H)
def f18B0 (cw : CallW) (Q : Value → AH → Prop) (rec0 : St → Prop) (t2h : Nat) (t6b : Option Addr) (t6n t6k t7h : Nat) (t8 : Int) (H : AH) : Prop :=
 ifB (decide (t8 < (IntKind.wrap .i64 ((t6n : Int) - 1)))) (
 obA (elemS 1 (.slice t6b t6n t6k) (I t8)) fun h1 i1 =>
 obS (H.load h1 i1) fun s2 =>
 cw 38 ⟨[.pointer (some ⟨t7h, 0, none⟩), .string s2]⟩ H fun v3 H4 =>
 obB (some v3) fun c5 =>
 ifB (!c5) (
 obH (H4.storeN t2h 0 [I 0, I 0, I 0, I 0, I 0, I 0, I 0, I 0, I 0, I 0, I 0, I 0, I 0, I 0, I 0, I 0, I 0, I 0, .slice none 0 0, .slice none 0 0]) fun H6 =>
 obI .i64 (H6.load t2h (0 + 0)) fun x7 =>
 obI .i64 (H6.load t2h (0 + 1)) fun x8 =>
 obI .i64 (H6.load t2h (0 + 2)) fun x9 =>
 obI .i64 (H6.load t2h (0 + 3)) fun x10 =>
 obI .i64 (H6.load t2h (0 + 4)) fun x11 =>
 obI .i64 (H6.load t2h (0 + 5)) fun x12 =>
 obI .i64 (H6.load t2h (0 + 6)) fun x13 =>
 obI .i64 (H6.load t2h (0 + 7)) fun x14 =>
 obI .i64 (H6.load t2h (0 + 8)) fun x15 =>
 obI .i64 (H6.load t2h (0 + 9)) fun x16 =>
 obI .i64 (H6.load t2h (0 + 10)) fun x17 =>
 obI .i64 (H6.load t2h (0 + 11)) fun x18 =>
 obI .i64 (H6.load t2h (0 + 12)) fun x19 =>
 obI .i64 (H6.load t2h (0 + 13)) fun x20 =>
 obI .i64 (H6.load t2h (0 + 14)) fun x21 =>
 obI .i64 (H6.load t2h (0 + 15)) fun x22 =>
 obI .i64 (H6.load t2h (0 + 16)) fun x23 =>
 obI .i64 (H6.load t2h (0 + 17)) fun x24 =>
 obL (H6.load t2h (0 + 18)) fun b25 n25 k25 =>
 obL (H6.load t2h (0 + 19)) fun b26 n26 k26 =>
 Q (.tuple ⟨[.agg ⟨[I x7, I x8, I x9, I x10, I x11, I x12, I x13, I x14, I x15, I x16, I x17, I x18, I x19, I x20, I x21, I x22, I x23, I x24, .slice b25 n25 k25, .slice b26 n26 k26]⟩, .slice none 0 0, I (IntKind.wrap .i64 (t8 + 1)), I 66]⟩) H6) (
 rec0 (f18S0 t2h t6b t6n t6k t7h (IntKind.wrap .i64 (t8 + 1)) H4))) (
 join2 (fun J27 =>
 obA (elemS 1 (.slice t6b t6n t6k) (I (IntKind.wrap .i64 ((t6n : Int) - 1)))) fun h28 i28 =>
 obS (H.load h28 i28) fun s29 =>
 ifB (!(s29.data.toList == (bs []).data.toList)) (
 J27 true H) (
 obI .i64 (H.load t7h (0 + 0)) fun x30 =>
 J27 (decide (x30 < 4)) H)) fun c31 H32 =>
 ifB c31 (
 join2 (fun J33 =>
 obA (elemS 1 (.slice t6b t6n t6k) (I (IntKind.wrap .i64 ((t6n : Int) - 1)))) fun h34 i34 =>
 obS (H32.load h34 i34) fun s35 =>
 ifB (s35.data.toList == (bs []).data.toList) (
 J33 (decide ((t6n : Int) > 1)) H32) (
 J33 false H32)) fun c36 H37 =>
 ifB c36 (
 obH (H37.storeN t2h 0 [I 0, I 0, I 0, I 0, I 0, I 0, I 0, I 0, I 0, I 0, I 0, I 0, I 0, I 0, I 0, I 0, I 0, I 0, .slice none 0 0, .slice none 0 0]) fun H38 =>
 obI .i64 (H38.load t2h (0 + 0)) fun x39 =>
 obI .i64 (H38.load t2h (0 + 1)) fun x40 =>
 obI .i64 (H38.load t2h (0 + 2)) fun x41 =>
 obI .i64 (H38.load t2h (0 + 3)) fun x42 =>
 obI .i64 (H38.load t2h (0 + 4)) fun x43 =>
 obI .i64 (H38.load t2h (0 + 5)) fun x44 =>
 obI .i64 (H38.load t2h (0 + 6)) fun x45 =>
 obI .i64 (H38.load t2h (0 + 7)) fun x46 =>
 obI .i64 (H38.load t2h (0 + 8)) fun x47 =>
 obI .i64 (H38.load t2h (0 + 9)) fun x48 =>
 obI .i64 (H38.load t2h (0 + 10)) fun x49 =>
 obI .i64 (H38.load t2h (0 + 11)) fun x50 =>
 obI .i64 (H38.load t2h (0 + 12)) fun x51 =>
 obI .i64 (H38.load t2h (0 + 13)) fun x52 =>
 obI .i64 (H38.load t2h (0 + 14)) fun x53 =>
 obI .i64 (H38.load t2h (0 + 15)) fun x54 =>
 obI .i64 (H38.load t2h (0 + 16)) fun x55 =>
 obI .i64 (H38.load t2h (0 + 17)) fun x56 =>
 obL (H38.load t2h (0 + 18)) fun b57 n57 k57 =>
 obL (H38.load t2h (0 + 19)) fun b58 n58 k58 =>
 Q (.tuple ⟨[.agg ⟨[I x39, I x40, I x41, I x42, I x43, I x44, I x45, I x46, I x47, I x48, I x49, I x50, I x51, I x52, I x53, I x54, I x55, I x56, .slice b57 n57 k57, .slice b58 n58 k58]⟩, .slice none 0 0, I (IntKind.wrap .i64 ((t6n : Int) - 1)), I 66]⟩) H38) (
 obH (H37.storeN t2h 0 [I 0, I 0, I 0, I 0, I 0, I 0, I 0, I 0, I 0, I 0, I 0, I 0, I 0, I 0, I 0, I 0, I 0, I 0, .slice none 0 0, .slice none 0 0]) fun H59 =>
 obI .i64 (H59.load t2h (0 + 0)) fun x60 =>
 obI .i64 (H59.load t2h (0 + 1)) fun x61 =>
 obI .i64 (H59.load t2h (0 + 2)) fun x62 =>
 obI .i64 (H59.load t2h (0 + 3)) fun x63 =>
 obI .i64 (H59.load t2h (0 + 4)) fun x64 =>
 obI .i64 (H59.load t2h (0 + 5)) fun x65 =>
 obI .i64 (H59.load t2h (0 + 6)) fun x66 =>
 obI .i64 (H59.load t2h (0 + 7)) fun x67 =>
 obI .i64 (H59.load t2h (0 + 8)) fun x68 =>
 obI .i64 (H59.load t2h (0 + 9)) fun x69 =>
 obI .i64 (H59.load t2h (0 + 10)) fun x70 =>
 obI .i64 (H59.load t2h (0 + 11)) fun x71 =>
 obI .i64 (H59.load t2h (0 + 12)) fun x72 =>
 obI .i64 (H59.load t2h (0 + 13)) fun x73 =>
 obI .i64 (H59.load t2h (0 + 14)) fun x74 =>
 obI .i64 (H59.load t2h (0 + 15)) fun x75 =>
 obI .i64 (H59.load t2h (0 + 16)) fun x76 =>
 obI .i64 (H59.load t2h (0 + 17)) fun x77 =>
 obL (H59.load t2h (0 + 18)) fun b78 n78 k78 =>
 obL (H59.load t2h (0 + 19)) fun b79 n79 k79 =>
 Q (.tuple ⟨[.agg ⟨[I x60, I x61, I x62, I x63, I x64, I x65, I x66, I x67, I x68, I x69, I x70, I x71, I x72, I x73, I x74, I x75, I x76, I x77, .slice b78 n78 k78, .slice b79 n79 k79]⟩, .slice none 0 0, I (t6n : Int), I 66]⟩) H59)) (
 obI .i64 (H32.load t7h ((0 + 1) + 0)) fun x80 =>
 obI .i64 (H32.load t7h ((0 + 1) + 1)) fun x81 =>
 obI .i64 (H32.load t7h ((0 + 1) + 2)) fun x82 =>
 obI .i64 (H32.load t7h ((0 + 1) + 3)) fun x83 =>
 obI .i64 (H32.load t7h ((0 + 1) + 4)) fun x84 =>
 obI .i64 (H32.load t7h ((0 + 1) + 5)) fun x85 =>
 obI .i64 (H32.load t7h ((0 + 1) + 6)) fun x86 =>
 obI .i64 (H32.load t7h ((0 + 1) + 7)) fun x87 =>
 obI .i64 (H32.load t7h ((0 + 1) + 8)) fun x88 =>
 obI .i64 (H32.load t7h ((0 + 1) + 9)) fun x89 =>
 obI .i64 (H32.load t7h ((0 + 1) + 10)) fun x90 =>
 obI .i64 (H32.load t7h ((0 + 1) + 11)) fun x91 =>
 obI .i64 (H32.load t7h ((0 + 1) + 12)) fun x92 =>
 obI .i64 (H32.load t7h ((0 + 1) + 13)) fun x93 =>
 obI .i64 (H32.load t7h ((0 + 1) + 14)) fun x94 =>
 obI .i64 (H32.load t7h ((0 + 1) + 15)) fun x95 =>
 obI .i64 (H32.load t7h ((0 + 1) + 16)) fun x96 =>
 obI .i64 (H32.load t7h ((0 + 1) + 17)) fun x97 =>
 obL (H32.load t7h ((0 + 1) + 18)) fun b98 n98 k98 =>
 obL (H32.load t7h ((0 + 1) + 19)) fun b99 n99 k99 =>
 obL (H32.load t7h (0 + 21)) fun b100 n100 k100 =>
 cw 22 ⟨[.agg ⟨[I x80, I x81, I x82, I x83, I x84, I x85, I x86, I x87, I x88, I x89, I x90, I x91, I x92, I x93, I x94, I x95, I x96, I x97, .slice b98 n98 k98, .slice b99 n99 k99]⟩, .slice b100 n100 k100]⟩ H32 fun v101 H102 =>
 obI .i64 (some v101) fun x103 =>
 ifB (x103 != 0) (
 obH (H102.storeN t2h 0 [I 0, I 0, I 0, I 0, I 0, I 0, I 0, I 0, I 0, I 0, I 0, I 0, I 0, I 0, I 0, I 0, I 0, I 0, .slice none 0 0, .slice none 0 0]) fun H104 =>
 obI .i64 (H104.load t2h (0 + 0)) fun x105 =>
 obI .i64 (H104.load t2h (0 + 1)) fun x106 =>
 obI .i64 (H104.load t2h (0 + 2)) fun x107 =>
 obI .i64 (H104.load t2h (0 + 3)) fun x108 =>
 obI .i64 (H104.load t2h (0 + 4)) fun x109 =>
 obI .i64 (H104.load t2h (0 + 5)) fun x110 =>
 obI .i64 (H104.load t2h (0 + 6)) fun x111 =>
 obI .i64 (H104.load t2h (0 + 7)) fun x112 =>
 obI .i64 (H104.load t2h (0 + 8)) fun x113 =>
 obI .i64 (H104.load t2h (0 + 9)) fun x114 =>
 obI .i64 (H104.load t2h (0 + 10)) fun x115 =>
 obI .i64 (H104.load t2h (0 + 11)) fun x116 =>
 obI .i64 (H104.load t2h (0 + 12)) fun x117 =>
 obI .i64 (H104.load t2h (0 + 13)) fun x118 =>
 obI .i64 (H104.load t2h (0 + 14)) fun x119 =>
 obI .i64 (H104.load t2h (0 + 15)) fun x120 =>
 obI .i64 (H104.load t2h (0 + 16)) fun x121 =>
 obI .i64 (H104.load t2h (0 + 17)) fun x122 =>
 obL (H104.load t2h (0 + 18)) fun b123 n123 k123 =>
 obL (H104.load t2h (0 + 19)) fun b124 n124 k124 =>
 Q (.tuple ⟨[.agg ⟨[I x105, I x106, I x107, I x108, I x109, I x110, I x111, I x112, I x113, I x114, I x115, I x116, I x117, I x118, I x119, I x120, I x121, I x122, .slice b123 n123 k123, .slice b124 n124 k124]⟩, .slice none 0 0, I 0, I x103]⟩) H104) (
 obI .i64 (H102.load t7h ((0 + 1) + 0)) fun x125 =>
 obI .i64 (H102.load t7h ((0 + 1) + 1)) fun x126 =>
 obI .i64 (H102.load t7h ((0 + 1) + 2)) fun x127 =>
 obI .i64 (H102.load t7h ((0 + 1) + 3)) fun x128 =>
 obI .i64 (H102.load t7h ((0 + 1) + 4)) fun x129 =>
 obI .i64 (H102.load t7h ((0 + 1) + 5)) fun x130 =>
 obI .i64 (H102.load t7h ((0 + 1) + 6)) fun x131 =>
 obI .i64 (H102.load t7h ((0 + 1) + 7)) fun x132 =>
 obI .i64 (H102.load t7h ((0 + 1) + 8)) fun x133 =>
 obI .i64 (H102.load t7h ((0 + 1) + 9)) fun x134 =>
 obI .i64 (H102.load t7h ((0 + 1) + 10)) fun x135 =>
 obI .i64 (H102.load t7h ((0 + 1) + 11)) fun x136 =>
 obI .i64 (H102.load t7h ((0 + 1) + 12)) fun x137 =>
 obI .i64 (H102.load t7h ((0 + 1) + 13)) fun x138 =>
 obI .i64 (H102.load t7h ((0 + 1) + 14)) fun x139 =>
 obI .i64 (H102.load t7h ((0 + 1) + 15)) fun x140 =>
 obI .i64 (H102.load t7h ((0 + 1) + 16)) fun x141 =>
 obI .i64 (H102.load t7h ((0 + 1) + 17)) fun x142 =>
 obL (H102.load t7h ((0 + 1) + 18)) fun b143 n143 k143 =>
 obL (H102.load t7h ((0 + 1) + 19)) fun b144 n144 k144 =>
 obL (H102.load t7h (0 + 21)) fun b145 n145 k145 =>
 obH (H102.storeN t2h 0 [I x125, I x126, I x127, I x128, I x129, I x130, I x131, I x132, I x133, I x134, I x135, I x136, I x137, I x138, I x139, I x140, I x141, I x142, .slice b143 n143 k143, .slice b144 n144 k144]) fun H146 =>
 obE1 (H146.load t7h (0 + 21)) (.slice b145 n145 k145) (
 obI .i64 (H146.load t2h (0 + 0)) fun x147 =>
 obI .i64 (H146.load t2h (0 + 1)) fun x148 =>
 obI .i64 (H146.load t2h (0 + 2)) fun x149 =>
 obI .i64 (H146.load t2h (0 + 3)) fun x150 =>
 obI .i64 (H146.load t2h (0 + 4)) fun x151 =>
 obI .i64 (H146.load t2h (0 + 5)) fun x152 =>
 obI .i64 (H146.load t2h (0 + 6)) fun x153 =>
 obI .i64 (H146.load t2h (0 + 7)) fun x154 =>
 obI .i64 (H146.load t2h (0 + 8)) fun x155 =>
 obI .i64 (H146.load t2h (0 + 9)) fun x156 =>
 obI .i64 (H146.load t2h (0 + 10)) fun x157 =>
 obI .i64 (H146.load t2h (0 + 11)) fun x158 =>
 obI .i64 (H146.load t2h (0 + 12)) fun x159 =>
 obI .i64 (H146.load t2h (0 + 13)) fun x160 =>
 obI .i64 (H146.load t2h (0 + 14)) fun x161 =>
 obI .i64 (H146.load t2h (0 + 15)) fun x162 =>
 obI .i64 (H146.load t2h (0 + 16)) fun x163 =>
 obI .i64 (H146.load t2h (0 + 17)) fun x164 =>
 obL (H146.load t2h (0 + 18)) fun b165 n165 k165 =>
 obL (H146.load t2h (0 + 19)) fun b166 n166 k166 =>
 Q (.tuple ⟨[.agg ⟨[I x147, I x148, I x149, I x150, I x151, I x152, I x153, I x154, I x155, I x156, I x157, I x158, I x159, I x160, I x161, I x162, I x163, I x164, .slice b165 n165 k165, .slice b166 n166 k166]⟩, .slice b145 n145 k145, I 0, I 0]⟩) H146))))
theorem f18L0_step {cw : CallW} {Q : Value → AH → Prop} {t2h : Nat} {t6b : Option Addr} {t6n t6k t7h : Nat} {t8 : Int} {H : AH} (h : f18B0 cw Q (LoopP (f18W0 cw Q)) t2h t6b t6n t6k t7h t8 H) : f18L0 cw Q t2h t6b t6n t6k t7h t8 H := LoopP.step (of_eq (by kernel_rfl) h)
def f18R (cw : CallW) (a0 : ByteArray) (H : AH) (Q : Value → AH → Prop) : Prop :=
 letH (H.new 0 [I 0, I 0, I 0, I 0, I 0, I 0, I 0, I 0, I 0, I 0, I 0, I 0, I 0, I 0, I 0, I 0, I 0, I 0, .slice none 0 0, .slice none 0 0]) fun H1 =>
 cw 37 ⟨[.string a0, .int .u8 10]⟩ H1 fun v2 H3 =>
 obL (some v2) fun b4 n4 k4 =>
 letH (H3.new 0 [I 0, I 0, I 0, I 0, I 0, I 0, I 0, I 0, I 0, I 0, I 0, I 0, I 0, I 0, I 0, I 0, I 0, I 0, I 0, .slice none 0 0, .slice none 0 0, .slice none 0 0]) fun H5 =>
 f18L0 cw Q H.next b4 n4 k4 H3.next 0 H5
def ks22 : Keeps := fun i => match i with
 | 7 => some [1, 6]
 | 2009 => some [1, 6, 36]
 | 2011 => some [1, 6, 70]
 | 4009 => some [36]
 | 4011 => some [70]
 | _ => none
def f22_n : Nat := 71
def f22S0 (t1b : Option Addr) (t1n t1k : Nat) (t6 : Int) (H : AH) : St := (((Tr.leaf.put 1 (.slice t1b t1n t1k)).put 6 (I t6)), H)
def f22W0 (cw : CallW) (Q : Value → AH → Prop) : (St → Prop) → St → Prop := fun rec0 s =>
 execW Tryz.prog cw ks22 f22_n (cL (cL (cR (cL (cR (cR (cR (bodyOf Tryz.f22)))))))) (kLoop ks22 (cL (cL (cR (cL (cR (cR (cR (bodyOf Tryz.f22)))))))) rec0 (kBlock ks22 0 (kSeq (execW Tryz.prog cw ks22 f22_n (cR (cR (cR (cR (bodyOf Tryz.f22)))))) (kRet Tryz.prog Tryz.f22 Q)))) s
def f22L0 (cw : CallW) (Q : Value → AH → Prop) (t1b : Option Addr) (t1n t1k : Nat) (t6 : Int) (H : AH) : Prop := LoopP (f22W0 cw Q) (f22S0 t1b t1n t1k t6 H)
def f22B0 (cw : CallW) (Q : Value → AH → Prop) (rec0 : St → Prop) (t1b : Option Addr) (t1n t1k : Nat) (t6 : Int) (H : AH) : Prop :=
 ifB (decide (t6 < (t1n : Int))) (
 join2 (fun J1 =>
 obA (elemS 5 (.slice t1b t1n t1k) (I t6)) fun h2 i2 =>
 obL (H.load h2 (i2 + 4)) fun b3 n3 k3 =>
 ifB (decide ((n3 : Int) < 1)) (
 J1 true H) (
 obA (elemS 5 (.slice t1b t1n t1k) (I t6)) fun h4 i4 =>
 obL (H.load h4 (i4 + 4)) fun b5 n5 k5 =>
 J1 (decide ((n5 : Int) > 1500)) H)) fun c6 H7 =>
 ifB c6 (
 Q (I 2) H7) (
 join2 (fun J8 =>
 obA (elemS 5 (.slice t1b t1n t1k) (I t6)) fun h9 i9 =>
 obI .i64 (H7.load h9 (i9 + 0)) fun x10 =>
 cw 44 ⟨[I x10]⟩ H7 fun v11 H12 =>
 obB (some v11) fun c13 =>
 ifB (!c13) (
 J8 true H12) (
 obA (elemS 5 (.slice t1b t1n t1k) (I t6)) fun h14 i14 =>
 obI .i64 (H12.load h14 (i14 + 1)) fun x15 =>
 cw 44 ⟨[I x15]⟩ H12 fun v16 H17 =>
 obB (some v16) fun c18 =>
 ifB (!c18) (
 J8 true H17) (
 obA (elemS 5 (.slice t1b t1n t1k) (I t6)) fun h19 i19 =>
 obI .i64 (H17.load h19 (i19 + 2)) fun x20 =>
 cw 44 ⟨[I x20]⟩ H17 fun v21 H22 =>
 obB (some v21) fun c23 =>
 ifB (!c23) (
 J8 true H22) (
 obA (elemS 5 (.slice t1b t1n t1k) (I t6)) fun h24 i24 =>
 obI .i64 (H22.load h24 (i24 + 3)) fun x25 =>
 cw 44 ⟨[I x25]⟩ H22 fun v26 H27 =>
 obB (some v26) fun c28 =>
 J8 (!c28) H27)))) fun c29 H30 =>
 ifB c29 (
 Q (I 3) H30) (
 rec0 (f22S0 t1b t1n t1k (IntKind.wrap .i64 (t6 + 1)) H30)))) (
 Q (I 0) H)
theorem f22L0_step {cw : CallW} {Q : Value → AH → Prop} {t1b : Option Addr} {t1n t1k : Nat} {t6 : Int} {H : AH} (h : f22B0 cw Q (LoopP (f22W0 cw Q)) t1b t1n t1k t6 H) : f22L0 cw Q t1b t1n t1k t6 H := LoopP.step (of_eq (by kernel_rfl) h)
def f22R (cw : CallW) (a0_0 a0_1 a0_2 a0_3 a0_4 a0_5 a0_6 a0_7 a0_8 a0_9 a0_10 a0_11 a0_12 a0_13 a0_14 a0_15 a0_16 a0_17 : Int) (a0_18b : Option Addr) (a0_18n a0_18k : Nat) (a0_19b : Option Addr) (a0_19n a0_19k : Nat) (a1b : Option Addr) (a1n a1k : Nat) (H : AH) (Q : Value → AH → Prop) : Prop :=
 letH (H.new 0 [I a0_0, I a0_1, I a0_2, I a0_3, I a0_4, I a0_5, I a0_6, I a0_7, I a0_8, I a0_9, I a0_10, I a0_11, I a0_12, I a0_13, I a0_14, I a0_15, I a0_16, I a0_17, .slice a0_18b a0_18n a0_18k, .slice a0_19b a0_19n a0_19k]) fun H1 =>
 obI .i64 (H1.load H.next (0 + 0)) fun x2 =>
 obI .i64 (H1.load H.next (0 + 1)) fun x3 =>
 obI .i64 (H1.load H.next (0 + 2)) fun x4 =>
 obI .i64 (H1.load H.next (0 + 3)) fun x5 =>
 obI .i64 (H1.load H.next (0 + 4)) fun x6 =>
 obI .i64 (H1.load H.next (0 + 5)) fun x7 =>
 obI .i64 (H1.load H.next (0 + 6)) fun x8 =>
 obI .i64 (H1.load H.next (0 + 7)) fun x9 =>
 obI .i64 (H1.load H.next (0 + 8)) fun x10 =>
 obI .i64 (H1.load H.next (0 + 9)) fun x11 =>
 obI .i64 (H1.load H.next (0 + 10)) fun x12 =>
 obI .i64 (H1.load H.next (0 + 11)) fun x13 =>
 obI .i64 (H1.load H.next (0 + 12)) fun x14 =>
 obI .i64 (H1.load H.next (0 + 13)) fun x15 =>
 obI .i64 (H1.load H.next (0 + 14)) fun x16 =>
 obI .i64 (H1.load H.next (0 + 15)) fun x17 =>
 obI .i64 (H1.load H.next (0 + 16)) fun x18 =>
 obI .i64 (H1.load H.next (0 + 17)) fun x19 =>
 obL (H1.load H.next (0 + 18)) fun b20 n20 k20 =>
 obL (H1.load H.next (0 + 19)) fun b21 n21 k21 =>
 cw 43 ⟨[.agg ⟨[I x2, I x3, I x4, I x5, I x6, I x7, I x8, I x9, I x10, I x11, I x12, I x13, I x14, I x15, I x16, I x17, I x18, I x19, .slice b20 n20 k20, .slice b21 n21 k21]⟩]⟩ H1 fun v22 H23 =>
 obI .i64 (some v22) fun x24 =>
 ifB (x24 != 0) (
 Q (I x24) H23) (
 ifB (decide ((a1n : Int) > 200)) (
 Q (I 67) H23) (
 f22L0 cw Q a1b a1n a1k 0 H23))
def ks23 : Keeps := fun i => match i with
 | 3 => some [1, 2, 5, 6]
 | 8 => some [1, 2, 5, 8]
 | 14 => some [1, 2, 5, 8, 9, 12]
 | 21 => some [1, 5, 16]
 | 3005 => some [1, 2, 5, 8, 9, 12]
 | 1001 => some [0, 1, 2, 3, 4, 5, 6, 7, 8, 9, 10, 11, 12, 13, 14, 15, 16, 17, 18, 20, 21, 22, 23, 24, 25, 26, 27, 28, 29, 31, 32, 33, 34, 35, 36, 37, 38, 39, 40, 42, 43, 44, 45, 46, 47, 48, 19, 30, 41, 49, 50, 51]
 | 1023 => some [0, 1, 2, 3, 4, 5, 6, 7, 8, 9, 10, 11, 12, 13, 14, 15, 16, 17, 18, 19, 20, 21, 24, 25, 26, 27, 28, 22, 23, 29, 30, 31, 32, 33]
 | _ => none
def f23_n : Nat := 244
def f23T0 (t1b : Option Addr) (t1n t1k t2h : Nat) (t5b : Option Addr) (t5n t5k : Nat) (t8 : Int) (t9h : Nat) (t12 : Int) (H : AH) : St := (((((((Tr.leaf.put 1 (.slice t1b t1n t1k)).put 2 (.pointer (some ⟨t2h, 0, none⟩))).put 5 (.slice t5b t5n t5k)).put 8 (I t8)).put 9 (.pointer (some ⟨t9h, 0, none⟩))).put 12 (I t12)), H)
def f23S2 (t1b : Option Addr) (t1n t1k t2h : Nat) (t5b : Option Addr) (t5n t5k : Nat) (t8 : Int) (t9h : Nat) (t12 : Int) (H : AH) : St := (((((((Tr.leaf.put 1 (.slice t1b t1n t1k)).put 2 (.pointer (some ⟨t2h, 0, none⟩))).put 5 (.slice t5b t5n t5k)).put 8 (I t8)).put 9 (.pointer (some ⟨t9h, 0, none⟩))).put 12 (I t12)), H)
def f23S3 (t1b : Option Addr) (t1n t1k : Nat) (t5b : Option Addr) (t5n t5k : Nat) (t16 : Int) (H : AH) : St := ((((Tr.leaf.put 1 (.slice t1b t1n t1k)).put 5 (.slice t5b t5n t5k)).put 16 (I t16)), H)
def f23S1 (t1b : Option Addr) (t1n t1k t2h : Nat) (t5b : Option Addr) (t5n t5k : Nat) (t8 : Int) (H : AH) : St := (((((Tr.leaf.put 1 (.slice t1b t1n t1k)).put 2 (.pointer (some ⟨t2h, 0, none⟩))).put 5 (.slice t5b t5n t5k)).put 8 (I t8)), H)
def f23S0 (t1b : Option Addr) (t1n t1k t2h : Nat) (t5b : Option Addr) (t5n t5k : Nat) (t6 : Int) (H : AH) : St := (((((Tr.leaf.put 1 (.slice t1b t1n t1k)).put 2 (.pointer (some ⟨t2h, 0, none⟩))).put 5 (.slice t5b t5n t5k)).put 6 (I t6)), H)
def f23J0 (cw : CallW) (Q : Value → AH → Prop) (rec1 rec2 : St → Prop) (t1b : Option Addr) (t1n t1k t2h : Nat) (t5b : Option Addr) (t5n t5k : Nat) (t8 : Int) (t9h : Nat) (t12 : Int) (H : AH) : Prop := (kSeq (execW Tryz.prog cw ks23 f23_n (cR (cR (cL (cL (cR (cR (cR (cR (cL (cL (cR (cL (cL (cR (cL (cR (cR (cR (bodyOf Tryz.f23)))))))))))))))))))) (kLoop ks23 (cL (cL (cR (cR (cR (cR (cL (cL (cR (cL (cL (cR (cL (cR (cR (cR (bodyOf Tryz.f23))))))))))))))))) rec2 (kBlock ks23 4 (kBlock ks23 3 (kSeq (execW Tryz.prog cw ks23 f23_n (cR (cR (cL (cL (cR (cL (cR (cR (cR (bodyOf Tryz.f23))))))))))) (kLoop ks23 (cL (cL (cR (cL (cR (cR (cR (bodyOf Tryz.f23)))))))) rec1 (kBlock ks23 2 (kSeq (execW Tryz.prog cw ks23 f23_n (cR (cR (cR (cR (bodyOf Tryz.f23)))))) (kRet Tryz.prog Tryz.f23 Q))))))))) .normal (f23T0 t1b t1n t1k t2h t5b t5n t5k t8 t9h t12 H)
def f23W2 (cw : CallW) (Q : Value → AH → Prop) (rec1 : St → Prop) : (St → Prop) → St → Prop := fun rec2 s =>
 execW Tryz.prog cw ks23 f23_n (cL (cL (cR (cR (cR (cR (cL (cL (cR (cL (cL (cR (cL (cR (cR (cR (bodyOf Tryz.f23))))))))))))))))) (kLoop ks23 (cL (cL (cR (cR (cR (cR (cL (cL (cR (cL (cL (cR (cL (cR (cR (cR (bodyOf Tryz.f23))))))))))))))))) rec2 (kBlock ks23 4 (kBlock ks23 3 (kSeq (execW Tryz.prog cw ks23 f23_n (cR (cR (cL (cL (cR (cL (cR (cR (cR (bodyOf Tryz.f23))))))))))) (kLoop ks23 (cL (cL (cR (cL (cR (cR (cR (bodyOf Tryz.f23)))))))) rec1 (kBlock ks23 2 (kSeq (execW Tryz.prog cw ks23 f23_n (cR (cR (cR (cR (bodyOf Tryz.f23)))))) (kRet Tryz.prog Tryz.f23 Q)))))))) s
def f23L2 (cw : CallW) (Q : Value → AH → Prop) (rec1 : St → Prop) (t1b : Option Addr) (t1n t1k t2h : Nat) (t5b : Option Addr) (t5n t5k : Nat) (t8 : Int) (t9h : Nat) (t12 : Int) (H : AH) : Prop := LoopP (f23W2 cw Q rec1) (f23S2 t1b t1n t1k t2h t5b t5n t5k t8 t9h t12 H)
def f23W3 (cw : CallW) (Q : Value → AH → Prop) : (St → Prop) → St → Prop := fun rec3 s =>
 execW Tryz.prog cw ks23 f23_n (cL (cL (cR (cL (cR (cR (cR (cR (bodyOf Tryz.f23))))))))) (kLoop ks23 (cL (cL (cR (cL (cR (cR (cR (cR (bodyOf Tryz.f23))))))))) rec3 (kBlock ks23 6 (kSeq (execW Tryz.prog cw ks23 f23_n (cR (cR (cR (cR (cR (bodyOf Tryz.f23))))))) (kRet Tryz.prog Tryz.f23 Q)))) s
def f23L3 (cw : CallW) (Q : Value → AH → Prop) (t1b : Option Addr) (t1n t1k : Nat) (t5b : Option Addr) (t5n t5k : Nat) (t16 : Int) (H : AH) : Prop := LoopP (f23W3 cw Q) (f23S3 t1b t1n t1k t5b t5n t5k t16 H)
def f23W1 (cw : CallW) (Q : Value → AH → Prop) : (St → Prop) → St → Prop := fun rec1 s =>
 execW Tryz.prog cw ks23 f23_n (cL (cL (cR (cL (cR (cR (cR (bodyOf Tryz.f23)))))))) (kLoop ks23 (cL (cL (cR (cL (cR (cR (cR (bodyOf Tryz.f23)))))))) rec1 (kBlock ks23 2 (kSeq (execW Tryz.prog cw ks23 f23_n (cR (cR (cR (cR (bodyOf Tryz.f23)))))) (kRet Tryz.prog Tryz.f23 Q)))) s
def f23L1 (cw : CallW) (Q : Value → AH → Prop) (t1b : Option Addr) (t1n t1k t2h : Nat) (t5b : Option Addr) (t5n t5k : Nat) (t8 : Int) (H : AH) : Prop := LoopP (f23W1 cw Q) (f23S1 t1b t1n t1k t2h t5b t5n t5k t8 H)
def f23W0 (cw : CallW) (Q : Value → AH → Prop) : (St → Prop) → St → Prop := fun rec0 s =>
 execW Tryz.prog cw ks23 f23_n (cL (cL (cR (cL (cR (cR (bodyOf Tryz.f23))))))) (kLoop ks23 (cL (cL (cR (cL (cR (cR (bodyOf Tryz.f23))))))) rec0 (kBlock ks23 0 (kSeq (execW Tryz.prog cw ks23 f23_n (cR (cR (cR (bodyOf Tryz.f23))))) (kRet Tryz.prog Tryz.f23 Q)))) s
def f23L0 (cw : CallW) (Q : Value → AH → Prop) (t1b : Option Addr) (t1n t1k t2h : Nat) (t5b : Option Addr) (t5n t5k : Nat) (t6 : Int) (H : AH) : Prop := LoopP (f23W0 cw Q) (f23S0 t1b t1n t1k t2h t5b t5n t5k t6 H)
def f23K0 (cw : CallW) (Q : Value → AH → Prop) (rec1 rec2 : St → Prop) (t1b : Option Addr) (t1n t1k t2h : Nat) (t5b : Option Addr) (t5n t5k : Nat) (t8 : Int) (t9h : Nat) (t12 : Int) (H : AH) : Prop :=
 rec2 (f23S2 t1b t1n t1k t2h t5b t5n t5k t8 t9h (IntKind.wrap .i64 (t12 + 1)) H)
theorem f23J0_eq (cw : CallW) (Q : Value → AH → Prop) (rec1 rec2 : St → Prop) (t1b : Option Addr) (t1n t1k t2h : Nat) (t5b : Option Addr) (t5n t5k : Nat) (t8 : Int) (t9h : Nat) (t12 : Int) (H : AH) : f23J0 cw Q rec1 rec2 t1b t1n t1k t2h t5b t5n t5k t8 t9h t12 H = f23K0 cw Q rec1 rec2 t1b t1n t1k t2h t5b t5n t5k t8 t9h t12 H := by kernel_rfl
def f23B2 (cw : CallW) (Q : Value → AH → Prop) (rec1 rec2 : St → Prop) (t1b : Option Addr) (t1n t1k t2h : Nat) (t5b : Option Addr) (t5n t5k : Nat) (t8 : Int) (t9h : Nat) (t12 : Int) (H : AH) : Prop :=
 obL (H.load t9h (0 + 2)) fun b1 n1 k1 =>
 ifB (decide (t12 < (n1 : Int))) (
 obL (H.load t9h (0 + 2)) fun b2 n2 k2 =>
 obA (elemS 11 (.slice b2 n2 k2) (I t12)) fun h3 i3 =>
 obI .i64 (H.load h3 (i3 + 0)) fun x4 =>
 obI .i64 (H.load h3 (i3 + 1)) fun x5 =>
 obI .i64 (H.load h3 (i3 + 2)) fun x6 =>
 obI .i64 (H.load h3 (i3 + 3)) fun x7 =>
 obI .i64 (H.load h3 (i3 + 4)) fun x8 =>
 obI .i64 (H.load h3 (i3 + 5)) fun x9 =>
 obI .i64 (H.load h3 (i3 + 6)) fun x10 =>
 obI .i64 (H.load h3 (i3 + 7)) fun x11 =>
 obI .i64 (H.load h3 (i3 + 8)) fun x12 =>
 obI .i64 (H.load h3 (i3 + 9)) fun x13 =>
 obI .i64 (H.load h3 (i3 + 10)) fun x14 =>
 obL (H.load t9h (0 + 2)) fun b15 n15 k15 =>
 obA (elemS 11 (.slice b15 n15 k15) (I t12)) fun h16 i16 =>
 obI .i64 (H.load h16 ((i16 + 5) + 0)) fun x17 =>
 obI .i64 (H.load h16 ((i16 + 5) + 1)) fun x18 =>
 obI .i64 (H.load h16 ((i16 + 5) + 2)) fun x19 =>
 obI .i64 (H.load h16 ((i16 + 5) + 3)) fun x20 =>
 obI .i64 (H.load h16 ((i16 + 5) + 4)) fun x21 =>
 obI .i64 (H.load h16 ((i16 + 5) + 5)) fun x22 =>
 letH (H.new 0 [I 0, I 0, I 0, I 0, I 0, I 0, I 0, I 0, I 0, I 0, I 0]) fun H23 =>
 letH (H23.new 0 [I 0, I 0, I 0, I 0, I 0, I 0]) fun H24 =>
 letH (H24.new 0 [I 0, I 0, I 0, I 0]) fun H25 =>
 obH (H25.storeN H.next 0 [I x4, I x5, I x6, I x7, I x8, I x9, I x10, I x11, I x12, I x13, I x14]) fun H26 =>
 obH (H26.storeN H23.next 0 [I x17, I x18, I x19, I x20, I x21, I x22]) fun H27 =>
 obH (H27.storeN H24.next 0 [I 0, I 0, I 0, I 0]) fun H28 =>
 obE1 (H25.load t9h (0 + 2)) (.slice b2 n2 k2) (
 obE1 (H25.load h3 (i3 + 0)) (I x4) (
 obE1 (H25.load h3 (i3 + 1)) (I x5) (
 obE1 (H25.load h3 (i3 + 2)) (I x6) (
 obE1 (H25.load h3 (i3 + 3)) (I x7) (
 obE1 (H25.load h3 (i3 + 4)) (I x8) (
 obE1 (H25.load h3 (i3 + 5)) (I x9) (
 obE1 (H25.load h3 (i3 + 6)) (I x10) (
 obE1 (H25.load h3 (i3 + 7)) (I x11) (
 obE1 (H25.load h3 (i3 + 8)) (I x12) (
 obE1 (H25.load h3 (i3 + 9)) (I x13) (
 obE1 (H25.load h3 (i3 + 10)) (I x14) (
 obE1 (H26.load t9h (0 + 2)) (.slice b15 n15 k15) (
 obE1 (H25.load t9h (0 + 2)) (.slice b15 n15 k15) (
 obE1 (H26.load h16 ((i16 + 5) + 0)) (I x17) (
 obE1 (H26.load h16 ((i16 + 5) + 1)) (I x18) (
 obE1 (H26.load h16 ((i16 + 5) + 2)) (I x19) (
 obE1 (H26.load h16 ((i16 + 5) + 3)) (I x20) (
 obE1 (H26.load h16 ((i16 + 5) + 4)) (I x21) (
 obE1 (H26.load h16 ((i16 + 5) + 5)) (I x22) (
 obE1 (H25.load h16 ((i16 + 5) + 0)) (I x17) (
 obE1 (H25.load h16 ((i16 + 5) + 1)) (I x18) (
 obE1 (H25.load h16 ((i16 + 5) + 2)) (I x19) (
 obE1 (H25.load h16 ((i16 + 5) + 3)) (I x20) (
 obE1 (H25.load h16 ((i16 + 5) + 4)) (I x21) (
 obE1 (H25.load h16 ((i16 + 5) + 5)) (I x22) (
 obL (H28.load t9h (0 + 3)) fun b29 n29 k29 =>
 ifB (decide (t12 < (n29 : Int))) (
 obL (H28.load t9h (0 + 3)) fun b30 n30 k30 =>
 obA (elemS 4 (.slice b30 n30 k30) (I t12)) fun h31 i31 =>
 obI .i64 (H28.load h31 (i31 + 0)) fun x32 =>
 obI .i64 (H28.load h31 (i31 + 1)) fun x33 =>
 obI .i64 (H28.load h31 (i31 + 2)) fun x34 =>
 obI .i64 (H28.load h31 (i31 + 3)) fun x35 =>
 obH (H28.storeN H24.next 0 [I x32, I x33, I x34, I x35]) fun H36 =>
 obI .i64 (H36.load H.next (0 + 0)) fun x37 =>
 obI .i64 (H36.load H.next (0 + 1)) fun x38 =>
 obI .i64 (H36.load H.next (0 + 2)) fun x39 =>
 obI .i64 (H36.load H.next (0 + 3)) fun x40 =>
 obI .i64 (H36.load H.next (0 + 4)) fun x41 =>
 obI .i64 (H36.load H23.next (0 + 0)) fun x42 =>
 obI .i64 (H36.load H23.next (0 + 1)) fun x43 =>
 obI .i64 (H36.load H23.next (0 + 2)) fun x44 =>
 obI .i64 (H36.load H23.next (0 + 3)) fun x45 =>
 obI .i64 (H36.load H23.next (0 + 4)) fun x46 =>
 obI .i64 (H36.load H23.next (0 + 5)) fun x47 =>
 obI .i64 (H36.load H24.next (0 + 0)) fun x48 =>
 obI .i64 (H36.load H24.next (0 + 1)) fun x49 =>
 obI .i64 (H36.load H24.next (0 + 2)) fun x50 =>
 obI .i64 (H36.load H24.next (0 + 3)) fun x51 =>
 letH (H36.new 1 [I x37, I x38, I x39, I x40, I x41, I x42, I x43, I x44, I x45, I x46, I x47, I x48, I x49, I x50, I x51]) fun H52 =>
 cw 45 ⟨[.string (bs [98, 101, 97, 114, 101, 114]), .slice (some ⟨H36.next, 0, none⟩) 15 15]⟩ H52 fun v53 H54 =>
 obS (some v53) fun s55 =>
 letH (H54.new 1 [.string s55]) fun H56 =>
 obG (appendV 1 16 H56 (.slice t5b t5n t5k) (.slice (some ⟨H54.next, 0, none⟩) 1 1)) fun b57 n57 k57 H58 =>
 f23J0 cw Q rec1 rec2 t1b t1n t1k t2h b57 n57 k57 t8 t9h t12 H58) (
 obI .i64 (H28.load H.next (0 + 0)) fun x59 =>
 obI .i64 (H28.load H.next (0 + 1)) fun x60 =>
 obI .i64 (H28.load H.next (0 + 2)) fun x61 =>
 obI .i64 (H28.load H.next (0 + 3)) fun x62 =>
 obI .i64 (H28.load H.next (0 + 4)) fun x63 =>
 obI .i64 (H28.load H23.next (0 + 0)) fun x64 =>
 obI .i64 (H28.load H23.next (0 + 1)) fun x65 =>
 obI .i64 (H28.load H23.next (0 + 2)) fun x66 =>
 obI .i64 (H28.load H23.next (0 + 3)) fun x67 =>
 obI .i64 (H28.load H23.next (0 + 4)) fun x68 =>
 obI .i64 (H28.load H23.next (0 + 5)) fun x69 =>
 obI .i64 (H28.load H24.next (0 + 0)) fun x70 =>
 obI .i64 (H28.load H24.next (0 + 1)) fun x71 =>
 obI .i64 (H28.load H24.next (0 + 2)) fun x72 =>
 obI .i64 (H28.load H24.next (0 + 3)) fun x73 =>
 letH (H28.new 1 [I x59, I x60, I x61, I x62, I x63, I x64, I x65, I x66, I x67, I x68, I x69, I x70, I x71, I x72, I x73]) fun H74 =>
 cw 45 ⟨[.string (bs [98, 101, 97, 114, 101, 114]), .slice (some ⟨H28.next, 0, none⟩) 15 15]⟩ H74 fun v75 H76 =>
 obS (some v75) fun s77 =>
 letH (H76.new 1 [.string s77]) fun H78 =>
 obG (appendV 1 16 H78 (.slice t5b t5n t5k) (.slice (some ⟨H76.next, 0, none⟩) 1 1)) fun b79 n79 k79 H80 =>
 f23J0 cw Q rec1 rec2 t1b t1n t1k t2h b79 n79 k79 t8 t9h t12 H80)))))))))))))))))))))))))))) (
 rec1 (f23S1 t1b t1n t1k t2h t5b t5n t5k (IntKind.wrap .i64 (t8 + 1)) H))
theorem f23L2_step {cw : CallW} {Q : Value → AH → Prop} {rec1 : St → Prop} {t1b : Option Addr} {t1n t1k t2h : Nat} {t5b : Option Addr} {t5n t5k : Nat} {t8 : Int} {t9h : Nat} {t12 : Int} {H : AH} (h : f23B2 cw Q rec1 (LoopP (f23W2 cw Q rec1)) t1b t1n t1k t2h t5b t5n t5k t8 t9h t12 H) : f23L2 cw Q rec1 t1b t1n t1k t2h t5b t5n t5k t8 t9h t12 H := LoopP.step (of_eq (by kernel_rfl) h)
def f23B3 (cw : CallW) (Q : Value → AH → Prop) (rec3 : St → Prop) (t1b : Option Addr) (t1n t1k : Nat) (t5b : Option Addr) (t5n t5k : Nat) (t16 : Int) (H : AH) : Prop :=
 ifB (decide (t16 < (t1n : Int))) (
 obA (elemS 5 (.slice t1b t1n t1k) (I t16)) fun h1 i1 =>
 obI .i64 (H.load h1 (i1 + 0)) fun x2 =>
 obA (elemS 5 (.slice t1b t1n t1k) (I t16)) fun h3 i3 =>
 obI .i64 (H.load h3 (i3 + 1)) fun x4 =>
 obA (elemS 5 (.slice t1b t1n t1k) (I t16)) fun h5 i5 =>
 obI .i64 (H.load h5 (i5 + 2)) fun x6 =>
 obA (elemS 5 (.slice t1b t1n t1k) (I t16)) fun h7 i7 =>
 obI .i64 (H.load h7 (i7 + 3)) fun x8 =>
 letH (H.new 1 [I x2, I x4, I x6, I x8]) fun H9 =>
 obA (elemS 5 (.slice t1b t1n t1k) (I t16)) fun h10 i10 =>
 obL (H9.load h10 (i10 + 4)) fun b11 n11 k11 =>
 cw 45 ⟨[.string (bs [112, 97, 99, 107, 101, 116]), .slice (some ⟨H.next, 0, none⟩) 4 4]⟩ H9 fun v12 H13 =>
 obS (some v12) fun s14 =>
 obS (aStr .add s14 (bs [32])) fun s15 =>
 cw 46 ⟨[.slice b11 n11 k11]⟩ H13 fun v16 H17 =>
 obS (some v16) fun s18 =>
 obS (aStr .add s15 s18) fun s19 =>
 letH (H17.new 1 [.string s19]) fun H20 =>
 obG (appendV 1 16 H20 (.slice t5b t5n t5k) (.slice (some ⟨H17.next, 0, none⟩) 1 1)) fun b21 n21 k21 H22 =>
 obE1 (H9.load h1 (i1 + 0)) (I x2) (
 obE1 (H9.load h3 (i3 + 1)) (I x4) (
 obE1 (H9.load h5 (i5 + 2)) (I x6) (
 obE1 (H9.load h7 (i7 + 3)) (I x8) (
 obE1 (H13.load h10 (i10 + 4)) (.slice b11 n11 k11) (
 obE1 (H9.load h10 (i10 + 4)) (.slice b11 n11 k11) (
 rec3 (f23S3 t1b t1n t1k b21 n21 k21 (IntKind.wrap .i64 (t16 + 1)) H22)))))))) (
 Q (.slice t5b t5n t5k) H)
theorem f23L3_step {cw : CallW} {Q : Value → AH → Prop} {t1b : Option Addr} {t1n t1k : Nat} {t5b : Option Addr} {t5n t5k : Nat} {t16 : Int} {H : AH} (h : f23B3 cw Q (LoopP (f23W3 cw Q)) t1b t1n t1k t5b t5n t5k t16 H) : f23L3 cw Q t1b t1n t1k t5b t5n t5k t16 H := LoopP.step (of_eq (by kernel_rfl) h)
def f23B1 (cw : CallW) (Q : Value → AH → Prop) (rec1 : St → Prop) (t1b : Option Addr) (t1n t1k t2h : Nat) (t5b : Option Addr) (t5n t5k : Nat) (t8 : Int) (H : AH) : Prop :=
 obL (H.load t2h (0 + 19)) fun b1 n1 k1 =>
 ifB (decide (t8 < (n1 : Int))) (
 obL (H.load t2h (0 + 19)) fun b2 n2 k2 =>
 obA (elemS 14 (.slice b2 n2 k2) (I t8)) fun h3 i3 =>
 obI .i64 (H.load h3 (i3 + 0)) fun x4 =>
 obI .i64 (H.load h3 (i3 + 1)) fun x5 =>
 obL (H.load h3 (i3 + 2)) fun b6 n6 k6 =>
 obL (H.load h3 (i3 + 3)) fun b7 n7 k7 =>
 obI .i64 (H.load h3 (i3 + 4)) fun x8 =>
 obI .i64 (H.load h3 (i3 + 5)) fun x9 =>
 obI .i64 (H.load h3 (i3 + 6)) fun x10 =>
 obI .i64 (H.load h3 (i3 + 7)) fun x11 =>
 obI .i64 (H.load h3 (i3 + 8)) fun x12 =>
 obI .i64 (H.load h3 (i3 + 9)) fun x13 =>
 obI .i64 (H.load h3 (i3 + 10)) fun x14 =>
 obI .i64 (H.load h3 (i3 + 11)) fun x15 =>
 obI .i64 (H.load h3 (i3 + 12)) fun x16 =>
 obI .i64 (H.load h3 (i3 + 13)) fun x17 =>
 letH (H.new 0 [I 0, I 0, .slice none 0 0, .slice none 0 0, I 0, I 0, I 0, I 0, I 0, I 0, I 0, I 0, I 0, I 0]) fun H18 =>
 obH (H18.storeN H.next 0 [I x4, I x5, .slice b6 n6 k6, .slice b7 n7 k7, I x8, I x9, I x10, I x11, I x12, I x13, I x14, I x15, I x16, I x17]) fun H19 =>
 obI .i64 (H19.load H.next ((0 + 4) + 0)) fun x20 =>
 obI .i64 (H19.load H.next ((0 + 4) + 1)) fun x21 =>
 obI .i64 (H19.load H.next ((0 + 4) + 2)) fun x22 =>
 obI .i64 (H19.load H.next ((0 + 7) + 0)) fun x23 =>
 obI .i64 (H19.load H.next ((0 + 7) + 1)) fun x24 =>
 obI .i64 (H19.load H.next ((0 + 7) + 2)) fun x25 =>
 obI .i64 (H19.load H.next ((0 + 7) + 3)) fun x26 =>
 obI .i64 (H19.load H.next ((0 + 7) + 4)) fun x27 =>
 obI .i64 (H19.load H.next ((0 + 7) + 5)) fun x28 =>
 letH (H19.new 0 [I 0, I 0, I 0]) fun H29 =>
 letH (H29.new 0 [I 0, I 0, I 0, I 0, I 0, I 0]) fun H30 =>
 obH (H30.storeN H19.next 0 [I x20, I x21, I x22]) fun H31 =>
 obH (H31.storeN H29.next 0 [I x23, I x24, I x25, I x26, I x27, I x28]) fun H32 =>
 obE1 (H30.load H.next ((0 + 4) + 0)) (I x20) (
 obE1 (H30.load H.next ((0 + 4) + 1)) (I x21) (
 obE1 (H30.load H.next ((0 + 4) + 2)) (I x22) (
 obE1 (H31.load H.next ((0 + 7) + 0)) (I x23) (
 obE1 (H31.load H.next ((0 + 7) + 1)) (I x24) (
 obE1 (H31.load H.next ((0 + 7) + 2)) (I x25) (
 obE1 (H31.load H.next ((0 + 7) + 3)) (I x26) (
 obE1 (H31.load H.next ((0 + 7) + 4)) (I x27) (
 obE1 (H31.load H.next ((0 + 7) + 5)) (I x28) (
 obE1 (H30.load H.next ((0 + 7) + 0)) (I x23) (
 obE1 (H30.load H.next ((0 + 7) + 1)) (I x24) (
 obE1 (H30.load H.next ((0 + 7) + 2)) (I x25) (
 obE1 (H30.load H.next ((0 + 7) + 3)) (I x26) (
 obE1 (H30.load H.next ((0 + 7) + 4)) (I x27) (
 obE1 (H30.load H.next ((0 + 7) + 5)) (I x28) (
 obI .i64 (H32.load H.next (0 + 0)) fun x33 =>
 obI .i64 (H32.load H.next (0 + 1)) fun x34 =>
 obI .i64 (H32.load H.next (0 + 13)) fun x35 =>
 obI .i64 (H32.load H19.next (0 + 0)) fun x36 =>
 obI .i64 (H32.load H19.next (0 + 1)) fun x37 =>
 obI .i64 (H32.load H19.next (0 + 2)) fun x38 =>
 obI .i64 (H32.load H29.next (0 + 0)) fun x39 =>
 obI .i64 (H32.load H29.next (0 + 1)) fun x40 =>
 obI .i64 (H32.load H29.next (0 + 2)) fun x41 =>
 obI .i64 (H32.load H29.next (0 + 3)) fun x42 =>
 obI .i64 (H32.load H29.next (0 + 4)) fun x43 =>
 obI .i64 (H32.load H29.next (0 + 5)) fun x44 =>
 letH (H32.new 1 [I x33, I x34, I x35, I x36, I x37, I x38, I x39, I x40, I x41, I x42, I x43, I x44]) fun H45 =>
 cw 45 ⟨[.string (bs [116, 101, 114, 109, 105, 110, 97, 108]), .slice (some ⟨H32.next, 0, none⟩) 12 12]⟩ H45 fun v46 H47 =>
 obS (some v46) fun s48 =>
 letH (H47.new 1 [.string s48]) fun H49 =>
 obG (appendV 1 16 H49 (.slice t5b t5n t5k) (.slice (some ⟨H47.next, 0, none⟩) 1 1)) fun b50 n50 k50 H51 =>
 f23L2 cw Q rec1 t1b t1n t1k t2h b50 n50 k50 t8 H.next 0 H51)))))))))))))))) (
 f23L3 cw Q t1b t1n t1k t5b t5n t5k 0 H)
theorem f23L1_step {cw : CallW} {Q : Value → AH → Prop} {t1b : Option Addr} {t1n t1k t2h : Nat} {t5b : Option Addr} {t5n t5k : Nat} {t8 : Int} {H : AH} (h : f23B1 cw Q (LoopP (f23W1 cw Q)) t1b t1n t1k t2h t5b t5n t5k t8 H) : f23L1 cw Q t1b t1n t1k t2h t5b t5n t5k t8 H := LoopP.step (of_eq (by kernel_rfl) h)
def f23B0 (cw : CallW) (Q : Value → AH → Prop) (rec0 : St → Prop) (t1b : Option Addr) (t1n t1k t2h : Nat) (t5b : Option Addr) (t5n t5k : Nat) (t6 : Int) (H : AH) : Prop :=
 obL (H.load t2h (0 + 18)) fun b1 n1 k1 =>
 ifB (decide (t6 < (n1 : Int))) (
 obL (H.load t2h (0 + 18)) fun b2 n2 k2 =>
 obA (elemS 5 (.slice b2 n2 k2) (I t6)) fun h3 i3 =>
 obI .i64 (H.load h3 (i3 + 0)) fun x4 =>
 obI .i64 (H.load h3 (i3 + 1)) fun x5 =>
 obI .i64 (H.load h3 (i3 + 2)) fun x6 =>
 obI .i64 (H.load h3 (i3 + 3)) fun x7 =>
 obI .i64 (H.load h3 (i3 + 4)) fun x8 =>
 letH (H.new 0 [I 0, I 0, I 0, I 0, I 0]) fun H9 =>
 obH (H9.storeN H.next 0 [I x4, I x5, I x6, I x7, I x8]) fun H10 =>
 obI .i64 (H10.load H.next (0 + 0)) fun x11 =>
 obI .i64 (H10.load H.next (0 + 1)) fun x12 =>
 obI .i64 (H10.load H.next (0 + 2)) fun x13 =>
 obI .i64 (H10.load H.next (0 + 3)) fun x14 =>
 obI .i64 (H10.load H.next (0 + 4)) fun x15 =>
 letH (H10.new 1 [I x11, I x12, I x13, I x14, I x15]) fun H16 =>
 cw 45 ⟨[.string (bs [102, 97, 100, 101]), .slice (some ⟨H10.next, 0, none⟩) 5 5]⟩ H16 fun v17 H18 =>
 obS (some v17) fun s19 =>
 letH (H18.new 1 [.string s19]) fun H20 =>
 obG (appendV 1 16 H20 (.slice t5b t5n t5k) (.slice (some ⟨H18.next, 0, none⟩) 1 1)) fun b21 n21 k21 H22 =>
 rec0 (f23S0 t1b t1n t1k t2h b21 n21 k21 (IntKind.wrap .i64 (t6 + 1)) H22)) (
 f23L1 cw Q t1b t1n t1k t2h t5b t5n t5k 0 H)
theorem f23L0_step {cw : CallW} {Q : Value → AH → Prop} {t1b : Option Addr} {t1n t1k t2h : Nat} {t5b : Option Addr} {t5n t5k : Nat} {t6 : Int} {H : AH} (h : f23B0 cw Q (LoopP (f23W0 cw Q)) t1b t1n t1k t2h t5b t5n t5k t6 H) : f23L0 cw Q t1b t1n t1k t2h t5b t5n t5k t6 H := LoopP.step (of_eq (by kernel_rfl) h)
def f23R (cw : CallW) (a0_0 a0_1 a0_2 a0_3 a0_4 a0_5 a0_6 a0_7 a0_8 a0_9 a0_10 a0_11 a0_12 a0_13 a0_14 a0_15 a0_16 a0_17 : Int) (a0_18b : Option Addr) (a0_18n a0_18k : Nat) (a0_19b : Option Addr) (a0_19n a0_19k : Nat) (a1b : Option Addr) (a1n a1k : Nat) (H : AH) (Q : Value → AH → Prop) : Prop :=
 letH (H.new 0 [I a0_0, I a0_1, I a0_2, I a0_3, I a0_4, I a0_5, I a0_6, I a0_7, I a0_8, I a0_9, I a0_10, I a0_11, I a0_12, I a0_13, I a0_14, I a0_15, I a0_16, I a0_17, .slice a0_18b a0_18n a0_18k, .slice a0_19b a0_19n a0_19k]) fun H1 =>
 obI .i64 (H1.load H.next (0 + 0)) fun x2 =>
 obI .i64 (H1.load H.next (0 + 1)) fun x3 =>
 obI .i64 (H1.load H.next (0 + 2)) fun x4 =>
 obI .i64 (H1.load H.next (0 + 3)) fun x5 =>
 obI .i64 (H1.load H.next (0 + 4)) fun x6 =>
 obI .i64 (H1.load H.next (0 + 5)) fun x7 =>
 obI .i64 (H1.load H.next (0 + 6)) fun x8 =>
 obI .i64 (H1.load H.next (0 + 7)) fun x9 =>
 obI .i64 (H1.load H.next (0 + 8)) fun x10 =>
 letH (H1.new 1 [I x2, I x3, I x4, I x5, I x6, I x7, I x8, I x9, I x10]) fun H11 =>
 obI .i64 (H11.load H.next ((0 + 9) + 0)) fun x12 =>
 obI .i64 (H11.load H.next ((0 + 9) + 1)) fun x13 =>
 obI .i64 (H11.load H.next ((0 + 9) + 2)) fun x14 =>
 letH (H11.new 1 [I x12, I x13, I x14]) fun H15 =>
 obI .i64 (H15.load H.next ((0 + 12) + 0)) fun x16 =>
 obI .i64 (H15.load H.next ((0 + 12) + 1)) fun x17 =>
 obI .i64 (H15.load H.next ((0 + 12) + 2)) fun x18 =>
 letH (H15.new 1 [I x16, I x17, I x18]) fun H19 =>
 obI .i64 (H19.load H.next ((0 + 15) + 1)) fun x20 =>
 obI .i64 (H19.load H.next ((0 + 15) + 2)) fun x21 =>
 letH (H19.new 1 [I x20, I x21]) fun H22 =>
 cw 45 ⟨[.string (bs [110, 101, 116, 119, 111, 114, 107]), .slice (some ⟨H1.next, 0, none⟩) 9 9]⟩ H22 fun v23 H24 =>
 obS (some v23) fun s25 =>
 cw 45 ⟨[.string (bs [112, 97, 116, 105, 101, 110, 99, 101]), .slice (some ⟨H11.next, 0, none⟩) 3 3]⟩ H24 fun v26 H27 =>
 obS (some v26) fun s28 =>
 cw 45 ⟨[.string (bs [114, 117, 108, 101]), .slice (some ⟨H15.next, 0, none⟩) 3 3]⟩ H27 fun v29 H30 =>
 obS (some v29) fun s31 =>
 cw 45 ⟨[.string (bs [111, 117, 116, 101, 114]), .slice (some ⟨H19.next, 0, none⟩) 2 2]⟩ H30 fun v32 H33 =>
 obS (some v32) fun s34 =>
 letH (H33.new 1 [.string s25, .string s28, .string s31, .string s34]) fun H35 =>
 obE1 (H22.load H.next (0 + 0)) (I x2) (
 obE1 (H22.load H.next (0 + 1)) (I x3) (
 obE1 (H22.load H.next (0 + 2)) (I x4) (
 obE1 (H22.load H.next (0 + 3)) (I x5) (
 obE1 (H22.load H.next (0 + 4)) (I x6) (
 obE1 (H22.load H.next (0 + 5)) (I x7) (
 obE1 (H22.load H.next (0 + 6)) (I x8) (
 obE1 (H22.load H.next (0 + 7)) (I x9) (
 obE1 (H22.load H.next (0 + 8)) (I x10) (
 obE1 (H24.load H.next ((0 + 9) + 0)) (I x12) (
 obE1 (H22.load H.next ((0 + 9) + 0)) (I x12) (
 obE1 (H24.load H.next ((0 + 9) + 1)) (I x13) (
 obE1 (H22.load H.next ((0 + 9) + 1)) (I x13) (
 obE1 (H24.load H.next ((0 + 9) + 2)) (I x14) (
 obE1 (H22.load H.next ((0 + 9) + 2)) (I x14) (
 obE1 (H27.load H.next ((0 + 12) + 0)) (I x16) (
 obE1 (H24.load H.next ((0 + 12) + 0)) (I x16) (
 obE1 (H22.load H.next ((0 + 12) + 0)) (I x16) (
 obE1 (H27.load H.next ((0 + 12) + 1)) (I x17) (
 obE1 (H24.load H.next ((0 + 12) + 1)) (I x17) (
 obE1 (H22.load H.next ((0 + 12) + 1)) (I x17) (
 obE1 (H27.load H.next ((0 + 12) + 2)) (I x18) (
 obE1 (H24.load H.next ((0 + 12) + 2)) (I x18) (
 obE1 (H22.load H.next ((0 + 12) + 2)) (I x18) (
 obE1 (H30.load H.next ((0 + 15) + 1)) (I x20) (
 obE1 (H27.load H.next ((0 + 15) + 1)) (I x20) (
 obE1 (H24.load H.next ((0 + 15) + 1)) (I x20) (
 obE1 (H22.load H.next ((0 + 15) + 1)) (I x20) (
 obE1 (H30.load H.next ((0 + 15) + 2)) (I x21) (
 obE1 (H27.load H.next ((0 + 15) + 2)) (I x21) (
 obE1 (H24.load H.next ((0 + 15) + 2)) (I x21) (
 obE1 (H22.load H.next ((0 + 15) + 2)) (I x21) (
 f23L0 cw Q a1b a1n a1k H.next (some ⟨H33.next, 0, none⟩) 4 4 0 H35))))))))))))))))))))))))))))))))
def ks37 : Keeps := fun i => match i with
 | 4 => some [0, 1, 5, 6, 7]
 | 2006 => some [0, 1, 5, 6, 7, 24]
 | 3001 => some [0, 1, 5, 6, 7]
 | 4006 => some [24]
 | _ => none
def f37_n : Nat := 35
def f37T0 (t0 : ByteArray) (t1 : Int) (t5b : Option Addr) (t5n t5k : Nat) (t6 t7 : Int) (H : AH) : St := ((((((Tr.leaf.put 0 (.string t0)).put 1 (.int .u8 t1)).put 5 (.slice t5b t5n t5k)).put 6 (I t6)).put 7 (I t7)), H)
def f37S0 (t0 : ByteArray) (t1 : Int) (t5b : Option Addr) (t5n t5k : Nat) (t6 t7 : Int) (H : AH) : St := ((((((Tr.leaf.put 0 (.string t0)).put 1 (.int .u8 t1)).put 5 (.slice t5b t5n t5k)).put 6 (I t6)).put 7 (I t7)), H)
def f37J0 (cw : CallW) (Q : Value → AH → Prop) (rec0 : St → Prop) (t0 : ByteArray) (t1 : Int) (t5b : Option Addr) (t5n t5k : Nat) (t6 t7 : Int) (H : AH) : Prop := (kSeq (execW Tryz.prog cw ks37 f37_n (cR (cR (cL (cL (cR (cL (cR (cR (cR (bodyOf Tryz.f37))))))))))) (kLoop ks37 (cL (cL (cR (cL (cR (cR (cR (bodyOf Tryz.f37)))))))) rec0 (kBlock ks37 0 (kSeq (execW Tryz.prog cw ks37 f37_n (cR (cR (cR (cR (bodyOf Tryz.f37)))))) (kRet Tryz.prog Tryz.f37 Q))))) .normal (f37T0 t0 t1 t5b t5n t5k t6 t7 H)
def f37W0 (cw : CallW) (Q : Value → AH → Prop) : (St → Prop) → St → Prop := fun rec0 s =>
 execW Tryz.prog cw ks37 f37_n (cL (cL (cR (cL (cR (cR (cR (bodyOf Tryz.f37)))))))) (kLoop ks37 (cL (cL (cR (cL (cR (cR (cR (bodyOf Tryz.f37)))))))) rec0 (kBlock ks37 0 (kSeq (execW Tryz.prog cw ks37 f37_n (cR (cR (cR (cR (bodyOf Tryz.f37)))))) (kRet Tryz.prog Tryz.f37 Q)))) s
def f37L0 (cw : CallW) (Q : Value → AH → Prop) (t0 : ByteArray) (t1 : Int) (t5b : Option Addr) (t5n t5k : Nat) (t6 t7 : Int) (H : AH) : Prop := LoopP (f37W0 cw Q) (f37S0 t0 t1 t5b t5n t5k t6 t7 H)
def f37K0 (cw : CallW) (Q : Value → AH → Prop) (rec0 : St → Prop) (t0 : ByteArray) (t1 : Int) (t5b : Option Addr) (t5n t5k : Nat) (t6 t7 : Int) (H : AH) : Prop :=
 rec0 (f37S0 t0 t1 t5b t5n t5k t6 (IntKind.wrap .i64 (t7 + 1)) H)
theorem f37J0_eq (cw : CallW) (Q : Value → AH → Prop) (rec0 : St → Prop) (t0 : ByteArray) (t1 : Int) (t5b : Option Addr) (t5n t5k : Nat) (t6 t7 : Int) (H : AH) : f37J0 cw Q rec0 t0 t1 t5b t5n t5k t6 t7 H = f37K0 cw Q rec0 t0 t1 t5b t5n t5k t6 t7 H := by kernel_rfl
def f37B0 (cw : CallW) (Q : Value → AH → Prop) (rec0 : St → Prop) (t0 : ByteArray) (t1 : Int) (t5b : Option Addr) (t5n t5k : Nat) (t6 t7 : Int) (H : AH) : Prop :=
 ifB (decide (t7 ≤ (t0.size : Int))) (
 join2 (fun J1 =>
 ifB (t7 == (t0.size : Int)) (
 J1 true H) (
 obI .u8 (idxS (.string t0) (I t7)) fun x2 =>
 J1 (x2 == t1) H)) fun c3 H4 =>
 ifB c3 (
 obS (sliceS (.string t0) (some (I t6)) (some (I t7))) fun s5 =>
 letH (H4.new 1 [.string s5]) fun H6 =>
 obG (appendV 1 16 H6 (.slice t5b t5n t5k) (.slice (some ⟨H4.next, 0, none⟩) 1 1)) fun b7 n7 k7 H8 =>
 f37J0 cw Q rec0 t0 t1 b7 n7 k7 (IntKind.wrap .i64 (t7 + 1)) t7 H8) (
 f37J0 cw Q rec0 t0 t1 t5b t5n t5k t6 t7 H4)) (
 Q (.slice t5b t5n t5k) H)
theorem f37L0_step {cw : CallW} {Q : Value → AH → Prop} {t0 : ByteArray} {t1 : Int} {t5b : Option Addr} {t5n t5k : Nat} {t6 t7 : Int} {H : AH} (h : f37B0 cw Q (LoopP (f37W0 cw Q)) t0 t1 t5b t5n t5k t6 t7 H) : f37L0 cw Q t0 t1 t5b t5n t5k t6 t7 H := LoopP.step (of_eq (by kernel_rfl) h)
def f37R (cw : CallW) (a0 : ByteArray) (a1 : Int) (H : AH) (Q : Value → AH → Prop) : Prop :=
 f37L0 cw Q a0 a1 none 0 0 0 0 H
def ks45 : Keeps := fun i => match i with
 | 2 => some [0, 1, 5]
 | _ => none
def f45_n : Nat := 21
def f45S0 (t0 : ByteArray) (t1b : Option Addr) (t1n t1k : Nat) (t5 : Int) (H : AH) : St := ((((Tr.leaf.put 0 (.string t0)).put 1 (.slice t1b t1n t1k)).put 5 (I t5)), H)
def f45W0 (cw : CallW) (Q : Value → AH → Prop) : (St → Prop) → St → Prop := fun rec0 s =>
 execW Tryz.prog cw ks45 f45_n (cL (cL (cR (cL (cR (bodyOf Tryz.f45)))))) (kLoop ks45 (cL (cL (cR (cL (cR (bodyOf Tryz.f45)))))) rec0 (kBlock ks45 0 (kSeq (execW Tryz.prog cw ks45 f45_n (cR (cR (bodyOf Tryz.f45)))) (kRet Tryz.prog Tryz.f45 Q)))) s
def f45L0 (cw : CallW) (Q : Value → AH → Prop) (t0 : ByteArray) (t1b : Option Addr) (t1n t1k : Nat) (t5 : Int) (H : AH) : Prop := LoopP (f45W0 cw Q) (f45S0 t0 t1b t1n t1k t5 H)
def f45B0 (cw : CallW) (Q : Value → AH → Prop) (rec0 : St → Prop) (t0 : ByteArray) (t1b : Option Addr) (t1n t1k : Nat) (t5 : Int) (H : AH) : Prop :=
 ifB (decide (t5 < (t1n : Int))) (
 obS (aStr .add t0 (bs [32])) fun s1 =>
 obA (elemS 1 (.slice t1b t1n t1k) (I t5)) fun h2 i2 =>
 obI .i64 (H.load h2 i2) fun x3 =>
 cw 69 ⟨[I x3]⟩ H fun v4 H5 =>
 obS (some v4) fun s6 =>
 obS (aStr .add s1 s6) fun s7 =>
 rec0 (f45S0 s7 t1b t1n t1k (IntKind.wrap .i64 (t5 + 1)) H5)) (
 Q (.string t0) H)
theorem f45L0_step {cw : CallW} {Q : Value → AH → Prop} {t0 : ByteArray} {t1b : Option Addr} {t1n t1k : Nat} {t5 : Int} {H : AH} (h : f45B0 cw Q (LoopP (f45W0 cw Q)) t0 t1b t1n t1k t5 H) : f45L0 cw Q t0 t1b t1n t1k t5 H := LoopP.step (of_eq (by kernel_rfl) h)
def f45R (cw : CallW) (a0 : ByteArray) (a1b : Option Addr) (a1n a1k : Nat) (H : AH) (Q : Value → AH → Prop) : Prop :=
 f45L0 cw Q a0 a1b a1n a1k 0 H
def ks46 : Keeps := fun i => match i with
 | 3 => some [0, 3, 4]
 | _ => none
def f46_n : Nat := 28
def f46S0 (t0b : Option Addr) (t0n t0k : Nat) (t3b : Option Addr) (t3n t3k : Nat) (t4 : Int) (H : AH) : St := ((((Tr.leaf.put 0 (.slice t0b t0n t0k)).put 3 (.slice t3b t3n t3k)).put 4 (I t4)), H)
def f46W0 (cw : CallW) (Q : Value → AH → Prop) : (St → Prop) → St → Prop := fun rec0 s =>
 execW Tryz.prog cw ks46 f46_n (cL (cL (cR (cL (cR (cR (bodyOf Tryz.f46))))))) (kLoop ks46 (cL (cL (cR (cL (cR (cR (bodyOf Tryz.f46))))))) rec0 (kBlock ks46 0 (kSeq (execW Tryz.prog cw ks46 f46_n (cR (cR (cR (bodyOf Tryz.f46))))) (kRet Tryz.prog Tryz.f46 Q)))) s
def f46L0 (cw : CallW) (Q : Value → AH → Prop) (t0b : Option Addr) (t0n t0k : Nat) (t3b : Option Addr) (t3n t3k : Nat) (t4 : Int) (H : AH) : Prop := LoopP (f46W0 cw Q) (f46S0 t0b t0n t0k t3b t3n t3k t4 H)
def f46B0 (cw : CallW) (Q : Value → AH → Prop) (rec0 : St → Prop) (t0b : Option Addr) (t0n t0k : Nat) (t3b : Option Addr) (t3n t3k : Nat) (t4 : Int) (H : AH) : Prop :=
 ifB (decide (t4 < (t0n : Int))) (
 obA (elemS 1 (.slice t0b t0n t0k) (I t4)) fun h1 i1 =>
 obI .u8 (H.load h1 i1) fun x2 =>
 obI .u8 (idxS (.string (bs [48, 49, 50, 51, 52, 53, 54, 55, 56, 57, 97, 98, 99, 100, 101, 102])) (.int .u8 (Int.fdiv x2 (2 ^ min (Int.toNat 4) (IntKind.bits .u8))))) fun x3 =>
 obA (elemS 1 (.slice t0b t0n t0k) (I t4)) fun h4 i4 =>
 obI .u8 (H.load h4 i4) fun x5 =>
 obI .u8 (idxS (.string (bs [48, 49, 50, 51, 52, 53, 54, 55, 56, 57, 97, 98, 99, 100, 101, 102])) (.int .u8 (IntKind.wrap .u8 (BitVec.ofInt (IntKind.bits .u8) x5 &&& BitVec.ofInt (IntKind.bits .u8) 15).toNat))) fun x6 =>
 letH (H.new 1 [.int .u8 x3, .int .u8 x6]) fun H7 =>
 obG (appendV 1 1 H7 (.slice t3b t3n t3k) (.slice (some ⟨H.next, 0, none⟩) 2 2)) fun b8 n8 k8 H9 =>
 obE1 (H7.load h1 i1) (.int .u8 x2) (
 obE1 (H7.load h4 i4) (.int .u8 x5) (
 rec0 (f46S0 t0b t0n t0k b8 n8 k8 (IntKind.wrap .i64 (t4 + 1)) H9)))) (
 obS (ofBytes H (.slice t3b t3n t3k)) fun s10 =>
 Q (.string s10) H)
theorem f46L0_step {cw : CallW} {Q : Value → AH → Prop} {t0b : Option Addr} {t0n t0k : Nat} {t3b : Option Addr} {t3n t3k : Nat} {t4 : Int} {H : AH} (h : f46B0 cw Q (LoopP (f46W0 cw Q)) t0b t0n t0k t3b t3n t3k t4 H) : f46L0 cw Q t0b t0n t0k t3b t3n t3k t4 H := LoopP.step (of_eq (by kernel_rfl) h)
def f46R (cw : CallW) (a0b : Option Addr) (a0n a0k : Nat) (H : AH) (Q : Value → AH → Prop) : Prop :=
 f46L0 cw Q a0b a0n a0k none 0 0 0 H
def ks59 : Keeps := fun i => match i with
 | 4 => some [1, 5, 6, 7]
 | 9 => some [1, 5, 6, 7, 8, 9, 10]
 | 2004 => some [1, 5, 6, 7, 24]
 | 2009 => some [1, 5, 6, 7, 8, 9, 10, 39]
 | 2011 => some [1, 5, 6, 7, 8, 9, 10, 42]
 | 2013 => some [1, 5, 6, 7, 8, 9, 10, 51]
 | 3001 => some [1, 5, 6, 7]
 | 3004 => some [1, 5, 6, 7, 8, 9, 10]
 | 4004 => some [24]
 | 4009 => some [39]
 | 4011 => some [42]
 | 4013 => some [51]
 | _ => none
def f59_n : Nat := 95
def f59T0 (t1 : Int) (t5b : Option Addr) (t5n t5k : Nat) (t6b : Option Addr) (t6n t6k : Nat) (t7 : Int) (H : AH) : St := (((((Tr.leaf.put 1 (I t1)).put 5 (.slice t5b t5n t5k)).put 6 (.slice t6b t6n t6k)).put 7 (I t7)), H)
def f59T1 (t1 : Int) (t5b : Option Addr) (t5n t5k : Nat) (t6b : Option Addr) (t6n t6k : Nat) (t7 : Int) (t8 : ByteArray) (t9 t10 : Int) (H : AH) : St := ((((((((Tr.leaf.put 1 (I t1)).put 5 (.slice t5b t5n t5k)).put 6 (.slice t6b t6n t6k)).put 7 (I t7)).put 8 (.string t8)).put 9 (I t9)).put 10 (I t10)), H)
def f59S1 (t1 : Int) (t5b : Option Addr) (t5n t5k : Nat) (t6b : Option Addr) (t6n t6k : Nat) (t7 : Int) (t8 : ByteArray) (t9 t10 : Int) (H : AH) : St := ((((((((Tr.leaf.put 1 (I t1)).put 5 (.slice t5b t5n t5k)).put 6 (.slice t6b t6n t6k)).put 7 (I t7)).put 8 (.string t8)).put 9 (I t9)).put 10 (I t10)), H)
def f59S0 (t1 : Int) (t5b : Option Addr) (t5n t5k : Nat) (t6b : Option Addr) (t6n t6k : Nat) (t7 : Int) (H : AH) : St := (((((Tr.leaf.put 1 (I t1)).put 5 (.slice t5b t5n t5k)).put 6 (.slice t6b t6n t6k)).put 7 (I t7)), H)
def f59J0 (cw : CallW) (Q : Value → AH → Prop) (rec0 : St → Prop) (t1 : Int) (t5b : Option Addr) (t5n t5k : Nat) (t6b : Option Addr) (t6n t6k : Nat) (t7 : Int) (H : AH) : Prop := (kSeq (execW Tryz.prog cw ks59 f59_n (cR (cR (cL (cL (cR (cL (cR (cR (cR (bodyOf Tryz.f59))))))))))) (kLoop ks59 (cL (cL (cR (cL (cR (cR (cR (bodyOf Tryz.f59)))))))) rec0 (kBlock ks59 0 (kSeq (execW Tryz.prog cw ks59 f59_n (cR (cR (cR (cR (bodyOf Tryz.f59)))))) (kRet Tryz.prog Tryz.f59 Q))))) .normal (f59T0 t1 t5b t5n t5k t6b t6n t6k t7 H)
def f59J1 (cw : CallW) (Q : Value → AH → Prop) (rec0 rec1 : St → Prop) (t1 : Int) (t5b : Option Addr) (t5n t5k : Nat) (t6b : Option Addr) (t6n t6k : Nat) (t7 : Int) (t8 : ByteArray) (t9 t10 : Int) (H : AH) : Prop := (kBlock ks59 3 (kSeq (execW Tryz.prog cw ks59 f59_n (cR (cR (cL (cL (cR (cL (cR (cR (cL (cL (cR (cL (cL (cR (cL (cR (cR (cR (bodyOf Tryz.f59)))))))))))))))))))) (kLoop ks59 (cL (cL (cR (cL (cR (cR (cL (cL (cR (cL (cL (cR (cL (cR (cR (cR (bodyOf Tryz.f59))))))))))))))))) rec1 (kBlock ks59 2 (kSeq (execW Tryz.prog cw ks59 f59_n (cR (cR (cR (cL (cL (cR (cL (cL (cR (cL (cR (cR (cR (bodyOf Tryz.f59))))))))))))))) (kBlock ks59 1 (kSeq (execW Tryz.prog cw ks59 f59_n (cR (cR (cL (cL (cR (cL (cR (cR (cR (bodyOf Tryz.f59))))))))))) (kLoop ks59 (cL (cL (cR (cL (cR (cR (cR (bodyOf Tryz.f59)))))))) rec0 (kBlock ks59 0 (kSeq (execW Tryz.prog cw ks59 f59_n (cR (cR (cR (cR (bodyOf Tryz.f59)))))) (kRet Tryz.prog Tryz.f59 Q))))))))))) .normal (f59T1 t1 t5b t5n t5k t6b t6n t6k t7 t8 t9 t10 H)
def f59W1 (cw : CallW) (Q : Value → AH → Prop) (rec0 : St → Prop) : (St → Prop) → St → Prop := fun rec1 s =>
 execW Tryz.prog cw ks59 f59_n (cL (cL (cR (cL (cR (cR (cL (cL (cR (cL (cL (cR (cL (cR (cR (cR (bodyOf Tryz.f59))))))))))))))))) (kLoop ks59 (cL (cL (cR (cL (cR (cR (cL (cL (cR (cL (cL (cR (cL (cR (cR (cR (bodyOf Tryz.f59))))))))))))))))) rec1 (kBlock ks59 2 (kSeq (execW Tryz.prog cw ks59 f59_n (cR (cR (cR (cL (cL (cR (cL (cL (cR (cL (cR (cR (cR (bodyOf Tryz.f59))))))))))))))) (kBlock ks59 1 (kSeq (execW Tryz.prog cw ks59 f59_n (cR (cR (cL (cL (cR (cL (cR (cR (cR (bodyOf Tryz.f59))))))))))) (kLoop ks59 (cL (cL (cR (cL (cR (cR (cR (bodyOf Tryz.f59)))))))) rec0 (kBlock ks59 0 (kSeq (execW Tryz.prog cw ks59 f59_n (cR (cR (cR (cR (bodyOf Tryz.f59)))))) (kRet Tryz.prog Tryz.f59 Q))))))))) s
def f59L1 (cw : CallW) (Q : Value → AH → Prop) (rec0 : St → Prop) (t1 : Int) (t5b : Option Addr) (t5n t5k : Nat) (t6b : Option Addr) (t6n t6k : Nat) (t7 : Int) (t8 : ByteArray) (t9 t10 : Int) (H : AH) : Prop := LoopP (f59W1 cw Q rec0) (f59S1 t1 t5b t5n t5k t6b t6n t6k t7 t8 t9 t10 H)
def f59W0 (cw : CallW) (Q : Value → AH → Prop) : (St → Prop) → St → Prop := fun rec0 s =>
 execW Tryz.prog cw ks59 f59_n (cL (cL (cR (cL (cR (cR (cR (bodyOf Tryz.f59)))))))) (kLoop ks59 (cL (cL (cR (cL (cR (cR (cR (bodyOf Tryz.f59)))))))) rec0 (kBlock ks59 0 (kSeq (execW Tryz.prog cw ks59 f59_n (cR (cR (cR (cR (bodyOf Tryz.f59)))))) (kRet Tryz.prog Tryz.f59 Q)))) s
def f59L0 (cw : CallW) (Q : Value → AH → Prop) (t1 : Int) (t5b : Option Addr) (t5n t5k : Nat) (t6b : Option Addr) (t6n t6k : Nat) (t7 : Int) (H : AH) : Prop := LoopP (f59W0 cw Q) (f59S0 t1 t5b t5n t5k t6b t6n t6k t7 H)
def f59K0 (cw : CallW) (Q : Value → AH → Prop) (rec0 : St → Prop) (t1 : Int) (t5b : Option Addr) (t5n t5k : Nat) (t6b : Option Addr) (t6n t6k : Nat) (t7 : Int) (H : AH) : Prop :=
 rec0 (f59S0 t1 t5b t5n t5k t6b t6n t6k (IntKind.wrap .i64 (t7 + 1)) H)
theorem f59J0_eq (cw : CallW) (Q : Value → AH → Prop) (rec0 : St → Prop) (t1 : Int) (t5b : Option Addr) (t5n t5k : Nat) (t6b : Option Addr) (t6n t6k : Nat) (t7 : Int) (H : AH) : f59J0 cw Q rec0 t1 t5b t5n t5k t6b t6n t6k t7 H = f59K0 cw Q rec0 t1 t5b t5n t5k t6b t6n t6k t7 H := by kernel_rfl
def f59K1 (cw : CallW) (Q : Value → AH → Prop) (rec0 rec1 : St → Prop) (t1 : Int) (t5b : Option Addr) (t5n t5k : Nat) (t6b : Option Addr) (t6n t6k : Nat) (t7 : Int) (t8 : ByteArray) (t9 t10 : Int) (H : AH) : Prop :=
 rec1 (f59S1 t1 t5b t5n t5k t6b t6n t6k t7 t8 t9 (IntKind.wrap .i64 (t10 + 1)) H)
theorem f59J1_eq (cw : CallW) (Q : Value → AH → Prop) (rec0 rec1 : St → Prop) (t1 : Int) (t5b : Option Addr) (t5n t5k : Nat) (t6b : Option Addr) (t6n t6k : Nat) (t7 : Int) (t8 : ByteArray) (t9 t10 : Int) (H : AH) : f59J1 cw Q rec0 rec1 t1 t5b t5n t5k t6b t6n t6k t7 t8 t9 t10 H = f59K1 cw Q rec0 rec1 t1 t5b t5n t5k t6b t6n t6k t7 t8 t9 t10 H := by kernel_rfl
def f59B1 (cw : CallW) (Q : Value → AH → Prop) (rec0 rec1 : St → Prop) (t1 : Int) (t5b : Option Addr) (t5n t5k : Nat) (t6b : Option Addr) (t6n t6k : Nat) (t7 : Int) (t8 : ByteArray) (t9 t10 : Int) (H : AH) : Prop :=
 join2 (fun J1 =>
 ifB (decide (t10 < (t8.size : Int))) (
 J1 (decide (t10 < 15)) H) (
 J1 false H)) fun c2 H3 =>
 ifB c2 (
 join2 (fun J4 =>
 ifB (t10 == 0) (
 obI .u8 (idxS (.string t8) (I t10)) fun x5 =>
 J4 (x5 == 45) H3) (
 J4 false H3)) fun c6 H7 =>
 ifB c6 (
 f59J1 cw Q rec0 rec1 t1 t5b t5n t5k t6b t6n t6k t7 t8 (-1) t10 H7) (
 join2 (fun J8 =>
 obI .u8 (idxS (.string t8) (I t10)) fun x9 =>
 ifB (decide (x9 ≥ 48)) (
 obI .u8 (idxS (.string t8) (I t10)) fun x10 =>
 J8 (decide (x10 ≤ 57)) H7) (
 J8 false H7)) fun c11 H12 =>
 ifB c11 (
 obA (elemS 1 (.slice t6b t6n t6k) (I t7)) fun h13 i13 =>
 obI .i64 (H12.load h13 i13) fun x14 =>
 obI .u8 (idxS (.string t8) (I t10)) fun x15 =>
 obA (elemS 1 (.slice t6b t6n t6k) (I t7)) fun h16 i16 =>
 obH (H12.storeN h16 i16 [I (IntKind.wrap .i64 ((IntKind.wrap .i64 (x14 * 10)) + (IntKind.wrap .i64 (IntKind.wrap .u8 (x15 - 48)))))]) fun H17 =>
 f59J1 cw Q rec0 rec1 t1 t5b t5n t5k t6b t6n t6k t7 t8 t9 t10 H17) (
 f59J1 cw Q rec0 rec1 t1 t5b t5n t5k t6b t6n t6k t7 t8 t9 t10 H12))) (
 obA (elemS 1 (.slice t6b t6n t6k) (I t7)) fun h18 i18 =>
 obI .i64 (H3.load h18 i18) fun x19 =>
 obA (elemS 1 (.slice t6b t6n t6k) (I t7)) fun h20 i20 =>
 obH (H3.storeN h20 i20 [I (IntKind.wrap .i64 (t9 * x19))]) fun H21 =>
 obA (elemS 1 (.slice t6b t6n t6k) (I t7)) fun h22 i22 =>
 obI .i64 (H21.load h22 i22) fun x23 =>
 cw 90 ⟨[I x23]⟩ H21 fun v24 H25 =>
 obB (some v24) fun c26 =>
 ifB (!c26) (
 obA (elemS 1 (.slice t6b t6n t6k) (I t7)) fun h27 i27 =>
 obH (H25.storeN h27 i27 [I 0]) fun H28 =>
 f59J0 cw Q rec0 t1 t5b t5n t5k t6b t6n t6k t7 H28) (
 f59J0 cw Q rec0 t1 t5b t5n t5k t6b t6n t6k t7 H25))
theorem f59L1_step {cw : CallW} {Q : Value → AH → Prop} {rec0 : St → Prop} {t1 : Int} {t5b : Option Addr} {t5n t5k : Nat} {t6b : Option Addr} {t6n t6k : Nat} {t7 : Int} {t8 : ByteArray} {t9 t10 : Int} {H : AH} (h : f59B1 cw Q rec0 (LoopP (f59W1 cw Q rec0)) t1 t5b t5n t5k t6b t6n t6k t7 t8 t9 t10 H) : f59L1 cw Q rec0 t1 t5b t5n t5k t6b t6n t6k t7 t8 t9 t10 H := LoopP.step (of_eq (by kernel_rfl) h)
def f59B0 (cw : CallW) (Q : Value → AH → Prop) (rec0 : St → Prop) (t1 : Int) (t5b : Option Addr) (t5n t5k : Nat) (t6b : Option Addr) (t6n t6k : Nat) (t7 : Int) (H : AH) : Prop :=
 join2 (fun J1 =>
 ifB (decide (t7 < t1)) (
 J1 (decide ((IntKind.wrap .i64 (t7 + 1)) < (t5n : Int))) H) (
 J1 false H)) fun c2 H3 =>
 ifB c2 (
 obA (elemS 1 (.slice t5b t5n t5k) (I (IntKind.wrap .i64 (t7 + 1)))) fun h4 i4 =>
 obS (H3.load h4 i4) fun s5 =>
 f59L1 cw Q rec0 t1 t5b t5n t5k t6b t6n t6k t7 s5 1 0 H3) (
 Q (.slice t6b t6n t6k) H3)
theorem f59L0_step {cw : CallW} {Q : Value → AH → Prop} {t1 : Int} {t5b : Option Addr} {t5n t5k : Nat} {t6b : Option Addr} {t6n t6k : Nat} {t7 : Int} {H : AH} (h : f59B0 cw Q (LoopP (f59W0 cw Q)) t1 t5b t5n t5k t6b t6n t6k t7 H) : f59L0 cw Q t1 t5b t5n t5k t6b t6n t6k t7 H := LoopP.step (of_eq (by kernel_rfl) h)
def f59R (cw : CallW) (a0 : ByteArray) (a1 : Int) (H : AH) (Q : Value → AH → Prop) : Prop :=
 cw 37 ⟨[.string a0, .int .u8 32]⟩ H fun v1 H2 =>
 obL (some v1) fun b3 n3 k3 =>
 obG (makeV 1 8 [I 0] H2 (I a1) (I a1)) fun b4 n4 k4 H5 =>
 f59L0 cw Q a1 b3 n3 k3 b4 n4 k4 0 H5
def ks60 : Keeps := fun i => match i with
 | 3 => some [0, 3, 4]
 | 1005 => some [0, 1, 2, 3, 6, 7, 8, 9, 4, 5, 10, 11, 12, 13, 14]
 | _ => none
def f60_n : Nat := 27
def f60S0 (t0 : ByteArray) (t3b : Option Addr) (t3n t3k : Nat) (t4 : Int) (H : AH) : St := ((((Tr.leaf.put 0 (.string t0)).put 3 (.slice t3b t3n t3k)).put 4 (I t4)), H)
def f60W0 (cw : CallW) (Q : Value → AH → Prop) : (St → Prop) → St → Prop := fun rec0 s =>
 execW Tryz.prog cw ks60 f60_n (cL (cL (cR (cL (cR (cR (bodyOf Tryz.f60))))))) (kLoop ks60 (cL (cL (cR (cL (cR (cR (bodyOf Tryz.f60))))))) rec0 (kBlock ks60 0 (kSeq (execW Tryz.prog cw ks60 f60_n (cR (cR (cR (bodyOf Tryz.f60))))) (kRet Tryz.prog Tryz.f60 Q)))) s
def f60L0 (cw : CallW) (Q : Value → AH → Prop) (t0 : ByteArray) (t3b : Option Addr) (t3n t3k : Nat) (t4 : Int) (H : AH) : Prop := LoopP (f60W0 cw Q) (f60S0 t0 t3b t3n t3k t4 H)
def f60B0 (cw : CallW) (Q : Value → AH → Prop) (rec0 : St → Prop) (t0 : ByteArray) (t3b : Option Addr) (t3n t3k : Nat) (t4 : Int) (H : AH) : Prop :=
 ifB (decide ((IntKind.wrap .i64 (t4 + 1)) < (t0.size : Int))) (
 obI .u8 (idxS (.string t0) (I t4)) fun x1 =>
 obI .u8 (idxS (.string t0) (I (IntKind.wrap .i64 (t4 + 1)))) fun x2 =>
 cw 91 ⟨[.int .u8 x1]⟩ H fun v3 H4 =>
 obI .u8 (some v3) fun x5 =>
 cw 91 ⟨[.int .u8 x2]⟩ H4 fun v6 H7 =>
 obI .u8 (some v6) fun x8 =>
 letH (H7.new 1 [.int .u8 (IntKind.wrap .u8 (BitVec.ofInt (IntKind.bits .u8) (IntKind.wrap .u8 (x5 * 2 ^ min (Int.toNat 4) (IntKind.bits .u8))) ||| BitVec.ofInt (IntKind.bits .u8) x8).toNat)]) fun H9 =>
 obG (appendV 1 1 H9 (.slice t3b t3n t3k) (.slice (some ⟨H7.next, 0, none⟩) 1 1)) fun b10 n10 k10 H11 =>
 rec0 (f60S0 t0 b10 n10 k10 (IntKind.wrap .i64 (t4 + 2)) H11)) (
 Q (.slice t3b t3n t3k) H)
theorem f60L0_step {cw : CallW} {Q : Value → AH → Prop} {t0 : ByteArray} {t3b : Option Addr} {t3n t3k : Nat} {t4 : Int} {H : AH} (h : f60B0 cw Q (LoopP (f60W0 cw Q)) t0 t3b t3n t3k t4 H) : f60L0 cw Q t0 t3b t3n t3k t4 H := LoopP.step (of_eq (by kernel_rfl) h)
def f60R (cw : CallW) (a0 : ByteArray) (H : AH) (Q : Value → AH → Prop) : Prop :=
 f60L0 cw Q a0 none 0 0 0 H
def ks69 : Keeps := fun i => match i with
 | 2001 => some [0, 8]
 | 4001 => some [8]
 | 1007 => some [0, 1, 3, 4, 5, 6, 7, 8, 2, 9, 10]
 | _ => none
def f69R (cw : CallW) (a0 : Int) (H : AH) (Q : Value → AH → Prop) : Prop :=
 join2 (fun J1 =>
 ifB (decide (a0 < 0)) (
 J1 (decide (a0 > (-10))) H) (
 J1 false H)) fun c2 H3 =>
 ifB c2 (
 cw 69 ⟨[I (IntKind.wrap .i64 (0 - a0))]⟩ H3 fun v4 H5 =>
 obS (some v4) fun s6 =>
 obS (aStr .add (bs [45]) s6) fun s7 =>
 Q (.string s7) H5) (
 ifB (decide (a0 < 0)) (
 obI .i64 (aInt .quo .i64 a0 10) fun x8 =>
 cw 69 ⟨[I x8]⟩ H3 fun v9 H10 =>
 obS (some v9) fun s11 =>
 obI .i64 (aInt .rem .i64 a0 10) fun x12 =>
 cw 69 ⟨[I (IntKind.wrap .i64 (0 - x12))]⟩ H10 fun v13 H14 =>
 obS (some v13) fun s15 =>
 obS (aStr .add s11 s15) fun s16 =>
 Q (.string s16) H14) (
 ifB (decide (a0 < 10)) (
 letH (H3.new 1 [.int .u8 (IntKind.wrap .u8 (IntKind.wrap .i64 (48 + a0)))]) fun H17 =>
 obS (ofBytes H17 (.slice (some ⟨H3.next, 0, none⟩) 1 1)) fun s18 =>
 Q (.string s18) H17) (
 obI .i64 (aInt .quo .i64 a0 10) fun x19 =>
 obI .i64 (aInt .rem .i64 a0 10) fun x20 =>
 letH (H3.new 1 [.int .u8 (IntKind.wrap .u8 (IntKind.wrap .i64 (48 + x20)))]) fun H21 =>
 obS (ofBytes H21 (.slice (some ⟨H3.next, 0, none⟩) 1 1)) fun s22 =>
 cw 69 ⟨[I x19]⟩ H21 fun v23 H24 =>
 obS (some v23) fun s25 =>
 obS (aStr .add s25 s22) fun s26 =>
 obE (ofBytes H24 (.slice (some ⟨H3.next, 0, none⟩) 1 1)) (.string s22) (
 obE (ofBytes H21 (.slice (some ⟨H3.next, 0, none⟩) 1 1)) (.string s22) (
 Q (.string s26) H24)))))
def ks90 : Keeps := fun i => match i with
 | 2001 => some [2]
 | 4001 => some [2]
 | _ => none
def f90R (cw : CallW) (a0 : Int) (H : AH) (Q : Value → AH → Prop) : Prop :=
 join2 (fun J1 =>
 ifB (decide (a0 ≥ (-1099511627776))) (
 J1 (decide (a0 ≤ 1099511627776)) H) (
 J1 false H)) fun c2 H3 =>
 Q (.bool c2) H3
def ks91 : Keeps := fun i => match i with
 | 2 => some [0, 3]
 | _ => none
def f91_n : Nat := 14
def f91S0 (t0 t3 : Int) (H : AH) : St := (((Tr.leaf.put 0 (.int .u8 t0)).put 3 (I t3)), H)
def f91W0 (cw : CallW) (Q : Value → AH → Prop) : (St → Prop) → St → Prop := fun rec0 s =>
 execW Tryz.prog cw ks91 f91_n (cL (cL (cR (cL (cR (bodyOf Tryz.f91)))))) (kLoop ks91 (cL (cL (cR (cL (cR (bodyOf Tryz.f91)))))) rec0 (kBlock ks91 0 (kSeq (execW Tryz.prog cw ks91 f91_n (cR (cR (bodyOf Tryz.f91)))) (kRet Tryz.prog Tryz.f91 Q)))) s
def f91L0 (cw : CallW) (Q : Value → AH → Prop) (t0 t3 : Int) (H : AH) : Prop := LoopP (f91W0 cw Q) (f91S0 t0 t3 H)
def f91B0 (cw : CallW) (Q : Value → AH → Prop) (rec0 : St → Prop) (t0 t3 : Int) (H : AH) : Prop :=
 ifB (decide (t3 < 16)) (
 obI .u8 (idxS (.string (bs [48, 49, 50, 51, 52, 53, 54, 55, 56, 57, 97, 98, 99, 100, 101, 102])) (I t3)) fun x1 =>
 ifB (x1 == t0) (
 Q (.int .u8 (IntKind.wrap .u8 t3)) H) (
 rec0 (f91S0 t0 (IntKind.wrap .i64 (t3 + 1)) H))) (
 Q (.int .u8 0) H)
theorem f91L0_step {cw : CallW} {Q : Value → AH → Prop} {t0 t3 : Int} {H : AH} (h : f91B0 cw Q (LoopP (f91W0 cw Q)) t0 t3 H) : f91L0 cw Q t0 t3 H := LoopP.step (of_eq (by kernel_rfl) h)
def f91R (cw : CallW) (a0 : Int) (H : AH) (Q : Value → AH → Prop) : Prop :=
 f91L0 cw Q a0 0 H
end AM
end Go.Proofs.YtemcmblcogljkaaGreatDoor

