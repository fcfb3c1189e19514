/- What is made of numbers: bytes and packets. What is made of numbers: packets and traffic. -/
import Derived.Test.YtemcmblcogljkaaGreatDoorCm
set_option linter.all false
set_option linter.unusedSimpArgs false
set_option linter.unusedVariables false
namespace Go.Proofs.YtemcmblcogljkaaGreatDoor
namespace AM
open Go
section
variable {pm : Prims} {H0 G : AH} {dh : Nat} {L : List It} {Q : Value → AH → Prop}
def isB (v : Value) : Prop := ∃ u : UInt8, v = .int .u8 (u.toNat : Int)
theorem isB_of {x : Int} (h : 0 ≤ x) (h' : x ≤ 255) : isB (.int .u8 x) := ⟨UInt8.ofNat x.toNat, by
 rw [UInt8.toNat_ofNat', Nat.mod_eq_of_lt (by omega), Int.toNat_of_nonneg h]⟩
theorem wrap8 (x : Int) : 0 ≤ IntKind.wrap .u8 x ∧ IntKind.wrap .u8 x ≤ 255 := by
 have e : IntKind.wrap .u8 x = x % 256 := by
  show (if (false && decide (x % 256 ≥ 128)) = true then x % 256 - 256 else x % 256) = x % 256
  simp
 rw [e]; omega
theorem isB_wrap (x : Int) : isB (.int .u8 (IntKind.wrap .u8 x)) := isB_of (wrap8 x).1 (wrap8 x).2
theorem isB.one {v : Value} (h : isB v) : oneCell v = true := by obtain ⟨u, rfl⟩ := h; rfl
theorem isB_all : ∀ {cs : List Value}, (∀ v ∈ cs, isB v) → ∃ w : List UInt8, cs = byteVals w
 | [], _ => ⟨[], rfl⟩
 | c :: cs, h => by
  obtain ⟨w, rfl⟩ := isB_all (cs := cs) fun v hv => h v (by simp [hv])
  obtain ⟨u, rfl⟩ := h c (by simp)
  exact ⟨u :: w, rfl⟩
theorem isB_app {a b : List Value} (h : ∀ v ∈ a, isB v) (h' : ∀ v ∈ b, isB v) : ∀ v ∈ a ++ b, isB v := fun v hv => by
 rcases List.mem_append.1 hv with hv | hv
 ·exact h v hv
 ·exact h' v hv
theorem c101 (hp : Only pm) {a m : Int} {K : Value → AH → Prop} (h : 0 ≤ a ∧ a ≤ m) (hK : K (.bool true) G) : OK pm 101 ⟨[I a, I m]⟩ G K := by
 apply f101_ok hp
 simp only [f101R, join2]
 rw [decide_eq_true (by omega), ifB_true, decide_eq_true h.2]
 exact hK
theorem e101 (hp : Only pm) {a m : Int} (h0 : 0 ≤ a) (h : a ≤ m) (H : AH) (K : Value → AH → Prop) : OK pm 101 ⟨[I a, I m]⟩ H K = K (.bool true) H := OK.eq (c101 hp ⟨h0, h⟩ ⟨rfl, rfl⟩) K
structure HOk (k id seq time src ty fp : Int) : Prop where
 hid : 0 ≤ id ∧ id ≤ 65535
 hseq : 0 ≤ seq ∧ seq ≤ 65535
 htime : 0 ≤ time ∧ time ≤ 4294967295
 hfp : 0 ≤ fp ∧ fp ≤ 65535
 hsrc : 0 ≤ src ∧ src ≤ 4294967295
 hty : 0 ≤ ty ∧ ty ≤ 127
 hk : (k = 1 ∧ seq = 0 ∧ time = 0 ∧ src = 0 ∧ ty = 0) ∨ k = 2
def hvals (k id seq time src ty fp : Int) : List Value := [I k, I 0, I id, I 0, I 64, I 167772161, I 167772162, I fp, I 2000, I 0, I 0, I ty, I seq, I time, I src]
theorem c70 (hp : Only pm) {k id seq time src ty fp : Int} (h : HOk k id seq time src ty fp) (s : SD H0 dh G L) (hQ : ∀ G', SD H0 dh G' L → Q (.bool true) G') : OK pm 70 ⟨[.agg ⟨hvals k id seq time src ty fp⟩]⟩ G Q := by
 obtain ⟨⟨a1, a2⟩, ⟨b1, b2⟩, ⟨c1, c2⟩, ⟨d1, d2⟩, ⟨e1, e2⟩, ⟨f1, f2⟩, hk⟩ := h
 unfold hvals
 apply f70_ok hp
 have s1 := s.new 0 (hvals k id seq time src ty fp)
 unfold hvals at s1
 simp only [f70R, letH_eq, join2, s1.load 0 rfl, Nat.zero_add, List.getElem?_cons_succ, List.getElem?_cons_zero, obI_some]
 have hfin := hQ _ (s1.erase 0)
 have z0 : (0 : Int) ≤ 0 := by omega
 have z1 : (0 : Int) ≤ 255 := by omega
 have z2 : (64 : Int) ≤ 255 := by omega
 have z3 : (0 : Int) ≤ 64 := by omega
 have z4 : (0 : Int) ≤ 2000 := by omega
 have z5 : (2000 : Int) ≤ 65535 := by omega
 have z6 : (0 : Int) ≤ 65535 := by omega
 have z7 : (0 : Int) ≤ 1 := by omega
 have z8 : (0 : Int) ≤ 167772161 := by omega
 have z9 : (167772161 : Int) ≤ 4294967295 := by omega
 have z10 : (0 : Int) ≤ 167772162 := by omega
 have z11 : (167772162 : Int) ≤ 4294967295 := by omega
 rcases hk with ⟨rfl, rfl, rfl, rfl, rfl⟩ | rfl
 ·simp only [s1.load 0 rfl, List.getElem?_cons_succ, List.getElem?_cons_zero, obI_some, bne_self_eq_false, ifB_false, e101 hp z0 z1, e101 hp z3 z2, e101 hp a1 a2, e101 hp d1 d2, e101 hp z4 z5, e101 hp z0 z6, e101 hp z0 z7, e101 hp z8 z9, e101 hp z10 z11, obB_some, Bool.not_true, beq_self_eq_true, ifB_true]
  exact hfin
 ·rw [show ((2 : Int) != 1) = true from rfl, show ((2 : Int) != 2) = false from rfl]
  simp only [ifB_true, ifB_false, e101 hp z0 z1, e101 hp z3 z2, e101 hp a1 a2, e101 hp d1 d2, e101 hp z4 z5, e101 hp z0 z6, e101 hp z0 z7, e101 hp z8 z9, e101 hp z10 z11, obB_some, Bool.not_true, s1.load 0 rfl, List.getElem?_cons_succ, List.getElem?_cons_zero, obI_some]
  rw [show ((2 : Int) == 1) = false from rfl]
  simp only [s1.load 0 rfl, List.getElem?_cons_succ, List.getElem?_cons_zero, obI_some, ifB_true, ifB_false, e101 hp z0 z7, e101 hp f1 f2, e101 hp b1 b2, e101 hp c1 c2, e101 hp e1 e2, obB_some]
  exact hfin
theorem shr_some {x y : Int} (hy : 0 ≤ y) : ∃ z, aShift .shr .i64 x y = some (I z) := by
 unfold aShift
 rw [decide_eq_false (by omega)]
 exact ⟨_, rfl⟩
theorem wrap_u64 {x : Int} (h : 0 ≤ x) (h' : x ≤ 9223372036854775807) : IntKind.wrap .u64 x = x := by
 show (if (false && decide (x % 18446744073709551616 ≥ 9223372036854775808)) = true then x % 18446744073709551616 - 18446744073709551616 else x % 18446744073709551616) = x
 simp; omega
theorem c102 (hp : Only pm) {b : Option Addr} {n k : Nat} {cs : List Value} {v kI : Int} (hkI : kI = (k : Int)) (hk : 1 ≤ k ∧ k ≤ 4) (hn : n ≤ 1000) (s : SD H0 dh G (.sl 1 b n n cs :: L)) (hB : ∀ v ∈ cs, isB v)
  (hQ : ∀ b' cs' G', SD H0 dh G' (.sl 1 b' (n + k) (n + k) cs' :: L) → (∀ v ∈ cs', isB v) → Q (.slice b' (n + k) (n + k)) G') : OK pm 102 ⟨[.slice b n n, I kI, I v]⟩ G Q := by
 subst hkI
 apply f102_ok hp
 simp only [f102R]
 have key : ∀ (d : Nat) (b : Option Addr) (m : Nat) cs G, d ≤ 4 → m + d = n + k → SD H0 dh G (.sl 1 b m m cs :: L) → (∀ v ∈ cs, isB v) → f102L0 (OK pm) Q b m m v ((d : Int) - 1) G := by
  intro d
  induction d with
  | zero =>
   intro b m cs G h4 hm s hB
   apply f102L0_step
   simp only [f102B0]
   rw [decide_eq_false (by omega), ifB_false, show m = n + k by omega]
   rw [show m = n + k by omega] at s
   exact hQ b cs G s hB
  | succ d ih =>
   intro b m cs G h4 hm s hB
   apply f102L0_step
   simp only [f102B0]
   rw [decide_eq_true (by omega), ifB_true, wrap_of (show -9223372036854775808 ≤ 8 * (((d + 1 : Nat) : Int) - 1) by omega) (by omega), wrap_u64 (by omega) (by omega)]
   obtain ⟨z, hz⟩ := shr_some (x := v) (y := 8 * (((d + 1 : Nat) : Int) - 1)) (by omega)
   rw [hz, obI_some]
   refine s.recK 0 rfl (by omega) rfl (by simp [oneCell]) (by omega) (by omega) fun b' G' s' => ?_
   rw [wrap_of (by omega) (by omega), show ((d + 1 : Nat) : Int) - 1 - 1 = (d : Int) - 1 by omega]
   exact ih b' (m + 1) _ G' (by omega) (by omega) s' (isB_app hB (by simp only [List.mem_singleton, forall_eq]; exact isB_wrap z))
 rw [wrap_of (by omega) (by omega)]
 exact key k b n cs G hk.2 rfl s hB
theorem SD.newB (s : SD H0 dh G L) {n : Nat} (k : Nat) {cs : List Value} (hn : cs.length = n) : SD H0 dh (G.new 1 cs) (.sl 1 (some ⟨G.next, 0, none⟩) n k cs :: L) := s.newSl 1 n k (by omega)
theorem c71 (hp : Only pm) {k id seq time src ty fp : Int} (h : HOk k id seq time src ty fp) (s : SD H0 dh G L)
  (hQ : ∀ b n cs G', SD H0 dh G' (.sl 1 b n n cs :: L) → (∀ v ∈ cs, isB v) → 28 ≤ n → n ≤ 40 → Q (.slice b n n) G') : OK pm 71 ⟨[.agg ⟨hvals k id seq time src ty fp⟩]⟩ G Q := by
 have s1 := s.new 0 (hvals k id seq time src ty fp)
 unfold hvals at s1 ⊢
 apply f71_ok hp
 simp only [f71R, letH_eq, s1.load 0 rfl, Nat.zero_add, List.getElem?_cons_succ, List.getElem?_cons_zero, obI_some]
 refine c70 hp h s1 fun G2 s2 => ?_
 rw [obB_some, Bool.not_true, ifB_false]
 simp only [s2.load 0 rfl, List.getElem?_cons_succ, List.getElem?_cons_zero, obI_some]
 have s3 := s2.newB (n := 4) 4 (cs := [.int .u8 69, .int .u8 (IntKind.wrap .u8 0), .int .u8 0, .int .u8 0]) rfl
 simp only [s3.load 1 rfl, List.getElem?_cons_succ, List.getElem?_cons_zero, obI_some]
 refine c102 hp (k := 2) rfl (by omega) (by omega) s3 (by (intro v hv; simp only [List.mem_cons, List.not_mem_nil, or_false] at hv; rcases hv with rfl | rfl | rfl | rfl <;> first | exact isB_wrap _ | (refine isB_of ?_ ?_ <;> omega))) fun b4 cs4 G4 s4 hB4 => ?_
 rw [obL_some]
 simp only [s4.load 1 rfl, List.getElem?_cons_succ, List.getElem?_cons_zero, obI_some]
 have s5 := s4.newB (n := 6) 6 (cs := [.int .u8 (IntKind.wrap .u8 (IntKind.wrap .i64 (64 * 0))), .int .u8 0, .int .u8 (IntKind.wrap .u8 64), .int .u8 17, .int .u8 0, .int .u8 0]) rfl
 have hB5 : ∀ v ∈ [Value.int .u8 (IntKind.wrap .u8 (IntKind.wrap .i64 (64 * 0))), .int .u8 0, .int .u8 (IntKind.wrap .u8 64), .int .u8 17, .int .u8 0, .int .u8 0], isB v := by (intro v hv; simp only [List.mem_cons, List.not_mem_nil, or_false] at hv; rcases hv with rfl | rfl | rfl | rfl | rfl | rfl <;> first | exact isB_wrap _ | (refine isB_of ?_ ?_ <;> omega))
 refine s5.catK 1 rfl (by omega) 0 rfl (fun v hv => (hB5 v hv).one) (by omega) (by omega) fun b6 G6 s6 => ?_
 have s6 := s6.erase 0
 have hB6 := isB_app hB4 hB5
 simp only [List.set_cons_succ, List.set_cons_zero, List.eraseIdx_cons_zero] at s6
 simp only [s6.load 1 rfl, List.getElem?_cons_succ, List.getElem?_cons_zero, obI_some]
 refine c102 hp (k := 4) rfl (by omega) (by omega) s6 hB6 fun b7 cs7 G7 s7 hB7 => ?_
 rw [obL_some]
 simp only [s7.load 1 rfl, List.getElem?_cons_succ, List.getElem?_cons_zero, obI_some]
 refine c102 hp (k := 4) rfl (by omega) (by omega) s7 hB7 fun b8 cs8 G8 s8 hB8 => ?_
 rw [obL_some, obE1_int]
 simp only [s8.load 1 rfl, List.getElem?_cons_succ, List.getElem?_cons_zero, obI_some]
 refine c102 hp (k := 2) rfl (by omega) (by omega) s8 hB8 fun b9 cs9 G9 s9 hB9 => ?_
 rw [obL_some]
 simp only [s9.load 1 rfl, List.getElem?_cons_succ, List.getElem?_cons_zero, obI_some]
 refine c102 hp (k := 2) rfl (by omega) (by omega) s9 hB9 fun b10 cs10 G10 s10 hB10 => ?_
 rw [obL_some, obE1_int]
 have s11 := s10.newB (n := 2) 2 (cs := [.int .u8 0, .int .u8 0]) rfl
 have hB11 : ∀ v ∈ [Value.int .u8 0, .int .u8 0], isB v := by (intro v hv; simp only [List.mem_cons, List.not_mem_nil, or_false] at hv; rcases hv with rfl | rfl <;> first | exact isB_wrap _ | (refine isB_of ?_ ?_ <;> omega))
 simp only [s11.load 2 rfl, List.getElem?_cons_succ, List.getElem?_cons_zero, obI_some]
 refine s11.catK 1 rfl (by omega) 0 rfl (fun v hv => (hB11 v hv).one) (by omega) (by omega) fun b12 G12 s12 => ?_
 have s12 := s12.erase 0
 have hB12 := isB_app hB10 hB11
 simp only [List.set_cons_succ, List.set_cons_zero, List.eraseIdx_cons_zero] at s12
 refine c102 hp (k := 2) rfl (by omega) (by omega) s12 hB12 fun b13 cs13 G13 s13 hB13 => ?_
 rw [obL_some]
 simp only [s12.load 1 rfl, s13.load 1 rfl, List.getElem?_cons_succ, List.getElem?_cons_zero, obI_some]
 rw [obE1_int, obE1_int]
 refine ifB_intro (fun h => ?_) (fun h => ?_)
 ·have s14 := s13.newB (n := 2) 2 (cs := [.int .u8 128, .int .u8 (IntKind.wrap .u8 (IntKind.wrap .i64 (IntKind.wrap .i64 (128 * 0) + ty)))]) rfl
  have hB14 : ∀ v ∈ [Value.int .u8 128, .int .u8 (IntKind.wrap .u8 (IntKind.wrap .i64 (IntKind.wrap .i64 (128 * 0) + ty)))], isB v := by (intro v hv; simp only [List.mem_cons, List.not_mem_nil, or_false] at hv; rcases hv with rfl | rfl <;> first | exact isB_wrap _ | (refine isB_of ?_ ?_ <;> omega))
  refine s14.catK 1 rfl (by omega) 0 rfl (fun v hv => (hB14 v hv).one) (by omega) (by omega) fun b15 G15 s15 => ?_
  have s15 := s15.erase 0
  have hB15 := isB_app hB13 hB14
  simp only [List.set_cons_succ, List.set_cons_zero, List.eraseIdx_cons_zero] at s15
  simp only [s15.load 1 rfl, List.getElem?_cons_succ, List.getElem?_cons_zero, obI_some]
  refine c102 hp (k := 2) rfl (by omega) (by omega) s15 hB15 fun b16 cs16 G16 s16 hB16 => ?_
  rw [obL_some]
  simp only [s16.load 1 rfl, List.getElem?_cons_succ, List.getElem?_cons_zero, obI_some]
  refine c102 hp (k := 4) rfl (by omega) (by omega) s16 hB16 fun b17 cs17 G17 s17 hB17 => ?_
  rw [obL_some]
  simp only [s17.load 1 rfl, List.getElem?_cons_succ, List.getElem?_cons_zero, obI_some]
  refine c102 hp (k := 4) rfl (by omega) (by omega) s17 hB17 fun b18 cs18 G18 s18 hB18 => ?_
  rw [obL_some, obE1_int, obE1_int, obE1_int]
  exact hQ _ _ _ _ (s18.erase 1) hB18 (by omega) (by omega)
 ·exact hQ _ _ _ _ (s13.erase 1) hB13 (by omega) (by omega)
theorem c72 (hp : Only pm) {hh o n k : Nat} {cs : List Value} {at' x : Int} (hat : 0 ≤ at' ∧ at' + 1 < n) (hn : n ≤ 1000) (s : SD H0 dh G (.sl 1 (some ⟨hh, o, none⟩) n k cs :: L)) (hB : ∀ v ∈ cs, isB v)
  (hQ : ∀ v cs' G', SD H0 dh G' (.sl 1 (some ⟨hh, o, none⟩) n k cs' :: L) → (∀ v ∈ cs', isB v) → Q v G') : OK pm 72 ⟨[.slice (some ⟨hh, o, none⟩) n k, I at', I x]⟩ G Q := by
 apply f72_ok hp
 have hlen := ((s.item (x := .sl 1 (some ⟨hh, o, none⟩) n k cs) (by simp)).1).len
 rw [Nat.mul_one] at hlen
 have e1 : aInt .quo .i64 x 256 = some (I (IntKind.wrap .i64 (x.tdiv 256))) := rfl
 have e2 : aInt .rem .i64 x 256 = some (I (x.tmod 256)) := rfl
 simp only [f72R, e1, e2, obI_some]
 rw [elemS_eq hat.1 (by omega), obA_some]
 have hset : ∀ {cs : List Value} (j : Nat) (y : Int), (∀ v ∈ cs, isB v) → ∀ v ∈ cs.set j (.int .u8 (IntKind.wrap .u8 y)), isB v := fun j y h v hv => by
  rcases List.mem_or_eq_of_mem_set hv with hv | hv
  ·exact h v hv
  ·subst hv; exact isB_wrap y
 obtain ⟨G1, a1, s1⟩ := s.sstore 0 rfl (j := at'.toNat) (v := .int .u8 (IntKind.wrap .u8 (IntKind.wrap .i64 (x.tdiv 256)))) (by omega) rfl
 rw [Nat.mul_one, a1, obH_some, wrap_of (by omega) (by omega), elemS_eq (by omega) (by omega), obA_some]
 simp only [List.set_cons_zero] at s1
 obtain ⟨G2, a2, s2⟩ := s1.sstore 0 rfl (j := (at' + 1).toNat) (v := .int .u8 (IntKind.wrap .u8 (x.tmod 256))) (by rw [List.length_set]; omega) rfl
 rw [Nat.mul_one, a2, obH_some]
 exact hQ _ _ G2 s2 (hset _ _ (hset _ _ hB))
theorem c125 (hp : Only pm) {x : Int} (h : 0 ≤ x ∧ x ≤ 1000000000000) (hQ : ∀ y, 0 ≤ y → y ≤ 65535 → Q (I y) G) : OK pm 125 ⟨[I x]⟩ G Q := by
 apply f125_ok hp
 simp only [f125R]
 rw [decide_eq_false (by omega), ifB_false]
 have key : ∀ (m : Nat) (x : Int), x.toNat ≤ m → 0 ≤ x → x ≤ 1000000000000 → f125L0 (OK pm) Q x G := by
  intro m
  induction m with
  | zero =>
   intro x hm h0 h1
   apply f125L0_step
   simp only [f125B0]
   rw [decide_eq_false (by omega), ifB_false]
   exact hQ x h0 (by omega)
  | succ m ih =>
   intro x hm h0 h1
   apply f125L0_step
   simp only [f125B0]
   refine ifB_intro (fun h => ?_) (fun h => ?_)
   ·have h : x > 65535 := of_decide_eq_true h
    have e1 : aInt .rem .i64 x 65536 = some (I (x % 65536)) := by
     show some (Value.int .i64 (x.tmod 65536)) = _
     rw [Int.tmod_eq_emod_of_nonneg h0]
    have e2 : aInt .quo .i64 x 65536 = some (I (x / 65536)) := by
     show some (Value.int .i64 (IntKind.wrap .i64 (x.tdiv 65536))) = _
     rw [Int.tdiv_eq_ediv_of_nonneg h0, wrap_of (by omega) (by omega)]
    rw [e1, obI_some, e2, obI_some, wrap_of (by omega) (by omega)]
    exact ih (x % 65536 + x / 65536) (by omega) (by omega) (by omega)
   ·have h : ¬ x > 65535 := of_decide_eq_false h
    exact hQ x h0 (by omega)
 exact key x.toNat x (Nat.le_refl _) h.1 h.2
theorem c103 (hp : Only pm) {hh o n k : Nat} {a : Int} (ha : 0 ≤ a ∧ a ≤ 65535) (hn : n ≤ 1000) (hr : ∀ j, j < n → ∃ u : UInt8, G.load hh (o + j) = some (.int .u8 (u.toNat : Int))) (hQ : ∀ y, 0 ≤ y → y ≤ 65535 → Q (I y) G) : OK pm 103 ⟨[I a, .slice (some ⟨hh, o, none⟩) n k]⟩ G Q := by
 apply f103_ok hp
 simp only [f103R]
 refine c125 hp ⟨ha.1, by omega⟩ fun y y0 y1 => ?_
 rw [obI_some]
 have key : ∀ (d : Nat) (i : Nat) (x : Int), i + d ≥ n → i ≤ n + 1 → 0 ≤ x → x ≤ 65535 → f103L0 (OK pm) Q (some ⟨hh, o, none⟩) n k x (i : Int) G := by
  intro d
  induction d with
  | zero =>
   intro i x hi hi2 h0 h1
   apply f103L0_step
   simp only [f103B0]
   rw [decide_eq_false (by omega), ifB_false]
   exact hQ x h0 h1
  | succ d ih =>
   intro i x hi hi2 h0 h1
   apply f103L0_step
   simp only [f103B0]
   refine ifB_intro (fun h => ?_) (fun h => ?_)
   ·have h : (i : Int) < (n : Int) := of_decide_eq_true h
    obtain ⟨u, hu⟩ := hr i (by omega)
    have hul := u.toNat_lt
    rw [elemS_eq (by omega) h, obA_some, Int.toNat_natCast, Nat.mul_one, hu, obI_some]
    rw [wrap_of (show -9223372036854775808 ≤ (i : Int) + 1 by omega) (by omega), wrap_of (show -9223372036854775808 ≤ (u.toNat : Int) by omega) (by omega)]
    refine ifB_intro (fun h2 => ?_) (fun h2 => ?_)
    ·have h2 : (i : Int) + 1 < (n : Int) := of_decide_eq_true h2
     obtain ⟨w, hw⟩ := hr (i + 1) (by omega)
     have hwl := w.toNat_lt
     rw [elemS_eq (by omega) h2, obA_some, show ((i : Int) + 1).toNat = i + 1 by omega, Nat.mul_one, hw, obI_some]
     rw [wrap_of (show -9223372036854775808 ≤ (w.toNat : Int) by omega) (by omega), wrap_of (show -9223372036854775808 ≤ 256 * (u.toNat : Int) by omega) (by omega), wrap_of (show -9223372036854775808 ≤ 256 * (u.toNat : Int) + (w.toNat : Int) by omega) (by omega), wrap_of (show -9223372036854775808 ≤ x + (256 * (u.toNat : Int) + (w.toNat : Int)) by omega) (by omega)]
     refine c125 hp (by omega) fun y y0 y1 => ?_
     rw [obI_some, f103J0_eq]
     simp only [f103K0]
     rw [wrap_of (by omega) (by omega), show (i : Int) + 2 = ((i + 2 : Nat) : Int) by omega]
     exact ih (i + 2) y (by omega) (by omega) y0 y1
    ·have h2 : ¬ (i : Int) + 1 < (n : Int) := of_decide_eq_false h2
     rw [wrap_of (show -9223372036854775808 ≤ 256 * (u.toNat : Int) by omega) (by omega), wrap_of (show -9223372036854775808 ≤ x + 256 * (u.toNat : Int) by omega) (by omega)]
     refine c125 hp (by omega) fun y y0 y1 => ?_
     rw [obI_some, f103J0_eq]
     simp only [f103K0]
     rw [wrap_of (by omega) (by omega), show (i : Int) + 2 = ((i + 2 : Nat) : Int) by omega]
     exact ih (i + 2) y (by omega) (by omega) y0 y1
   ·exact hQ x h0 h1
 exact key n 0 y (by omega) (by omega) y0 y1
theorem c73 (hp : Only pm) {hh o n k : Nat} (hn : n ≤ 1000) (hr : ∀ j, j < n → ∃ u : UInt8, G.load hh (o + j) = some (.int .u8 (u.toNat : Int))) (hQ : ∀ y, 0 ≤ y → y ≤ 65535 → Q (I y) G) : OK pm 73 ⟨[.slice (some ⟨hh, o, none⟩) n k]⟩ G Q := by
 apply f73_ok hp
 simp only [f73R]
 refine c103 hp (by omega) hn hr fun y y0 y1 => ?_
 rw [obI_some, wrap_of (by omega) (by omega)]
 exact hQ _ (by omega) (by omega)
theorem SD.addr (s : SD H0 dh G L) {sz n k : Nat} {b : Option Addr} {cs : List Value} (i : Nat) (hi : L[i]? = some (.sl sz b n k cs)) (hn : 0 < n) : ∃ h o, b = Option.some ⟨h, o, none⟩ := by
 obtain ⟨h1, _, _⟩ := s.item (List.mem_of_getElem? hi)
 cases h1 with
 | nil => omega
 | row => exact ⟨_, _, rfl⟩
theorem cutAt_some {d m : Nat} {x : Nat} (h : x ≤ m) (k : IntKind) : cutAtV d m (Option.some (.int k (x : Int))) = Option.some x := by
 show (match decide (0 ≤ (x : Int)) && decide ((x : Int) ≤ (m : Int)) with | true => Option.some ((x : Int).toNat) | false => none) = _
 rw [decide_eq_true (by omega), decide_eq_true (by omega)]
 simp
theorem Sli.upto {h o n k : Nat} {cs : List Value} (hs : Sli G 1 (Option.some ⟨h, o, none⟩) n k cs) {m : Nat} (hm : m ≤ k) : sliceV 1 G (.slice (Option.some ⟨h, o, none⟩) n k) none (Option.some (.int .i64 (m : Int))) = Option.some (.slice (Option.some ⟨h, o, none⟩) m k) := by
 cases hs with
 | row hr hsz _ _ _ _ _ _ =>
  simp only [sliceV, cutAt_some hm, hr, hsz]
  rfl
theorem c48 (hp : Only pm) {k id seq time src ty fp : Int} {pb : Option Addr} {pn pk : Nat} {pcs : List Value} (h : HOk k id seq time src ty fp) (j : Nat) (s : SD H0 dh G L) (hj : L[j]? = Option.some (.sl 1 pb pn pk pcs)) (hpB : ∀ v ∈ pcs, isB v) (hpn : pn ≤ 40)
  (hQ : ∀ b n cs G', SD H0 dh G' (.sl 1 b n n cs :: L) → (∀ v ∈ cs, isB v) → 1 ≤ n → n ≤ 80 → Q (.tuple ⟨[.slice b n n, I 0]⟩) G') : OK pm 48 ⟨[.agg ⟨hvals k id seq time src ty fp⟩, .slice pb pn pk]⟩ G Q := by
 have s1 := s.new 0 (hvals k id seq time src ty fp)
 unfold hvals at s1 ⊢
 apply f48_ok hp
 simp only [f48R, letH_eq, s1.load 0 rfl, Nat.zero_add, List.getElem?_cons_succ, List.getElem?_cons_zero, obI_some]
 refine c70 hp h s1 fun G2 s2 => ?_
 rw [obB_some, Bool.not_true, ifB_false]
 simp only [s2.load 0 rfl, List.getElem?_cons_succ, List.getElem?_cons_zero, obI_some]
 refine c71 hp h s2 fun b3 n3 cs3 G3 s3 hB3 h28 h40 => ?_
 rw [obL_some]
 refine s3.catK 0 rfl (by omega) (j + 2) (by simpa using hj) (fun v hv => (hpB v hv).one) (by omega) (by omega) fun b4 G4 s4 => ?_
 have hB4 := isB_app hB3 hpB
 simp only [List.set_cons_zero] at s4
 rw [decide_eq_false (by omega), ifB_false]
 obtain ⟨ah, ao, hb⟩ := s4.addr 0 rfl (by omega)
 subst hb
 refine c72 hp (by omega) (by omega) s4 hB4 fun v5 cs5 G5 s5 hB5 => ?_
 refine c72 hp (by omega) (by omega) s5 hB5 fun v6 cs6 G6 s6 hB6 => ?_
 have hs6 := (s6.item (x := .sl 1 (Option.some ⟨ah, ao, none⟩) (n3 + pn) (n3 + pn) cs6) (by simp)).1
 have e20 := hs6.upto (m := 20) (by omega)
 rw [show (((20 : Nat) : Int)) = 20 from rfl] at e20
 rw [e20, obL_some]
 refine c73 hp (by omega) (fun j hj => ?_) fun y y0 y1 => ?_
 ·have hlen := hs6.len
  rw [Nat.mul_one] at hlen
  cases hs6 with
  | row hr hsz hf ho hlo hhi hn hc =>
   rw [hc j (by omega), List.getElem?_eq_getElem (by omega)]
   obtain ⟨u, hu⟩ := hB6 _ (List.getElem_mem (show j < cs6.length by omega))
   exact ⟨u, by rw [hu]⟩
 ·rw [obI_some]
  refine c72 hp (by omega) (by omega) s6 hB6 fun v7 cs7 G7 s7 hB7 => ?_
  exact hQ _ _ cs7 G7 (s7.erase 1) hB7 (by omega) (by omega)
theorem make_b (G : AH) {k : Nat} (hk : k ≤ 1000) : makeV 1 1 [.int .u8 0] G (I (k : Int)) (I (k : Int)) = Option.some (.slice (Option.some ⟨G.next, 0, none⟩) k k, G.new 1 (List.replicate k (.int .u8 0))) := by
 unfold makeV
 simp only [decide_eq_true (show (0 : Int) ≤ k by omega), decide_eq_true (show (k : Int) ≤ k by omega), Int.toNat_natCast, ble_of (show k * 1 ≤ 140737488355328 by omega), ble_of (show k ≤ 4611686018427387904 by omega), Bool.and_self]
 congr 3
 induction k with
 | zero => rfl
 | succ k ih => rw [List.replicate_succ, List.flatten_cons, ih (by omega), List.replicate_succ]; rfl
theorem c47 (hp : Only pm) {k : Int} (hk : 1 ≤ k ∧ k ≤ 40) (s : SD H0 dh G L)
  (hQ : ∀ b cs G', SD H0 dh G' (.sl 1 b k.toNat k.toNat cs :: L) → (∀ v ∈ cs, isB v) → Q (.slice b k.toNat k.toNat) G') : OK pm 47 ⟨[.pointer (Option.some ⟨dh, 0, none⟩), I k]⟩ G Q := by
 apply f47_ok hp
 simp only [f47R]
 have hkn : k = (k.toNat : Int) := by omega
 generalize k.toNat = m at *
 subst hkn
 rw [make_b G (by omega), obG_some]
 have s1 := s.newB (n := m) m (cs := List.replicate m (.int .u8 0)) (by simp)
 refine c11K hp (by omega) (by omega) s1 fun x G2 s2 _ _ => ?_
 have key : ∀ (d i : Nat) cs G', i + d = m → SD H0 dh G' (.sl 1 (Option.some ⟨G.next, 0, none⟩) m m cs :: L) → (∀ v ∈ cs, isB v) → f47L0 (OK pm) Q (m : Int) (Option.some ⟨G.next, 0, none⟩) m m x (i : Int) G' := by
  intro d
  induction d with
  | zero =>
   intro i cs G' hi s hB
   apply f47L0_step
   simp only [f47B0]
   rw [decide_eq_false (by omega), ifB_false]
   exact hQ _ cs G' s hB
  | succ d ih =>
   intro i cs G' hi s hB
   apply f47L0_step
   simp only [f47B0]
   rw [decide_eq_true (by omega), ifB_true, elemS_eq (by omega) (by omega), obA_some, Int.toNat_natCast, Nat.mul_one]
   have hlen := ((s.item (x := .sl 1 (Option.some ⟨G.next, 0, none⟩) m m cs) (by simp)).1).len
   rw [Nat.mul_one] at hlen
   obtain ⟨G3, a1, s3⟩ := s.sstore 0 rfl (j := i) (v := .int .u8 (IntKind.wrap .u8 (IntKind.wrap .i64 (x + IntKind.wrap .i64 ((i : Int) * IntKind.wrap .i64 (x + 7)))))) (by omega) rfl
   rw [a1, obH_some, wrap_of (show -9223372036854775808 ≤ (i : Int) + 1 by omega) (by omega), show (i : Int) + 1 = ((i + 1 : Nat) : Int) by omega]
   refine ih (i + 1) _ G3 (by omega) s3 fun v hv => ?_
   rcases List.mem_or_eq_of_mem_set hv with hv | hv
   ·exact hB v hv
   ·subst hv; exact isB_wrap _
 exact key m 0 _ G2 (by omega) s2 fun v hv => by rw [List.eq_of_mem_replicate hv]; exact ⟨0, rfl⟩
end
end AM
end Go.Proofs.YtemcmblcogljkaaGreatDoor

namespace Go.Proofs.YtemcmblcogljkaaGreatDoor
namespace AM
open Go
section
variable {pm : Prims} {H0 G : AH} {dh : Nat} {L : List It} {Q : Value → AH → Prop}
theorem rem16 {x : Int} (h : 0 ≤ x) : aInt .rem .i64 x 65536 = some (I (x % 65536)) := by
 show some (Value.int .i64 (x.tmod 65536)) = _
 rw [Int.tmod_eq_emod_of_nonneg h]
theorem j24 (hp : Only pm) {k id seq time src ty fp i : Int} {hh : Nat} (h : HOk k id seq time src ty fp) (s : SD H0 dh G (.row hh (hvals k id seq time src ty fp) :: L))
  (hQ : ∀ b n cs G', SD H0 dh G' (.sl 1 b n n cs :: L) → (∀ v ∈ cs, isB v) → 1 ≤ n → n ≤ 80 → Q (.slice b n n) G') : f24K0 (OK pm) Q dh 0 i hh G := by
 unfold hvals at s
 simp only [f24K0, Nat.zero_add, s.load 0 rfl, List.getElem?_cons_succ, List.getElem?_cons_zero, obI_some]
 refine c11K hp (by omega) (by omega) s fun x G1 s1 _ _ => ?_
 rw [wrap_of (by omega) (by omega)]
 refine c47 hp (by omega) s1 fun b cs G2 s2 hB => ?_
 rw [obL_some]
 refine c48 hp h 0 s2 rfl hB (by omega) fun b3 n3 cs3 G3 s3 hB3 h1 h80 => ?_
 simp only [tupV_eq, List.getElem?_cons_zero, List.getElem?_cons_succ, obL_some, obI_some, s2.load 1 rfl, s1.load 0 rfl, obE1_int]
 rw [show ((0 : Int) != 0) = false from rfl, ifB_false]
 exact hQ _ _ _ _ ((s3.erase 1).erase 1) hB3 h1 h80
theorem c24 (hp : Only pm) {i : Int} (hi : 0 ≤ i ∧ i ≤ 100) (s : SD H0 dh G L)
  (hQ : ∀ b n cs G', SD H0 dh G' (.sl 1 b n n cs :: L) → (∀ v ∈ cs, isB v) → 1 ≤ n → n ≤ 80 → Q (.slice b n n) G') : OK pm 24 ⟨[.pointer (some ⟨dh, 0, none⟩), I i]⟩ G Q := by
 apply f24_ok hp
 simp only [f24R]
 rw [wrap_of (show -9223372036854775808 ≤ 100 + i by omega) (by omega), rem16 (by omega), obI_some, letH_eq]
 refine (s.new 0 _).storeK 0 rfl (by simp) (by simp [oneCell]) fun G1 s1 => ?_
 simp only [Nat.zero_add, sS, sZ, sN, List.set_cons_zero, List.set_cons_succ] at s1
 refine c11K hp (by omega) (by omega) s1 fun x G2 s2 _ _ => ?_
 refine ifB_intro (fun h => ?_) (fun h => ?_)
 ·rw [letH_eq]
  have s3 := s2.newB (n := 1) 1 (cs := [.int .u8 (IntKind.wrap .u8 i)]) rfl
  refine c11K hp (by omega) (by omega) s3 fun x4 G4 s4 _ _ => ?_
  rw [wrap_of (show -9223372036854775808 ≤ 1 + x4 by omega) (by omega)]
  refine c47 hp (by omega) s4 fun b5 cs5 G5 s5 hB5 => ?_
  rw [obL_some]
  refine s5.catK 1 rfl (by omega) 0 rfl (fun v hv => (hB5 v hv).one) (by omega) (by omega) fun b6 G6 s6 => ?_
  exact hQ _ _ _ _ ((s6.erase 0).erase 1) (isB_app (by simp only [List.mem_singleton, forall_eq]; exact isB_wrap i) hB5) (by omega) (by omega)
 ·refine ifB_intro (fun h => ?_) (fun h => ?_)
  ·rw [wrap_of (show -9223372036854775808 ≤ 500 + i by omega) (by omega), rem16 (by omega), obI_some, wrap_of (show -9223372036854775808 ≤ 160 * i by omega) (by omega)]
   refine s2.storeK 0 rfl (by simp) (by simp [oneCell]) fun G3 s3 => ?_
   simp only [Nat.zero_add, sS, sZ, sN, List.set_cons_zero, List.set_cons_succ] at s3
   refine s3.storeK 0 rfl (by simp) (by simp [oneCell]) fun G4 s4 => ?_
   simp only [Nat.zero_add, sS, sZ, sN, List.set_cons_zero, List.set_cons_succ] at s4
   refine s4.storeK 0 rfl (by simp) (by simp [oneCell]) fun G5 s5 => ?_
   simp only [Nat.zero_add, sS, sZ, sN, List.set_cons_zero, List.set_cons_succ] at s5
   refine s5.storeK 0 rfl (by simp) (by simp [oneCell]) fun G6 s6 => ?_
   simp only [Nat.zero_add, sS, sZ, sN, List.set_cons_zero, List.set_cons_succ] at s6
   refine s6.storeK 0 rfl (by simp) (by simp [oneCell]) fun G7 s7 => ?_
   simp only [Nat.zero_add, sS, sZ, sN, List.set_cons_zero, List.set_cons_succ] at s7
   refine s7.storeK 0 rfl (by simp) (by simp [oneCell]) fun G8 s8 => ?_
   simp only [Nat.zero_add, sS, sZ, sN, List.set_cons_zero, List.set_cons_succ] at s8
   rw [f24J0_eq]
   exact j24 hp (k := 2) (id := (100 + i) % 65536) (seq := (500 + i) % 65536) (time := 160 * i) (src := 77) (ty := 8) (fp := 1002) ⟨by omega, by omega, by omega, by omega, by omega, by omega, .inr rfl⟩ s8 hQ
  ·rw [f24J0_eq]
   exact j24 hp (k := 1) (id := (100 + i) % 65536) (seq := 0) (time := 0) (src := 0) (ty := 0) (fp := 1000) ⟨by omega, by omega, by omega, by omega, by omega, by omega, .inl ⟨rfl, rfl, rfl, rfl, rfl⟩⟩ s2 hQ
structure POk (p : Pkt) : Prop where
 nm : ∀ n ∈ p.nums, smallI 10000 n
 data : 1 ≤ p.data.length ∧ p.data.length ≤ 80
def xarch : List (Pkt × PG) → List It
 | [] => []
 | p :: ps => .sl 1 p.2.db p.2.dn p.2.dk (byteVals p.1.data) :: xarch ps
theorem xarch_append : ∀ ps qs : List (Pkt × PG), xarch (ps ++ qs) = xarch ps ++ xarch qs
 | [], _ => rfl
 | p :: ps, qs => by simp only [List.cons_append, xarch, xarch_append ps qs]
theorem pcells_snoc (ps : List (Pkt × PG)) (p : Pkt × PG) : (pcells (ps ++ [p])).flatten = (pcells ps).flatten ++ p.1.cells p.2.db p.2.dn p.2.dk := by simp [pcells]
structure XI (H0 : AH) (dh ch : Nat) (cv : List Value) (L0 : List It) (G : AH) (xb : Option Addr) (xn : Nat) (xs : List (Pkt × PG)) : Prop where
 s : SD H0 dh G (.sl 5 xb xn xn (pcells xs).flatten :: .row ch cv :: (xarch xs ++ L0))
 ok : ∀ p ∈ xs, POk p.1
 len : xn = xs.length
theorem perm3 (a b c : It) (A L : List It) : (a :: b :: c :: (A ++ L)).Perm (b :: c :: (A ++ (a :: L))) := by
 have := (List.perm_append_comm (l₁ := [a]) (l₂ := b :: c :: A)).append_right L
 simpa using this
theorem c13 (hp : Only pm) {c : Cfg} {fb tb : Option Addr} {fn fk tn tk tk' : Nat} {many ticks : Int} {ps : List (Trm × TG)} (hm : 0 ≤ many ∧ many ≤ 100) (ht : 1 ≤ ticks ∧ ticks ≤ 1000) (j : Nat) (s : SD H0 dh G L) (hj : L[j]? = some (.sl 14 tb tn tk' (tcells ps).flatten)) (hps : 1 ≤ ps.length ∧ ps.length ≤ 100) (hbn : ∀ p ∈ ps, 1 ≤ p.2.bn ∧ p.2.bn ≤ 100)
  (hQ : ∀ G xb xn xs, SD H0 dh G (.sl 5 xb xn xn (pcells xs).flatten :: (xarch xs ++ L)) → (∀ p ∈ xs, POk p.1) → xn = xs.length → (xs.length : Int) = many → Q (.slice xb xn xn) G) : OK pm 13 ⟨[.pointer (some ⟨dh, 0, none⟩), .agg ⟨c.vals fb fn fk tb tn tk⟩, I many, I ticks]⟩ G Q := by
 have s0 := (s.new 0 (c.vals fb fn fk tb tn tk)).nil 5
 have hcv : (c.vals fb fn fk tb tn tk)[19]? = some (.slice tb tn tk) := rfl
 have htb : ∀ a, tb = some a → a.spot = none := (s.item (List.mem_of_getElem? hj)).2.2
 have htn : tn = ps.length := by
  have := (s.rd (M := tcells ps) j hj (fun r hr => (tcells_len ps r hr).1) (by omega)).1
  simpa [tcells] using this
 generalize hcc : c.vals fb fn fk tb tn tk = cv at s0 hcv ⊢
 unfold Cfg.vals at hcc
 subst hcc
 apply f13_ok hp
 simp only [f13R, letH_eq]
 generalize hcc : [I c.seed, I c.cells, I c.res, I c.delay, I c.betw, I c.tries, I c.pre, I c.att, I c.back, I c.pa, I c.pb, I c.pc, I c.ra, I c.rb, I c.rc, I c.oo, I c.ou, I c.od, .slice fb fn fk, .slice tb tn tk] = cv at s0 hcv ⊢
 generalize G.next = ch at s0 ⊢
 have key : ∀ (d : Nat) G xb (xn : Nat) xs, (xn : Int) + d = many → XI H0 dh ch cv L G xb xn xs → f13L0 (OK pm) Q dh 0 many ticks ch xb xn xn (xn : Int) G := by
  intro d
  induction d with
  | zero =>
   intro G xb xn xs hd f
   apply f13L0_step
   simp only [f13B0]
   rw [decide_eq_false (by omega), ifB_false]
   exact hQ G xb xn xs (f.s.erase 1) f.ok f.len (by have := f.len; omega)
  | succ d ih =>
   intro G xb xn xs hd f
   apply f13L0_step
   simp only [f13B0]
   rw [decide_eq_true (by omega), ifB_true]
   simp only [Nat.zero_add, f.s.load 1 rfl, hcv, obL_some]
   rw [letH_eq]
   have s1 := f.s.new 0 [I 0, I 0, I 0, I 0, .slice none 0 0]
   refine c11K hp (by omega) (by omega) s1 fun x5 G1 s2 _ _ => ?_
   refine c11K hp (by omega) (by omega) s2 fun x8 G2 s3 _ hx8 => ?_
   refine c11K hp (by omega) (by omega) s3 fun x11 G3 s4 _ _ => ?_
   refine s4.storeK 0 rfl (by simp) (by simp [oneCell]) fun G4 s5 => ?_
   simp only [Nat.zero_add, sS, sZ, sN, List.set_cons_zero, List.set_cons_succ] at s5
   simp only [s2.load 2 rfl, s1.load 2 rfl, s5.load 2 rfl, s5.load 0 rfl, hcv, List.getElem?_cons_succ, List.getElem?_cons_zero, obL_some, obI_some]
   rw [obE1_slice htb, obE1_slice htb]
   have hrd := s5.rd (M := tcells ps) (3 + ((xarch xs).length + j)) (by
    show ((_ :: _ :: _ :: (xarch xs ++ L)) : List It)[3 + ((xarch xs).length + j)]? = _
    rw [show 3 + ((xarch xs).length + j) = (xarch xs).length + j + 1 + 1 + 1 by omega]
    simp only [List.getElem?_cons_succ]
    rw [List.getElem?_append_right (by omega), Nat.add_sub_cancel_left, hj]) (fun r hr => (tcells_len ps r hr).1) (by omega)
   obtain ⟨p, hpp⟩ : ∃ p, ps[x8.toNat]? = some p := ⟨_, List.getElem?_eq_getElem (by omega)⟩
   obtain ⟨eh, ej, e1, e2⟩ := hrd.elem (k := tk) (kk := .i64) (i := x8.toNat) (r := p.1.cells p.2.bb p.2.bn p.2.bk p.2.kb p.2.kn p.2.kk) (by simp [tcells, hpp])
   rw [Int.toNat_of_nonneg (by omega)] at e1
   have e3 := e2 2 (by omega)
   simp only [Trm.cells, List.getElem?_cons_succ, List.getElem?_cons_zero] at e3
   have hb := hbn p (List.mem_of_getElem? hpp)
   rw [e1, obA_some, e3, obL_some]
   refine c11K hp (by omega) (by omega) s5 fun x19 G5 s6 _ _ => ?_
   refine s6.storeK 0 rfl (by simp) (by simp [oneCell]) fun G6 s7 => ?_
   simp only [Nat.zero_add, sS, sZ, sN, List.set_cons_zero, List.set_cons_succ] at s7
   refine c24 hp (by omega) s7 fun b8 n8 cs8 G7 s8 hB8 h1 h80 => ?_
   rw [obL_some]
   refine s8.storeK 1 rfl (by simp) (by simp [oneCell]) fun G8 s9 => ?_
   simp only [Nat.zero_add, sS, sZ, sN, List.set_cons_zero, List.set_cons_succ] at s9
   simp only [s9.load 1 rfl, List.getElem?_cons_succ, List.getElem?_cons_zero, obL_some, obI_some]
   refine s9.recK 2 rfl (by omega) rfl (by simp [oneCell]) (by omega) (by omega) fun b9 G9 s10 => ?_
   obtain ⟨w, hw⟩ := isB_all hB8
   have hwl : w.length = n8 := by
    have := ((s8.item (x := .sl 1 b8 n8 n8 cs8) (by simp)).1).len
    rw [hw] at this; simpa [byteVals] using this
   subst hw
   rw [wrap_of (by omega) (by omega), show (xn : Int) + 1 = ((xn + 1 : Nat) : Int) by omega]
   refine ih G9 b9 (xn + 1) (xs ++ [((⟨x5, x8, x19, x11, w⟩ : Pkt), (⟨b8, n8, n8⟩ : PG))]) (by omega) ⟨?_, fun q hq => ?_, by simp [f.len]⟩
   ·have s11 := s10.erase 1
    rw [pcells_snoc, xarch_append]
    refine s11.perm ?_
    simp only [List.eraseIdx_cons_succ, List.eraseIdx_cons_zero, List.set_cons_succ, List.set_cons_zero, xarch, List.append_assoc, List.cons_append, List.nil_append]
    exact perm3 _ _ _ _ _
   ·rcases List.mem_append.1 hq with hq | hq
    ·exact f.ok q hq
    ·simp only [List.mem_singleton] at hq
     subst hq
     exact ⟨by (simp only [Pkt.nums]; simp only [List.mem_cons, List.not_mem_nil, or_false, forall_eq_or_imp, forall_eq]; unfold smallI at *; omega), by show 1 ≤ w.length ∧ w.length ≤ 80; omega⟩
 exact key many.toNat _ none 0 [] (by omega) ⟨s0, fun p h => (by cases h), rfl⟩
end
end AM
end Go.Proofs.YtemcmblcogljkaaGreatDoor

