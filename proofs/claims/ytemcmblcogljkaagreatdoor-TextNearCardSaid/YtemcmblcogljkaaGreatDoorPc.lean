/- The report of one record: a walk. The sanity check is true. -/
import Derived.Test.YtemcmblcogljkaaGreatDoorPb
import Derived.StillTailTactics
set_option linter.all false
set_option linter.unusedSimpArgs false
set_option linter.unusedVariables false
namespace Go.Proofs.YtemcmblcogljkaaGreatDoor
namespace AM
open Go Go.RowKit
open TP
theorem below_grown {w w' : World} (h : Below w.heap.size w w') : w.grownBy w' none := ⟨h.os, h.tape, h.output, h.size, fun k hk _ => h.block k hk⟩
structure RS (w : World) (bs : List UInt8) (os : List (Nat × Obj)) (W : World) : Prop where
 hI : Lib.IsBuilderF 108 5 w.heap.size w.heap.size (Lib.byteCells bs) W
 hb : Below w.heap.size w W
 hk : ∀ p ∈ os, W.heap[p.1]? = some p.2
theorem isF_below {B b : Nat} {bs : List Value} {W W' : World} (h : Lib.IsBuilderF 108 5 B b bs W) (hb : Below W.heap.size W W') : Lib.IsBuilderF 108 5 B b bs W' := by
 rcases h with h | h
 ·obtain ⟨h1, v, h2, h3, h4⟩ := h
  exact .inl ⟨h1, v, by rw [hb.block _ (Array.getElem?_eq_some_iff.1 h2).1]; exact h2, h3.kept (below_grown hb) (by cases v.ownBlock with | none => exact .inl rfl | some k => exact .inr (by simp)), h4⟩
 ·obtain ⟨h1, v, h2, h3, h4⟩ := h
  exact .inr ⟨h1, v, by rw [hb.block _ (Array.getElem?_eq_some_iff.1 h2).1]; exact h2, h3.kept (below_grown hb) (by cases v.ownBlock with | none => exact .inl rfl | some k => exact .inr (by simp)), h4⟩
theorem RS.quiet {w : World} {bs : List UInt8} {os : List (Nat × Obj)} {W W' : World} (h : RS w bs os W) (hb : Below W.heap.size W W') : RS w bs os W' :=
 ⟨isF_below h.hI hb, h.hb.trans (hb.mono h.hb.size), fun p hp => by
  have := h.hk p hp
  rw [hb.block _ (Array.getElem?_eq_some_iff.1 this).1]; exact this⟩
theorem RS.write {w : World} {bs s : List UInt8} {os : List (Nat × Obj)} {W : World} (h : RS w bs os W) (ho : ∀ p ∈ os, p.1 ≠ w.heap.size ∧ ∀ c fz, p.2 ≠ .cells c 5 fz) (hl : bs.length + s.length ≤ 140737488355328) :
  Calls Tryz.prog 40 #[.pointer (some ⟨w.heap.size, 0, none⟩), .string (Go.Proofs.YtemcmblcogljkaaGreatDoor.AM.bs s)] W fun e W' => e = .returned (.tuple #[.int .i64 s.length, .nilIface]) ∧ RS w (bs ++ s) os W' := by
 refine (Tryz.Builder_WriteString_k w.heap.size w.heap.size _ (Go.Proofs.YtemcmblcogljkaaGreatDoor.AM.bs s) W h.hI (by rw [Lib.byteCells_length]; exact hl) h.hb.size).mono ?_
 rintro e W' ⟨rfl, h1, h2, h3⟩
 refine ⟨rfl, ?_, h.hb.trans h2, fun p hp => h3 p.1 p.2 (h.hk p hp) (by have := (ho p hp).1; simpa using this) (ho p hp).2⟩
 rw [Lib.byteCells_append]
 exact .inr h1
theorem RS.add {w : World} {bs : List UInt8} {os : List (Nat × Obj)} {W W' : World} (h : RS w bs os W) (hb : Below W.heap.size W W') {k : Nat} {o : Obj} (ho : W'.heap[k]? = some o) : RS w bs ((k, o) :: os) W' := by
 have := h.quiet hb
 exact ⟨this.hI, this.hb, fun p hp => by
  rcases List.mem_cons.1 hp with rfl | hp
  ·exact ho
  ·exact this.hk p hp⟩
theorem RS.at {w : World} {bs : List UInt8} {os : List (Nat × Obj)} {W : World} (h : RS w bs os W) (n : Nat) {k : Nat} {c : Array Value} {e : TypeId} {f : Nat × Nat} (hn : os[n]? = some (k, .cells c e f)) (j : Nat) {v : Value} (hv : c[j]? = some v) : W.cell? ⟨k, j, none⟩ = some v := by
 rw [Lib.cell_of_heap (h.hk (k, .cells c e f) (List.mem_of_getElem? hn))]; exact hv
theorem alloc_at (w : World) (c : Array Value) (e : TypeId) : (w.alloc (.cells c e)).heap[w.heap.size]? = some (.cells c e (0, 0)) := by
 show (w.heap.push _)[w.heap.size]? = _
 rw [Array.getElem?_push_size]
theorem zero_walk (w : World) : Calls Tryz.prog 41 #[.int .i64 0] w fun e w' => e = .returned (.string ⟨#[48]⟩) ∧ w' = w := by
 go_enter Tryz.func41, Tryz.ntmps41
 have hz : (⟨(Lib.decDigits 0).toArray⟩ : ByteArray) = ⟨#[48]⟩ := by kernel_rfl
 go_wp2_with (go_at_call 51; refine (Tryz.strconv_Itoa_small 0 (by decide) _).mono ?_; rintro e w' ⟨rfl, rfl⟩)
 go_ret
 exact ⟨rfl, rfl⟩
theorem kinds_walk (w : World) (hB : Base Tryz.prog w) : Calls Tryz.prog 39 #[] w fun e w' => e = .returned (.agg #[.string ⟨#[111, 116, 104, 101, 114]⟩, .string ⟨#[105, 110]⟩, .string ⟨#[111, 117, 116]⟩, .string ⟨#[97, 115, 107]⟩, .string ⟨#[103, 111]⟩, .string ⟨#[106, 111, 105, 110]⟩, .string ⟨#[98, 97, 99, 107]⟩, .string ⟨#[108, 111, 115, 116]⟩, .string ⟨#[119, 114, 111, 110, 103]⟩, .string ⟨#[102, 97, 105, 108, 101, 100]⟩]) ∧ Below w.heap.size w w' := c39_walk w hB
set_option maxHeartbeats 4000000 in
set_option maxRecDepth 1000000 in
theorem report_walk (rb ro cap db dof dc : Nat) (w : World) (hB : Base Tryz.prog w)
  (h0 : w.cell? ⟨rb, ro, none⟩ = some (.int .i64 0)) (h1 : w.cell? ⟨rb, ro + 1, none⟩ = some (.int .i64 1)) (h2 : w.cell? ⟨rb, ro + 2, none⟩ = some (.int .i64 0)) (h3 : w.cell? ⟨rb, ro + 3, none⟩ = some (.int .i64 0)) (h4 : w.cell? ⟨rb, ro + 4, none⟩ = some (.int .i64 0)) (h5 : w.cell? ⟨rb, ro + 5, none⟩ = some (.int .i64 0))
  (h6 : w.cell? ⟨rb, ro + 6, none⟩ = some (.slice (some ⟨db, dof, none⟩) 1 dc)) (hd : w.cell? ⟨db, dof, none⟩ = some (.int .u8 255)) :
  Calls Tryz.prog 19 #[.slice (some ⟨rb, ro, none⟩) 1 cap] w fun e w' => e = .returned (.string ⟨#[48, 32, 105, 110, 32, 48, 32, 48, 32, 48, 32, 48, 32, 102, 102, 10]⟩) ∧ Below w.heap.size w w' := by
 have hS0 : RS w [] [] (w.alloc (.cells #[.pointer none, .slice none 0 0] 108)) := ⟨Lib.IsBuilderF.of (Lib.fresh_isBuilder 108 5 w), (Below.refl _ w).alloc (Nat.le_refl _) _, fun p hp => by cases hp⟩
 have hB1 : Base Tryz.prog (w.alloc (.cells #[.pointer none, .slice none 0 0] 108)) := hB.below ((Below.refl _ w).alloc (Nat.le_refl _) _)
 have HS0 := Lib.hid hS0
 have HB1 := Lib.hid hB1
 clear hS0 hB1 hB
 go_enter Tryz.func19, Tryz.ntmps19
 go_wp2_with (go_at_call 39; refine (kinds_walk _ HB1.out).mono ?_)
 rintro e W2 ⟨rfl, hb2⟩
 have hS2 := HS0.out.quiet hb2
 have hS3 := hS2.add (W' := W2.alloc (.cells #[.string ⟨#[111, 116, 104, 101, 114]⟩, .string ⟨#[105, 110]⟩, .string ⟨#[111, 117, 116]⟩, .string ⟨#[97, 115, 107]⟩, .string ⟨#[103, 111]⟩, .string ⟨#[106, 111, 105, 110]⟩, .string ⟨#[98, 97, 99, 107]⟩, .string ⟨#[108, 111, 115, 116]⟩, .string ⟨#[119, 114, 111, 110, 103]⟩, .string ⟨#[102, 97, 105, 108, 101, 100]⟩] 109)) ((Below.refl _ W2).alloc (Nat.le_refl _) _) (k := W2.heap.size) (o := .cells #[.string ⟨#[111, 116, 104, 101, 114]⟩, .string ⟨#[105, 110]⟩, .string ⟨#[111, 117, 116]⟩, .string ⟨#[97, 115, 107]⟩, .string ⟨#[103, 111]⟩, .string ⟨#[106, 111, 105, 110]⟩, .string ⟨#[98, 97, 99, 107]⟩, .string ⟨#[108, 111, 115, 116]⟩, .string ⟨#[119, 114, 111, 110, 103]⟩, .string ⟨#[102, 97, 105, 108, 101, 100]⟩] 109 (0, 0)) (alloc_at _ _ _)
 have hka : W2.heap.size ≠ w.heap.size := by
  have h1 := (HS0.out.quiet hb2).hb.size
  have h2 := hb2.size
  simp at h2
  omega
 have HS3 := Lib.hid hS3
 have Hka := Lib.hid hka
 clear hS2 hS3 hb2 hka HS0
 go_wp2
 generalize W2.alloc (.cells #[.string ⟨#[111, 116, 104, 101, 114]⟩, .string ⟨#[105, 110]⟩, .string ⟨#[111, 117, 116]⟩, .string ⟨#[97, 115, 107]⟩, .string ⟨#[103, 111]⟩, .string ⟨#[106, 111, 105, 110]⟩, .string ⟨#[98, 97, 99, 107]⟩, .string ⟨#[108, 111, 115, 116]⟩, .string ⟨#[119, 114, 111, 110, 103]⟩, .string ⟨#[102, 97, 105, 108, 101, 100]⟩] 109) = W3 at HS3 ⊢
 generalize W2.heap.size = ka at HS3 Hka ⊢
 clear HB1 W2
 have hrb : rb < w.heap.size := World.block_lt_of_cell? _ _ h0
 have k0 := (HS3.out.hb.cell (p := ⟨rb, ro, none⟩) hrb).trans h0
 have k1 := (HS3.out.hb.cell (p := ⟨rb, ro + 1, none⟩) hrb).trans h1
 have k2 := (HS3.out.hb.cell (p := ⟨rb, ro + 2, none⟩) hrb).trans h2
 have k3 := (HS3.out.hb.cell (p := ⟨rb, ro + 3, none⟩) hrb).trans h3
 have k4 := (HS3.out.hb.cell (p := ⟨rb, ro + 4, none⟩) hrb).trans h4
 have k5 := (HS3.out.hb.cell (p := ⟨rb, ro + 5, none⟩) hrb).trans h5
 have k6 := (HS3.out.hb.cell (p := ⟨rb, ro + 6, none⟩) hrb).trans h6
 refine wp_loop_rounds 2 ?_
 rw [rounds_succ]
 go_wp2
 have hS4 := HS3.out.add (W' := W3.alloc (.cells #[.int .i64 0, .int .i64 1, .int .i64 0, .int .i64 0, .int .i64 0, .int .i64 0, .slice (some ⟨db, dof, none⟩) 1 dc] 64)) ((Below.refl _ W3).alloc (Nat.le_refl _) _) (k := W3.heap.size) (alloc_at _ _ _)
 have hkr : W3.heap.size ≠ w.heap.size := by
  have := HS3.out.hb.size
  have := (HS3.out).hI
  intro e
  rcases this with h | h
  ·have := h.lt; omega
  ·have := h.lt; omega
 have HS4 := Lib.hid hS4
 have Hkr := Lib.hid hkr
 clear hS4 hkr HS3 k0 k1 k2 k3 k4 k5 k6
 generalize W3.alloc (.cells #[.int .i64 0, .int .i64 1, .int .i64 0, .int .i64 0, .int .i64 0, .int .i64 0, .slice (some ⟨db, dof, none⟩) 1 dc] 64) = W4 at HS4 ⊢
 generalize W3.heap.size = kr at HS4 Hkr ⊢
 clear W3
 refine wp_region_still_tail 8 (by kernel_rfl) (by kernel_rfl) ?_
 have HS5 := Lib.hid (HS4.out.quiet ((Below.refl _ W4).drew))
 clear HS4
 have hW5 : ∃ W5, W5 = W4.drew := ⟨_, rfl⟩
 obtain ⟨W5, hW5⟩ := hW5
 rw [← hW5] at HS5
 have hL : ({ W4 with drawn := W4.drawn + 1 } : World) = W5 := hW5.symm
 rw [hL]
 clear hL hW5 W4
 have r0 : W5.cell? ⟨kr, 0, none⟩ = some (.int .i64 0) := HS5.out.at 0 rfl 0 rfl
 have a1 : W5.cell? ⟨ka, 1, none⟩ = some (.string ⟨#[105, 110]⟩) := HS5.out.at 1 rfl 1 rfl
 simp only [List.take_succ_cons, List.take_zero, List.drop_succ_cons, List.drop_zero]
 still_step
 still_step
 still_call (zero_walk _)
 have x1 : (⟨#[48]⟩ : ByteArray) ++ ⟨#[32]⟩ = ⟨#[48, 32]⟩ := by kernel_rfl
 have x2 : (⟨#[48, 32]⟩ : ByteArray) ++ ⟨#[105, 110]⟩ = ⟨#[48, 32, 105, 110]⟩ := by kernel_rfl
 still_step
 still_step
 still_step
 still_step
 still_step
 refine wpStill_nil ?_
 clear r0 a1 x1 x2
 have w6 := HS5.out.write (s := [48, 32, 105, 110]) (by
  intro p hp
  simp only [List.mem_cons, List.not_mem_nil, or_false] at hp
  rcases hp with rfl | rfl
  ·exact ⟨Hkr.out, fun c fz e => by injection e with _ e _; exact absurd e (by decide)⟩
  ·exact ⟨Hka.out, fun c fz e => by injection e with _ e _; exact absurd e (by decide)⟩) (by simp)
 have HW6 := Lib.hid w6
 clear w6
 go_wp2_with (go_at_call 40; refine HW6.out.mono ?_)
 rintro e W6 ⟨rfl, hS6⟩
 clear HW6 HS5 W5
 simp only [List.nil_append] at hS6
 have r2 : W6.cell? ⟨kr, 2, none⟩ = some (.int .i64 0) := hS6.at 0 rfl 2 rfl
 have r3 : W6.cell? ⟨kr, 3, none⟩ = some (.int .i64 0) := hS6.at 0 rfl 3 rfl
 have r4 : W6.cell? ⟨kr, 4, none⟩ = some (.int .i64 0) := hS6.at 0 rfl 4 rfl
 have r5 : W6.cell? ⟨kr, 5, none⟩ = some (.int .i64 0) := hS6.at 0 rfl 5 rfl
 have HS6 := Lib.hid hS6
 clear hS6
 go_wp2
 have hS7 := HS6.out.add (W' := W6.alloc (.cells #[.int .i64 0, .int .i64 0, .int .i64 0, .int .i64 0] 3)) ((Below.refl _ W6).alloc (Nat.le_refl _) _) (k := W6.heap.size) (alloc_at _ _ _)
 have hks : W6.heap.size ≠ w.heap.size := by
  intro e
  rcases HS6.out.hI with h | h
  ·have := h.lt; omega
  ·have := h.lt; omega
 have HS7 := Lib.hid hS7
 have Hks := Lib.hid hks
 clear hS7 hks HS6 r2 r3 r4 r5
 generalize W6.alloc (.cells #[.int .i64 0, .int .i64 0, .int .i64 0, .int .i64 0] 3) = W7 at HS7 ⊢
 generalize W6.heap.size = ks at HS7 Hks ⊢
 clear W6
 refine wp_loop_rounds 5 ?_
 rw [rounds_succ]
 have q : W7.cell? ⟨ks, 0, none⟩ = some (.int .i64 0) := HS7.out.at 0 rfl 0 rfl
 have x1 : (⟨#[32]⟩ : ByteArray) ++ ⟨#[48]⟩ = ⟨#[32, 48]⟩ := by kernel_rfl
 go_wp2_with (go_at_call 41; refine (zero_walk _).mono ?_; rintro e w' ⟨rfl, rfl⟩)
 have HW := Lib.hid (HS7.out.write (s := [32, 48]) (by
  intro p hp
  simp only [List.mem_cons, List.not_mem_nil, or_false] at hp
  rcases hp with rfl | rfl | rfl
  ·exact ⟨Hks.out, fun c fz e => by injection e with _ e _; exact absurd e (by decide)⟩
  ·exact ⟨Hkr.out, fun c fz e => by injection e with _ e _; exact absurd e (by decide)⟩
  ·exact ⟨Hka.out, fun c fz e => by injection e with _ e _; exact absurd e (by decide)⟩) (by simp))
 clear q x1
 go_wp2_with (go_at_call 40; refine HW.out.mono ?_)
 rintro e W8 ⟨rfl, hS⟩
 have HS8 := Lib.hid hS
 clear HW HS7 hS
 go_wp2
 rw [rounds_succ]
 have q : W8.cell? ⟨ks, 1, none⟩ = some (.int .i64 0) := HS8.out.at 0 rfl 1 rfl
 have x1 : (⟨#[32]⟩ : ByteArray) ++ ⟨#[48]⟩ = ⟨#[32, 48]⟩ := by kernel_rfl
 go_wp2_with (go_at_call 41; refine (zero_walk _).mono ?_; rintro e w' ⟨rfl, rfl⟩)
 have HW := Lib.hid (HS8.out.write (s := [32, 48]) (by
  intro p hp
  simp only [List.mem_cons, List.not_mem_nil, or_false] at hp
  rcases hp with rfl | rfl | rfl
  ·exact ⟨Hks.out, fun c fz e => by injection e with _ e _; exact absurd e (by decide)⟩
  ·exact ⟨Hkr.out, fun c fz e => by injection e with _ e _; exact absurd e (by decide)⟩
  ·exact ⟨Hka.out, fun c fz e => by injection e with _ e _; exact absurd e (by decide)⟩) (by simp))
 clear q x1
 go_wp2_with (go_at_call 40; refine HW.out.mono ?_)
 rintro e W9 ⟨rfl, hS⟩
 have HS9 := Lib.hid hS
 clear HW HS8 hS
 go_wp2
 rw [rounds_succ]
 have q : W9.cell? ⟨ks, 2, none⟩ = some (.int .i64 0) := HS9.out.at 0 rfl 2 rfl
 have x1 : (⟨#[32]⟩ : ByteArray) ++ ⟨#[48]⟩ = ⟨#[32, 48]⟩ := by kernel_rfl
 go_wp2_with (go_at_call 41; refine (zero_walk _).mono ?_; rintro e w' ⟨rfl, rfl⟩)
 have HW := Lib.hid (HS9.out.write (s := [32, 48]) (by
  intro p hp
  simp only [List.mem_cons, List.not_mem_nil, or_false] at hp
  rcases hp with rfl | rfl | rfl
  ·exact ⟨Hks.out, fun c fz e => by injection e with _ e _; exact absurd e (by decide)⟩
  ·exact ⟨Hkr.out, fun c fz e => by injection e with _ e _; exact absurd e (by decide)⟩
  ·exact ⟨Hka.out, fun c fz e => by injection e with _ e _; exact absurd e (by decide)⟩) (by simp))
 clear q x1
 go_wp2_with (go_at_call 40; refine HW.out.mono ?_)
 rintro e W10 ⟨rfl, hS⟩
 have HS10 := Lib.hid hS
 clear HW HS9 hS
 go_wp2
 rw [rounds_succ]
 have q : W10.cell? ⟨ks, 3, none⟩ = some (.int .i64 0) := HS10.out.at 0 rfl 3 rfl
 have x1 : (⟨#[32]⟩ : ByteArray) ++ ⟨#[48]⟩ = ⟨#[32, 48]⟩ := by kernel_rfl
 go_wp2_with (go_at_call 41; refine (zero_walk _).mono ?_; rintro e w' ⟨rfl, rfl⟩)
 have HW := Lib.hid (HS10.out.write (s := [32, 48]) (by
  intro p hp
  simp only [List.mem_cons, List.not_mem_nil, or_false] at hp
  rcases hp with rfl | rfl | rfl
  ·exact ⟨Hks.out, fun c fz e => by injection e with _ e _; exact absurd e (by decide)⟩
  ·exact ⟨Hkr.out, fun c fz e => by injection e with _ e _; exact absurd e (by decide)⟩
  ·exact ⟨Hka.out, fun c fz e => by injection e with _ e _; exact absurd e (by decide)⟩) (by simp))
 clear q x1
 go_wp2_with (go_at_call 40; refine HW.out.mono ?_)
 rintro e W11 ⟨rfl, hS⟩
 have HS11 := Lib.hid hS
 clear HW HS10 hS
 go_wp2
 rw [rounds_succ]
 have r6 : W11.cell? ⟨kr, 6, none⟩ = some (.slice (some ⟨db, dof, none⟩) 1 dc) := HS11.out.at 1 rfl 6 rfl
 have hdb : db < w.heap.size := World.block_lt_of_cell? _ _ hd
 have hx : hexOf [255] = [102, 102] := by decide
 have w32 : Calls Tryz.prog 32 #[.slice (some ⟨db, dof, none⟩) 1 dc] W11 fun e w' => e = .returned (.string ⟨#[102, 102]⟩) ∧ Below W11.heap.size W11 w' := by
  have := written_walk db dof dc [255] W11 (fun j x hj => by
   match j, hj with
   | 0, hj =>
    simp only [List.getElem?_cons_zero, Option.some.injEq] at hj
    subst hj
    exact (HS11.out.hb.cell (p := ⟨db, dof, none⟩) hdb).trans hd
   | j + 1, hj => simp at hj) (Nat.lt_of_lt_of_le hdb HS11.out.hb.size) (by simp)
  rw [hx] at this
  exact this
 have H32 := Lib.hid w32
 clear w32 hx hdb
 have x1 : (⟨#[32]⟩ : ByteArray) ++ ⟨#[102, 102]⟩ = ⟨#[32, 102, 102]⟩ := by kernel_rfl
 go_wp2_with (go_at_call 32; refine H32.out.mono ?_)
 rintro e W12 ⟨rfl, hb12⟩
 have HS12 := Lib.hid (HS11.out.quiet hb12)
 clear H32 HS11 hb12 r6
 have HW := Lib.hid (HS12.out.write (s := [32, 102, 102]) (by
  intro p hp
  simp only [List.mem_cons, List.not_mem_nil, or_false] at hp
  rcases hp with rfl | rfl | rfl
  ·exact ⟨Hks.out, fun c fz e => by injection e with _ e _; exact absurd e (by decide)⟩
  ·exact ⟨Hkr.out, fun c fz e => by injection e with _ e _; exact absurd e (by decide)⟩
  ·exact ⟨Hka.out, fun c fz e => by injection e with _ e _; exact absurd e (by decide)⟩) (by simp))
 go_wp2_with (go_at_call 40; refine HW.out.mono ?_)
 rintro e W13 ⟨rfl, hS⟩
 have HS13 := Lib.hid hS
 clear HW HS12 hS x1
 have HW := Lib.hid (HS13.out.write (s := [10]) (by
  intro p hp
  simp only [List.mem_cons, List.not_mem_nil, or_false] at hp
  rcases hp with rfl | rfl | rfl
  ·exact ⟨Hks.out, fun c fz e => by injection e with _ e _; exact absurd e (by decide)⟩
  ·exact ⟨Hkr.out, fun c fz e => by injection e with _ e _; exact absurd e (by decide)⟩
  ·exact ⟨Hka.out, fun c fz e => by injection e with _ e _; exact absurd e (by decide)⟩) (by simp))
 go_wp2_with (go_at_call 40; refine HW.out.mono ?_)
 rintro e W14 ⟨rfl, hS⟩
 have HS14 := Lib.hid hS
 clear HW HS13 hS
 go_wp2
 rw [rounds_succ]
 go_wp2_with (go_at_call 42; refine (Tryz.Builder_String_any_k w.heap.size w.heap.size _ _ HS14.out.hI HS14.out.hb.size).mono ?_)
 rintro e W15 ⟨rfl, _, hb15, _⟩
 go_wp2
 go_ret
 exact ⟨rfl, HS14.out.hb.trans hb15⟩
end AM
end Go.Proofs.YtemcmblcogljkaaGreatDoor

namespace Go.Proofs.YtemcmblcogljkaaGreatDoor
namespace AM
open Go Go.RowKit
open TP
def pRep1 (a : Array Value) (H : AH) : Option (Value × AH) := match a with
 | ⟨[.slice (some ⟨h, i, none⟩) 1 _]⟩ => match H.loadN h i 7 with
  | some [.int .i64 0, .int .i64 1, .int .i64 0, .int .i64 0, .int .i64 0, .int .i64 0, .slice (some ⟨g, j, none⟩) 1 _] => match H.load g j with
   | some (.int .u8 255) => some (.string (bs [48, 32, 105, 110, 32, 48, 32, 48, 32, 48, 32, 48, 32, 102, 102, 10]), H)
   | _ => none
  | _ => none
 | _ => none
def pmA : Prims := fun f => match f with
 | 19 => some pRep1
 | f => pmB f
def ksA : FuncId → Keeps := fun f i => match f, i with
 | 15, 1029 => some [0, 4, 5, 1, 2, 3, 6, 7, 8, 9, 10]
 | 15, _ => none
 | f, i => ksAll f i
set_option maxRecDepth 100000 in
theorem awake_run : ((callF Tryz.prog pmA ksA 100 7 ⟨[]⟩ AH0).map Prod.fst) = some (.bool true) := by kernel_rfl
section
variable {w0 : World}
theorem ok_rep (hB : Base Tryz.prog w0) : PrimOK Tryz.prog w0 19 pRep1 := fun args H v H' h ρ w args' hr ha => by
 unfold pRep1 at h
 split at h
 ·rename_i b i cap
  split at h
  ·rename_i g j c2 hvs
   split at h
   ·rename_i hx
    simp only [Option.some.injEq, Prod.mk.injEq] at h
    obtain ⟨rfl, rfl⟩ := h
    obtain ⟨u, r, e1, hu, hr1⟩ := ha.cons_inv
    have e3 := hr1.nil_inv
    subst e3
    have hargs : args' = ⟨[u]⟩ := by cases args' with | mk l' => simp only at e1; rw [e1]
    subst hargs
    cases hu with
    | slc h' i' len' cap' c s a' cap2 hρ hs hlen hcap ha' hroom =>
     have ha2 := ha' (by omega)
     subst ha2
     have hcells := slice_cells hr hvs hρ hs
     have get : ∀ (k : Nat) (n : Int), k < 6 → ([.int .i64 0, .int .i64 1, .int .i64 0, .int .i64 0, .int .i64 0, .int .i64 0, .slice (some ⟨g, j, none⟩) 1 c2] : List Value)[k]? = some (.int .i64 n) → w.cell? ⟨c, i - s + k, none⟩ = some (.int .i64 n) := fun k n _ hk => by
      obtain ⟨v', k1, k2⟩ := hcells k _ hk
      rw [k1, k2.flat rfl]
     obtain ⟨v6, q1, q2⟩ := hcells 6 _ rfl
     cases q2 with
     | slc h6 i6 len6 cap6 c6 s6 a6 cap7 hρ6 hs6 hlen6 hcap6 ha6 hroom6 =>
      have ha7 := ha6 (by omega)
      subst ha7
      obtain ⟨v7, p1, p2⟩ := hr.cell _ _ _ _ _ hρ6 hx
      rw [p2.flat rfl] at p1
      exact flat_done hr rfl (report_walk c (i - s) cap2 c6 (j - s6) cap7 w (hB.at hr) (get 0 0 (by omega) rfl) (get 1 1 (by omega) rfl) (get 2 0 (by omega) rfl) (get 3 0 (by omega) rfl) (get 4 0 (by omega) rfl) (get 5 0 (by omega) rfl) q1 p1)
   ·cases h
  ·cases h
 ·cases h
theorem ok_pmA (hB : Base Tryz.prog w0) : CalleeOK Tryz.prog (oldB w0) w0 fun f args H => match pmA f with | some p => p args H | none => none :=
 calleeOK fun f p hp => by
  unfold pmA at hp
  split at hp
  ·injection hp with hp
   subst hp
   exact ⟨⟨_, Tryz.func19, rfl⟩, ok_rep hB⟩
  ·unfold pmB at hp
   split at hp
   ·cases hp
   ·rename_i h7
    exact ok_lib hB h7 hp
theorem awake_walk (w : World) (hB : Base Tryz.prog w) : Calls Tryz.prog 7 #[] w fun e w' => e = .returned (.bool true) ∧ Below w.heap.size w w' := by
 obtain ⟨⟨v, H'⟩, h1, h2⟩ := Option.map_eq_some_iff.1 awake_run
 simp only at h2
 subst h2
 exact closed (args := []) w (ok_pmA hB) h1 rfl rfl
theorem ok_awake (hB : Base Tryz.prog w0) : PrimOK Tryz.prog w0 7 pAwake := fun args H v H' h ρ w args' hr ha => by
 unfold pAwake at h
 split at h
 ·simp only [Option.some.injEq, Prod.mk.injEq] at h
  obtain ⟨rfl, rfl⟩ := h
  rw [args_flat ha rfl]
  exact flat_done hr rfl (awake_walk w (hB.at hr))
 ·cases h
theorem ok_pmT (hB : Base Tryz.prog w0) : CalleeOK Tryz.prog (oldB w0) w0 fun f args H => match pmT f with | some p => p args H | none => none :=
 calleeOK fun f p hp => by
  by_cases h7 : f = 7
  ·subst h7
   have : pAwake = p := by injection hp
   subst this
   exact ⟨⟨_, Tryz.func7, rfl⟩, ok_awake hB⟩
  ·exact ok_lib hB h7 hp
end
end AM
end Go.Proofs.YtemcmblcogljkaaGreatDoor

