/- The reference reads a line. The reference reads the first lines. The reference reads fades and terminals. -/
import Derived.Test.YtemcmblcogljkaaGreatDoorCe
set_option linter.all false
set_option linter.unusedSimpArgs false
set_option linter.unusedVariables false
namespace Go.Proofs.YtemcmblcogljkaaGreatDoor
namespace AM
open Go
open Go.Lib (decDigits itoa nDigits)
open TP
def okLine (part : Int) (c : Cfg) (l : List Pkt) (s w : List UInt8) : Bool :=
 if w = wPacket then ((textOf c l)[(textOf c l).length - 1]? == some s) && (match l[l.length - 1]? with | some x => decide (0 < x.data.length) | none => false)
 else if part < 4 then (textOf c l)[(part - 1).toNat]? == some s
 else (textOf c l)[max ((textOf c l).length - 1) 3]? == some s
theorem bs_beq (a b : List UInt8) : ((bs a).data.toList == (bs b).data.toList) = (some a == some b) := by
 rw [bs_list, bs_list]; rfl
theorem textOf_len (c : Cfg) (l : List Pkt) : 4 ≤ (textOf c l).length := by
 simp only [textOf, List.length_append, Cfg.heads, List.length_cons, List.length_nil]; omega
section
variable {pm : Prims} {ω : Nat → Option Comp} {H0 G : AH} {h : Nat} {c : Cfg} {l : List Pkt} {p : Parts}
theorem l38J (hp : Only pm) {s w : List UInt8} {part : Int} (d : Doc ω H0 G h [I part] c l p) (he : p.tc = p.ts) (hc : c.shaped) (hcn : c.nb) (hl : ∀ x ∈ l, x.nb) (hN : (textOf c l).length ≤ 100000000) (h1 : 1 ≤ part) (h6 : part ≤ 6) (hpk : w = wPacket → l ≠ []) {Q : Value → AH → Prop}
  (hQ : ∀ G', Doc ω H0 G' h [I part] c l p → Q (.bool (okLine part c l s w)) G') : f38J0 (OK pm) Q h 0 (bs s) (bs w) G := by
 rw [f38J0_eq]
 have LB : ∀ G', Doc ω H0 G' h [I part] c l p → ∀ k, G'.load h k = ([I part] ++ (c.vals p.fb p.fn p.fk p.tb p.tn p.tk ++ [.slice p.xb p.xn p.xk]))[k]? := fun G' d' => d'.box.vals
 have L0 := LB G d
 unfold Cfg.vals at L0
 simp only [f38K0, L0, Nat.zero_add, Nat.reduceAdd, List.cons_append, List.nil_append, List.getElem?_cons_zero, List.getElem?_cons_succ, obI_some, obL_some]
 have hxl : p.xn = l.length := d.rdX.1
 have h4 := textOf_len c l
 have hll2 : l.length ≤ (textOf c l).length := by simp only [textOf, List.length_append, List.length_map]; omega
 refine c23 hp hc hcn hl d.le.wf (d.rdF hc) (d.rdT he hc) d.rdX hN fun G1 b n o => ?_
 have d1 := d.ofLe o.keep
 have L1 := LB G1 d1
 unfold Cfg.vals at L1
 have hn := o.len
 have hrd := o.sli.rd1 o.spot
 have line : ∀ (i : Nat) (K : ByteArray → Prop), i < n → (∀ x, (textOf c l)[i]? = some x → K (bs x)) → obA (elemS 1 (.slice b n n) (.int .i64 (i : Int))) fun h26 i26 => obS (G1.load h26 i26) K := fun i K hi hK => by
  obtain ⟨x, hx⟩ : ∃ x, (textOf c l)[i]? = some x := ⟨_, List.getElem?_eq_getElem (by omega)⟩
  obtain ⟨a, j, e1, e2⟩ := hrd.elem (k := n) (strs_get hx) (kk := .i64)
  have e2 := e2 0 (by omega)
  rw [Nat.add_zero] at e2
  rw [e1, obA_some, e2]
  exact hK x hx
 have hw : ((bs w).data.toList == (bs [112, 97, 99, 107, 101, 116]).data.toList) = decide (w = wPacket) := by
  show (w == wPacket) = decide (w = wPacket)
  rw [Bool.eq_iff_iff]; simp
 rw [obL_some, hw]
 refine ifB_intro (fun hwp => ?_) (fun hwp => ?_)
 ·simp only [decide_eq_true_eq] at hwp
  have hne := hpk hwp
  have hll : 0 < l.length := List.length_pos_iff.2 hne
  rw [wrap_of (by omega) (by omega), show (n : Int) - 1 = ((n - 1 : Nat) : Int) by omega]
  simp only [join2]
  refine line (n - 1) _ (by omega) fun x hx => ?_
  obtain ⟨y, hy⟩ : ∃ y, l[l.length - 1]? = some y := ⟨_, List.getElem?_eq_getElem (by omega)⟩
  have hok : okLine part c l s w = ((some x == some s) && decide (0 < y.data.length)) := by
   rw [okLine, if_pos hwp, ← hn, hx, hy]
  rw [bs_beq]
  refine ifB_intro (fun hx2 => ?_) (fun hx2 => ?_)
  ·simp only [L1, Nat.zero_add, Nat.reduceAdd, List.cons_append, List.nil_append, List.getElem?_cons_zero, List.getElem?_cons_succ, obL_some]
   rw [wrap_of (by omega) (by omega), show (p.xn : Int) - 1 = ((l.length - 1 : Nat) : Int) by omega]
   obtain ⟨a, j, db, dn, dk, e1, e2, e3, _⟩ := d1.rdX.elem (k := p.xk) hy
   have hdn : dn = y.data.length := by have := e3.1; simpa [bytes1] using this
   rw [e1, obA_some, e2 4 (by omega)]
   simp only [Pkt.cells, List.getElem?_cons_zero, List.getElem?_cons_succ, obL_some]
   have := hQ G1 d1
   rw [hok, hx2, Bool.true_and] at this
   rw [show decide ((dn : Int) > 0) = decide (0 < y.data.length) by rw [hdn, Bool.eq_iff_iff]; simp]
   exact this
  ·have := hQ G1 d1
   rwa [hok, hx2, Bool.false_and] at this
 ·simp only [decide_eq_false_iff_not] at hwp
  simp only [L1, Nat.zero_add, List.cons_append, List.nil_append, List.getElem?_cons_zero, obI_some]
  refine ifB_intro (fun hq => ?_) (fun hq => ?_)
  ·simp only [decide_eq_true_eq] at hq
   rw [wrap_of (by omega) (by omega), show part - 1 = (((part - 1).toNat : Nat) : Int) by omega]
   refine line _ _ (by omega) fun x hx => ?_
   have := hQ G1 d1
   rw [okLine, if_neg hwp, if_pos hq, hx] at this
   rwa [bs_beq]
  ·simp only [decide_eq_false_iff_not] at hq
   rw [wrap_of (by omega) (by omega), show (if (3 : Int) > (n : Int) - 1 then (3 : Int) else (n : Int) - 1) = ((max (n - 1) 3 : Nat) : Int) by split <;> omega]
   refine line _ _ (by omega) fun x hx => ?_
   have := hQ G1 d1
   rw [okLine, if_neg hwp, if_neg hq, ← hn, hx] at this
   rwa [bs_beq]
end
end AM
end Go.Proofs.YtemcmblcogljkaaGreatDoor

namespace Go.Proofs.YtemcmblcogljkaaGreatDoor
namespace AM
open Go
open Go.Lib (decDigits itoa nDigits)
open TP
attribute [local irreducible] f38J0
section
variable {ω : Nat → Option Comp} {H0 G : AH} {h : Nat} {pre : List Value} {c : Cfg} {l : List Pkt} {p : Parts}
theorem Doc.put (d : Doc ω H0 G h pre c l p) {i : Nat} {ws pre' : List Value} {c' : Cfg} (hl : i + ws.length ≤ (pre ++ (c.vals p.fb p.fn p.fk p.tb p.tn p.tk ++ [Value.slice p.xb p.xn p.xk])).length) (hv : ∀ v ∈ ws, oneCell v = true)
  (hu : pre' ++ (c'.vals p.fb p.fn p.fk p.tb p.tn p.tk ++ [Value.slice p.xb p.xn p.xk]) = (pre ++ (c.vals p.fb p.fn p.fk p.tb p.tn p.tk ++ [Value.slice p.xb p.xn p.xk])).take i ++ ws ++ (pre ++ (c.vals p.fb p.fn p.fk p.tb p.tn p.tk ++ [Value.slice p.xb p.xn p.xk])).drop (i + ws.length)) (hf : c'.fades = c.fades) (ht : c'.terms = c.terms) :
  ∃ G', G.storeN h i ws = some G' ∧ Keep (fun g => g = h) G G' ∧ Doc ω H0 G' h pre' c' l p := by
 obtain ⟨G', a1, a2, a3, _⟩ := d.box.put d.le.wf hl hv hu
 exact ⟨G', a1, a2, d.rebox a2 a3 hf ht⟩
end
theorem ints_elem {G : AH} {b : Option Addr} {k : Nat} {ns : List Int} (hr : Rd G 1 b k (ints1 ns)) {i : Nat} {x : Int} (hi : ns[i]? = some x) : ∃ a j, elemS 1 (.slice b k k) (.int .i64 (i : Int)) = some (.pointer (some ⟨a, j, none⟩)) ∧ G.load a j = some (I x) := by
 obtain ⟨a, j, e1, e2⟩ := hr.elem (k := k) (ints1_get hi) (kk := .i64)
 have e2 := e2 0 (by omega)
 rw [Nat.add_zero] at e2
 exact ⟨a, j, e1, e2⟩
theorem len_two {r : List Int} (h : r.length = 2) : ∃ a b, r = [a, b] := by
 match r, h with
 | [a, b], _ => exact ⟨a, b, rfl⟩
theorem len_three {r : List Int} (h : r.length = 3) : ∃ a b c, r = [a, b, c] := by
 match r, h with
 | [a, b, c], _ => exact ⟨a, b, c, rfl⟩
theorem len_nine {r : List Int} (h : r.length = 9) : ∃ a b c d e f g i j, r = [a, b, c, d, e, f, g, i, j] := by
 match r, h with
 | [a, b, c, d, e, f, g, i, j], _ => exact ⟨a, b, c, d, e, f, g, i, j, rfl⟩
def Cfg.set1 (c : Cfg) : List Int → Cfg
 | [a, b, d, e, f, g, i, j, k] => { c with seed := a, cells := b, res := d, delay := e, betw := f, tries := g, pre := i, att := j, back := k }
 | _ => c
def Cfg.set2 (c : Cfg) : List Int → Cfg
 | [a, b, d] => { c with pa := a, pb := b, pc := d }
 | _ => c
def Cfg.set3 (c : Cfg) : List Int → Cfg
 | [a, b, d] => { c with ra := a, rb := b, rc := d }
 | _ => c
def Cfg.set4 (c : Cfg) : List Int → Cfg
 | [a, b] => { c with oo := 0, ou := a, od := b }
 | _ => c
section
variable {pm : Prims} {ω : Nat → Option Comp} {H0 G : AH} {h : Nat} {c : Cfg} {l : List Pkt} {p : Parts}
theorem case_network (hp : Only pm) {s : List UInt8} (hs : s.length ≤ 1000000000) {w : List UInt8} {part : Int} (d : Doc ω H0 G h [I part] c l p) {Q : Value → AH → Prop}
  (hJ : ∀ G', Doc ω H0 G' h [I 1] (c.set1 (refNums s 9)) l p → f38J0 (OK pm) Q h 0 (bs s) (bs w) G') :
  OK pm 59 ⟨[.string (bs s), I 9]⟩ G fun v10 H11 =>
  obL (some v10) fun b12 n12 k12 =>
  obA (elemS 1 (.slice b12 n12 k12) (.int .i64 0)) fun h0 i0 =>
  obI .i64 (H11.load h0 i0) fun x0 =>
  obA (elemS 1 (.slice b12 n12 k12) (.int .i64 1)) fun h1 i1 =>
  obI .i64 (H11.load h1 i1) fun x1 =>
  obA (elemS 1 (.slice b12 n12 k12) (.int .i64 2)) fun h2 i2 =>
  obI .i64 (H11.load h2 i2) fun x2 =>
  obA (elemS 1 (.slice b12 n12 k12) (.int .i64 3)) fun h3 i3 =>
  obI .i64 (H11.load h3 i3) fun x3 =>
  obA (elemS 1 (.slice b12 n12 k12) (.int .i64 4)) fun h4 i4 =>
  obI .i64 (H11.load h4 i4) fun x4 =>
  obA (elemS 1 (.slice b12 n12 k12) (.int .i64 5)) fun h5 i5 =>
  obI .i64 (H11.load h5 i5) fun x5 =>
  obA (elemS 1 (.slice b12 n12 k12) (.int .i64 6)) fun h6 i6 =>
  obI .i64 (H11.load h6 i6) fun x6 =>
  obA (elemS 1 (.slice b12 n12 k12) (.int .i64 7)) fun h7 i7 =>
  obI .i64 (H11.load h7 i7) fun x7 =>
  obA (elemS 1 (.slice b12 n12 k12) (.int .i64 8)) fun h8 i8 =>
  obI .i64 (H11.load h8 i8) fun x8 =>
  obH (H11.storeN h ((0 + 1) + 0) [.int .i64 x0]) fun S0 =>
  obH (S0.storeN h ((0 + 1) + 1) [.int .i64 x1]) fun S1 =>
  obH (S1.storeN h ((0 + 1) + 2) [.int .i64 x2]) fun S2 =>
  obH (S2.storeN h ((0 + 1) + 3) [.int .i64 x3]) fun S3 =>
  obH (S3.storeN h ((0 + 1) + 4) [.int .i64 x4]) fun S4 =>
  obH (S4.storeN h ((0 + 1) + 5) [.int .i64 x5]) fun S5 =>
  obH (S5.storeN h ((0 + 1) + 6) [.int .i64 x6]) fun S6 =>
  obH (S6.storeN h ((0 + 1) + 7) [.int .i64 x7]) fun S7 =>
  obH (S7.storeN h ((0 + 1) + 8) [.int .i64 x8]) fun S8 =>
  obH (S8.storeN h (0 + 0) [.int .i64 1]) fun S9 =>
  f38J0 (OK pm) Q h 0 (bs s) (bs w) S9 := by
 refine c59 (k := 9) hp hs (by omega) d.le.wf fun G1 b g1 hr hroot => ?_
 obtain ⟨n0, n1, n2, n3, n4, n5, n6, n7, n8, hns⟩ := len_nine (refNums_length s 9)
 rw [hns] at hr hJ
 have d0 := d.ofLe g1
 rw [obL_some]
 obtain ⟨a0, j0, e0, f0⟩ := ints_elem hr (i := 0) (x := n0) rfl
 obtain ⟨a1, j1, e1, f1⟩ := ints_elem hr (i := 1) (x := n1) rfl
 obtain ⟨a2, j2, e2, f2⟩ := ints_elem hr (i := 2) (x := n2) rfl
 obtain ⟨a3, j3, e3, f3⟩ := ints_elem hr (i := 3) (x := n3) rfl
 obtain ⟨a4, j4, e4, f4⟩ := ints_elem hr (i := 4) (x := n4) rfl
 obtain ⟨a5, j5, e5, f5⟩ := ints_elem hr (i := 5) (x := n5) rfl
 obtain ⟨a6, j6, e6, f6⟩ := ints_elem hr (i := 6) (x := n6) rfl
 obtain ⟨a7, j7, e7, f7⟩ := ints_elem hr (i := 7) (x := n7) rfl
 obtain ⟨a8, j8, e8, f8⟩ := ints_elem hr (i := 8) (x := n8) rfl
 rw [show elemS 1 (.slice b 9 9) (.int .i64 0) = _ from e0, obA_some, f0, obI_some]
 rw [show elemS 1 (.slice b 9 9) (.int .i64 1) = _ from e1, obA_some, f1, obI_some]
 rw [show elemS 1 (.slice b 9 9) (.int .i64 2) = _ from e2, obA_some, f2, obI_some]
 rw [show elemS 1 (.slice b 9 9) (.int .i64 3) = _ from e3, obA_some, f3, obI_some]
 rw [show elemS 1 (.slice b 9 9) (.int .i64 4) = _ from e4, obA_some, f4, obI_some]
 rw [show elemS 1 (.slice b 9 9) (.int .i64 5) = _ from e5, obA_some, f5, obI_some]
 rw [show elemS 1 (.slice b 9 9) (.int .i64 6) = _ from e6, obA_some, f6, obI_some]
 rw [show elemS 1 (.slice b 9 9) (.int .i64 7) = _ from e7, obA_some, f7, obI_some]
 rw [show elemS 1 (.slice b 9 9) (.int .i64 8) = _ from e8, obA_some, f8, obI_some]
 obtain ⟨S0, s0, _, d1⟩ := d0.put (i := 0 + 1 + 0) (ws := [I n0]) (pre' := [I part]) (c' := { c with seed := n0 }) (by simp [Cfg.vals]) (by simp [oneCell]) rfl rfl rfl
 rw [s0, obH_some]
 obtain ⟨S1, s1, _, d2⟩ := d1.put (i := 0 + 1 + 1) (ws := [I n1]) (pre' := [I part]) (c' := { c with seed := n0, cells := n1 }) (by simp [Cfg.vals]) (by simp [oneCell]) rfl rfl rfl
 rw [s1, obH_some]
 obtain ⟨S2, s2, _, d3⟩ := d2.put (i := 0 + 1 + 2) (ws := [I n2]) (pre' := [I part]) (c' := { c with seed := n0, cells := n1, res := n2 }) (by simp [Cfg.vals]) (by simp [oneCell]) rfl rfl rfl
 rw [s2, obH_some]
 obtain ⟨S3, s3, _, d4⟩ := d3.put (i := 0 + 1 + 3) (ws := [I n3]) (pre' := [I part]) (c' := { c with seed := n0, cells := n1, res := n2, delay := n3 }) (by simp [Cfg.vals]) (by simp [oneCell]) rfl rfl rfl
 rw [s3, obH_some]
 obtain ⟨S4, s4, _, d5⟩ := d4.put (i := 0 + 1 + 4) (ws := [I n4]) (pre' := [I part]) (c' := { c with seed := n0, cells := n1, res := n2, delay := n3, betw := n4 }) (by simp [Cfg.vals]) (by simp [oneCell]) rfl rfl rfl
 rw [s4, obH_some]
 obtain ⟨S5, s5, _, d6⟩ := d5.put (i := 0 + 1 + 5) (ws := [I n5]) (pre' := [I part]) (c' := { c with seed := n0, cells := n1, res := n2, delay := n3, betw := n4, tries := n5 }) (by simp [Cfg.vals]) (by simp [oneCell]) rfl rfl rfl
 rw [s5, obH_some]
 obtain ⟨S6, s6, _, d7⟩ := d6.put (i := 0 + 1 + 6) (ws := [I n6]) (pre' := [I part]) (c' := { c with seed := n0, cells := n1, res := n2, delay := n3, betw := n4, tries := n5, pre := n6 }) (by simp [Cfg.vals]) (by simp [oneCell]) rfl rfl rfl
 rw [s6, obH_some]
 obtain ⟨S7, s7, _, d8⟩ := d7.put (i := 0 + 1 + 7) (ws := [I n7]) (pre' := [I part]) (c' := { c with seed := n0, cells := n1, res := n2, delay := n3, betw := n4, tries := n5, pre := n6, att := n7 }) (by simp [Cfg.vals]) (by simp [oneCell]) rfl rfl rfl
 rw [s7, obH_some]
 obtain ⟨S8, s8, _, d9⟩ := d8.put (i := 0 + 1 + 8) (ws := [I n8]) (pre' := [I part]) (c' := { c with seed := n0, cells := n1, res := n2, delay := n3, betw := n4, tries := n5, pre := n6, att := n7, back := n8 }) (by simp [Cfg.vals]) (by simp [oneCell]) rfl rfl rfl
 rw [s8, obH_some]
 obtain ⟨S9, s9, _, d10⟩ := d9.put (i := 0 + 0) (ws := [I 1]) (pre' := [I 1]) (c' := c.set1 [n0, n1, n2, n3, n4, n5, n6, n7, n8]) (by simp [Cfg.vals]) (by simp [oneCell]) rfl rfl rfl
 rw [s9, obH_some]
 exact @hJ S9 d10
theorem case_patience (hp : Only pm) {s : List UInt8} (hs : s.length ≤ 1000000000) {w : List UInt8} {part : Int} (d : Doc ω H0 G h [I part] c l p) {Q : Value → AH → Prop}
  (hJ : ∀ G', Doc ω H0 G' h [I 2] (c.set2 (refNums s 3)) l p → f38J0 (OK pm) Q h 0 (bs s) (bs w) G') :
  OK pm 59 ⟨[.string (bs s), I 3]⟩ G fun v10 H11 =>
  obL (some v10) fun b12 n12 k12 =>
  obA (elemS 1 (.slice b12 n12 k12) (.int .i64 0)) fun h0 i0 =>
  obI .i64 (H11.load h0 i0) fun x0 =>
  obA (elemS 1 (.slice b12 n12 k12) (.int .i64 1)) fun h1 i1 =>
  obI .i64 (H11.load h1 i1) fun x1 =>
  obA (elemS 1 (.slice b12 n12 k12) (.int .i64 2)) fun h2 i2 =>
  obI .i64 (H11.load h2 i2) fun x2 =>
  obH (H11.storeN h ((0 + 1) + 9) [.int .i64 x0, .int .i64 x1, .int .i64 x2]) fun S0 =>
  obH (S0.storeN h (0 + 0) [.int .i64 2]) fun S1 =>
  f38J0 (OK pm) Q h 0 (bs s) (bs w) S1 := by
 refine c59 (k := 3) hp hs (by omega) d.le.wf fun G1 b g1 hr hroot => ?_
 obtain ⟨n0, n1, n2, hns⟩ := len_three (refNums_length s 3)
 rw [hns] at hr hJ
 have d0 := d.ofLe g1
 rw [obL_some]
 obtain ⟨a0, j0, e0, f0⟩ := ints_elem hr (i := 0) (x := n0) rfl
 obtain ⟨a1, j1, e1, f1⟩ := ints_elem hr (i := 1) (x := n1) rfl
 obtain ⟨a2, j2, e2, f2⟩ := ints_elem hr (i := 2) (x := n2) rfl
 rw [show elemS 1 (.slice b 3 3) (.int .i64 0) = _ from e0, obA_some, f0, obI_some]
 rw [show elemS 1 (.slice b 3 3) (.int .i64 1) = _ from e1, obA_some, f1, obI_some]
 rw [show elemS 1 (.slice b 3 3) (.int .i64 2) = _ from e2, obA_some, f2, obI_some]
 obtain ⟨S0, s0, _, d1⟩ := d0.put (i := 0 + 1 + 9) (ws := [I n0, I n1, I n2]) (pre' := [I part]) (c' := c.set2 [n0, n1, n2]) (by simp [Cfg.vals]) (by simp [oneCell]) rfl rfl rfl
 rw [s0, obH_some]
 obtain ⟨S1, s1, _, d2⟩ := d1.put (i := 0 + 0) (ws := [I 2]) (pre' := [I 2]) (c' := c.set2 [n0, n1, n2]) (by simp [Cfg.vals]) (by simp [oneCell]) rfl rfl rfl
 rw [s1, obH_some]
 exact @hJ S1 d2
theorem case_rule (hp : Only pm) {s : List UInt8} (hs : s.length ≤ 1000000000) {w : List UInt8} {part : Int} (d : Doc ω H0 G h [I part] c l p) {Q : Value → AH → Prop}
  (hJ : ∀ G', Doc ω H0 G' h [I 3] (c.set3 (refNums s 3)) l p → f38J0 (OK pm) Q h 0 (bs s) (bs w) G') :
  OK pm 59 ⟨[.string (bs s), I 3]⟩ G fun v10 H11 =>
  obL (some v10) fun b12 n12 k12 =>
  obA (elemS 1 (.slice b12 n12 k12) (.int .i64 0)) fun h0 i0 =>
  obI .i64 (H11.load h0 i0) fun x0 =>
  obA (elemS 1 (.slice b12 n12 k12) (.int .i64 1)) fun h1 i1 =>
  obI .i64 (H11.load h1 i1) fun x1 =>
  obA (elemS 1 (.slice b12 n12 k12) (.int .i64 2)) fun h2 i2 =>
  obI .i64 (H11.load h2 i2) fun x2 =>
  obH (H11.storeN h ((0 + 1) + 12) [.int .i64 x0, .int .i64 x1, .int .i64 x2]) fun S0 =>
  obH (S0.storeN h (0 + 0) [.int .i64 3]) fun S1 =>
  f38J0 (OK pm) Q h 0 (bs s) (bs w) S1 := by
 refine c59 (k := 3) hp hs (by omega) d.le.wf fun G1 b g1 hr hroot => ?_
 obtain ⟨n0, n1, n2, hns⟩ := len_three (refNums_length s 3)
 rw [hns] at hr hJ
 have d0 := d.ofLe g1
 rw [obL_some]
 obtain ⟨a0, j0, e0, f0⟩ := ints_elem hr (i := 0) (x := n0) rfl
 obtain ⟨a1, j1, e1, f1⟩ := ints_elem hr (i := 1) (x := n1) rfl
 obtain ⟨a2, j2, e2, f2⟩ := ints_elem hr (i := 2) (x := n2) rfl
 rw [show elemS 1 (.slice b 3 3) (.int .i64 0) = _ from e0, obA_some, f0, obI_some]
 rw [show elemS 1 (.slice b 3 3) (.int .i64 1) = _ from e1, obA_some, f1, obI_some]
 rw [show elemS 1 (.slice b 3 3) (.int .i64 2) = _ from e2, obA_some, f2, obI_some]
 obtain ⟨S0, s0, _, d1⟩ := d0.put (i := 0 + 1 + 12) (ws := [I n0, I n1, I n2]) (pre' := [I part]) (c' := c.set3 [n0, n1, n2]) (by simp [Cfg.vals]) (by simp [oneCell]) rfl rfl rfl
 rw [s0, obH_some]
 obtain ⟨S1, s1, _, d2⟩ := d1.put (i := 0 + 0) (ws := [I 3]) (pre' := [I 3]) (c' := c.set3 [n0, n1, n2]) (by simp [Cfg.vals]) (by simp [oneCell]) rfl rfl rfl
 rw [s1, obH_some]
 exact @hJ S1 d2
theorem case_outer (hp : Only pm) {s : List UInt8} (hs : s.length ≤ 1000000000) {w : List UInt8} {part : Int} (d : Doc ω H0 G h [I part] c l p) {Q : Value → AH → Prop}
  (hJ : ∀ G', Doc ω H0 G' h [I 4] (c.set4 (refNums s 2)) l p → f38J0 (OK pm) Q h 0 (bs s) (bs w) G') :
  OK pm 59 ⟨[.string (bs s), I 2]⟩ G fun v10 H11 =>
  obL (some v10) fun b12 n12 k12 =>
  obA (elemS 1 (.slice b12 n12 k12) (.int .i64 0)) fun h0 i0 =>
  obI .i64 (H11.load h0 i0) fun x0 =>
  obA (elemS 1 (.slice b12 n12 k12) (.int .i64 1)) fun h1 i1 =>
  obI .i64 (H11.load h1 i1) fun x1 =>
  obH (H11.storeN h ((0 + 1) + 15) [.int .i64 0, .int .i64 x0, .int .i64 x1]) fun S0 =>
  obH (S0.storeN h (0 + 0) [.int .i64 4]) fun S1 =>
  f38J0 (OK pm) Q h 0 (bs s) (bs w) S1 := by
 refine c59 (k := 2) hp hs (by omega) d.le.wf fun G1 b g1 hr hroot => ?_
 obtain ⟨n0, n1, hns⟩ := len_two (refNums_length s 2)
 rw [hns] at hr hJ
 have d0 := d.ofLe g1
 rw [obL_some]
 obtain ⟨a0, j0, e0, f0⟩ := ints_elem hr (i := 0) (x := n0) rfl
 obtain ⟨a1, j1, e1, f1⟩ := ints_elem hr (i := 1) (x := n1) rfl
 rw [show elemS 1 (.slice b 2 2) (.int .i64 0) = _ from e0, obA_some, f0, obI_some]
 rw [show elemS 1 (.slice b 2 2) (.int .i64 1) = _ from e1, obA_some, f1, obI_some]
 obtain ⟨S0, s0, _, d1⟩ := d0.put (i := 0 + 1 + 15) (ws := [I 0, I n0, I n1]) (pre' := [I part]) (c' := c.set4 [n0, n1]) (by simp [Cfg.vals]) (by simp [oneCell]) rfl rfl rfl
 rw [s0, obH_some]
 obtain ⟨S1, s1, _, d2⟩ := d1.put (i := 0 + 0) (ws := [I 4]) (pre' := [I 4]) (c' := c.set4 [n0, n1]) (by simp [Cfg.vals]) (by simp [oneCell]) rfl rfl rfl
 rw [s1, obH_some]
 exact @hJ S1 d2
end
end AM
end Go.Proofs.YtemcmblcogljkaaGreatDoor

namespace Go.Proofs.YtemcmblcogljkaaGreatDoor
namespace AM
open Go
open Go.Lib (decDigits itoa nDigits)
open TP
attribute [local irreducible] f38J0
theorem len_twelve {r : List Int} (h : r.length = 12) : ∃ a b c d e f g i j k l m, r = [a, b, c, d, e, f, g, i, j, k, l, m] := by
 match r, h with
 | [a, b, c, d, e, f, g, i, j, k, l, m], _ => exact ⟨a, b, c, d, e, f, g, i, j, k, l, m, rfl⟩
def trmOf : List Int → Trm
 | [cell, cls, bat, gf, gw, gb, rc, ro, rn, rl, rs, rk] => ⟨cell, cls, gf, gw, gb, rc, ro, rn, rl, rs, rk, bat, [], []⟩
 | _ => ⟨0, 0, 0, 0, 0, 0, 0, 0, 0, 0, 0, 0, [], []⟩
section
variable {pm : Prims} {ω : Nat → Option Comp} {H0 G : AH} {h : Nat} {c : Cfg} {l : List Pkt} {p : Parts}
theorem case_fade (hp : Only pm) {s : List UInt8} (hs : s.length ≤ 1000000000) {w : List UInt8} {part : Int} (d : Doc ω H0 G h [I part] c l p) (hfn : p.fn ≤ 1000000000) {Q : Value → AH → Prop}
  (hJ : ∀ ω' p' G', Doc ω' H0 G' h [I part] (c.addFade (refNums s 5)) l p' → p'.tc = p.tc → p'.ts = p.ts → f38J0 (OK pm) Q h 0 (bs s) (bs w) G') :
  OK pm 59 ⟨[.string (bs s), I 5]⟩ G fun v88 H89 =>
  obL (some v88) fun b90 n90 k90 =>
  obL (H89.load h ((0 + 1) + 18)) fun b91 n91 k91 =>
  obA (elemS 1 (.slice b90 n90 k90) (.int .i64 0)) fun h0 i0 =>
  obI .i64 (H89.load h0 i0) fun x0 =>
  obA (elemS 1 (.slice b90 n90 k90) (.int .i64 1)) fun h1 i1 =>
  obI .i64 (H89.load h1 i1) fun x1 =>
  obA (elemS 1 (.slice b90 n90 k90) (.int .i64 2)) fun h2 i2 =>
  obI .i64 (H89.load h2 i2) fun x2 =>
  obA (elemS 1 (.slice b90 n90 k90) (.int .i64 3)) fun h3 i3 =>
  obI .i64 (H89.load h3 i3) fun x3 =>
  obA (elemS 1 (.slice b90 n90 k90) (.int .i64 4)) fun h4 i4 =>
  obI .i64 (H89.load h4 i4) fun x4 =>
  letH (H89.new 5 [.int .i64 x0, .int .i64 x1, .int .i64 x2, .int .i64 x3, .int .i64 x4]) fun H102 =>
  obG (appendV 5 40 H102 (.slice b91 n91 k91) (.slice (some ⟨H89.next, 0, none⟩) 1 1)) fun b103 n103 k103 H104 =>
  obH (H104.storeN h ((0 + 1) + 18) [.slice b103 n103 k103]) fun H105 =>
  obE1 (H102.load h ((0 + 1) + 18)) (.slice b91 n91 k91) (
  obE1 (H102.load h0 i0) (.int .i64 x0) (
  obE1 (H102.load h1 i1) (.int .i64 x1) (
  obE1 (H102.load h2 i2) (.int .i64 x2) (
  obE1 (H102.load h3 i3) (.int .i64 x3) (
  obE1 (H102.load h4 i4) (.int .i64 x4) (
  f38J0 (OK pm) Q h 0 (bs s) (bs w) H105)))))) := by
 refine c59 (k := 5) hp hs (by omega) d.le.wf fun G1 b g1 hr hroot => ?_
 obtain ⟨n0, n1, n2, n3, n4, hns⟩ := five (refNums_length s 5)
 rw [hns] at hr hJ
 have d0 := d.ofLe g1
 have L0 := d0.box.vals
 have m1 := new_le g1.wf 5 [I n0, I n1, I n2, I n3, I n4]
 have d1 := d0.ofLe m1
 have L1 := d1.box.vals
 unfold Cfg.vals at L0 L1
 rw [obL_some]
 simp only [L0, L1, Nat.reduceAdd, List.cons_append, List.nil_append, List.getElem?_cons_succ, List.getElem?_cons_zero, obL_some]
 obtain ⟨a0, j0, e0, f0⟩ := ints_elem hr (i := 0) (x := n0) rfl
 obtain ⟨a1, j1, e1, f1⟩ := ints_elem hr (i := 1) (x := n1) rfl
 obtain ⟨a2, j2, e2, f2⟩ := ints_elem hr (i := 2) (x := n2) rfl
 obtain ⟨a3, j3, e3, f3⟩ := ints_elem hr (i := 3) (x := n3) rfl
 obtain ⟨a4, j4, e4, f4⟩ := ints_elem hr (i := 4) (x := n4) rfl
 rw [show elemS 1 (.slice b 5 5) (.int .i64 0) = _ from e0, obA_some, f0, obI_some]
 rw [show elemS 1 (.slice b 5 5) (.int .i64 1) = _ from e1, obA_some, f1, obI_some]
 rw [show elemS 1 (.slice b 5 5) (.int .i64 2) = _ from e2, obA_some, f2, obI_some]
 rw [show elemS 1 (.slice b 5 5) (.int .i64 3) = _ from e3, obA_some, f3, obI_some]
 rw [show elemS 1 (.slice b 5 5) (.int .i64 4) = _ from e4, obA_some, f4, obI_some]
 rw [letH_eq]
 simp only [L1, Nat.reduceAdd, List.cons_append, List.nil_append, List.getElem?_cons_succ, List.getElem?_cons_zero]
 obtain ⟨b', G2, a1, q1, q2, q3⟩ := d1.fade (r := [n0, n1, n2, n3, n4]) rfl hfn (hs := G1.next) fun j _ => by rw [Nat.zero_add, new_load]; rfl
 rw [a1, obG_some]
 obtain ⟨S, t1, t2, t3, _⟩ := q1.put q2.wf (i := 0 + 1 + 18) (ws := [.slice b' (p.fn + 1) (p.fn + 1)]) (us := [I part] ++ (c.vals b' (p.fn + 1) (p.fn + 1) p.tb p.tn p.tk ++ [.slice p.xb p.xn p.xk])) (by simp [Cfg.vals]) (by simp [oneCell]) rfl
 rw [show (0 + 1 + 18 : Nat) = 19 from rfl] at t1
 rw [t1, obH_some, obE1_slice d0.fades.spot]
 rw [m1.load g1.wf f0, obE1_int]
 rw [m1.load g1.wf f1, obE1_int]
 rw [m1.load g1.wf f2, obE1_int]
 rw [m1.load g1.wf f3, obE1_int]
 rw [m1.load g1.wf f4, obE1_int]
 exact hJ _ _ S (q3 S [I part] t2 t3) rfl rfl
theorem case_terminal (hp : Only pm) {s : List UInt8} (hs : s.length ≤ 1000000000) {w : List UInt8} {part : Int} (d : Doc ω H0 G h [I part] c l p) (hfn : p.tn ≤ 1000000000) {Q : Value → AH → Prop}
  (hJ : ∀ ω' p' G', Doc ω' H0 G' h [I 5] (c.addTerm (trmOf (refNums s 12))) l p' → p'.tc = p.tc ++ [TG.zero] → p'.ts = p.ts ++ [TG.zero] → f38J0 (OK pm) Q h 0 (bs s) (bs w) G') :
  OK pm 59 ⟨[.string (bs s), I 12]⟩ G fun v88 H89 =>
  obL (some v88) fun b90 n90 k90 =>
  obL (H89.load h ((0 + 1) + 19)) fun b91 n91 k91 =>
  obA (elemS 1 (.slice b90 n90 k90) (.int .i64 0)) fun h0 i0 =>
  obI .i64 (H89.load h0 i0) fun x0 =>
  obA (elemS 1 (.slice b90 n90 k90) (.int .i64 1)) fun h1 i1 =>
  obI .i64 (H89.load h1 i1) fun x1 =>
  obA (elemS 1 (.slice b90 n90 k90) (.int .i64 2)) fun h2 i2 =>
  obI .i64 (H89.load h2 i2) fun x2 =>
  obA (elemS 1 (.slice b90 n90 k90) (.int .i64 3)) fun h3 i3 =>
  obI .i64 (H89.load h3 i3) fun x3 =>
  obA (elemS 1 (.slice b90 n90 k90) (.int .i64 4)) fun h4 i4 =>
  obI .i64 (H89.load h4 i4) fun x4 =>
  obA (elemS 1 (.slice b90 n90 k90) (.int .i64 5)) fun h5 i5 =>
  obI .i64 (H89.load h5 i5) fun x5 =>
  obA (elemS 1 (.slice b90 n90 k90) (.int .i64 6)) fun h6 i6 =>
  obI .i64 (H89.load h6 i6) fun x6 =>
  obA (elemS 1 (.slice b90 n90 k90) (.int .i64 7)) fun h7 i7 =>
  obI .i64 (H89.load h7 i7) fun x7 =>
  obA (elemS 1 (.slice b90 n90 k90) (.int .i64 8)) fun h8 i8 =>
  obI .i64 (H89.load h8 i8) fun x8 =>
  obA (elemS 1 (.slice b90 n90 k90) (.int .i64 9)) fun h9 i9 =>
  obI .i64 (H89.load h9 i9) fun x9 =>
  obA (elemS 1 (.slice b90 n90 k90) (.int .i64 10)) fun h10 i10 =>
  obI .i64 (H89.load h10 i10) fun x10 =>
  obA (elemS 1 (.slice b90 n90 k90) (.int .i64 11)) fun h11 i11 =>
  obI .i64 (H89.load h11 i11) fun x11 =>
  letH (H89.new 14 [.int .i64 x0, .int .i64 x1, .slice none 0 0, .slice none 0 0, .int .i64 x3, .int .i64 x4, .int .i64 x5, .int .i64 x6, .int .i64 x7, .int .i64 x8, .int .i64 x9, .int .i64 x10, .int .i64 x11, .int .i64 x2]) fun H102 =>
  obG (appendV 14 144 H102 (.slice b91 n91 k91) (.slice (some ⟨H89.next, 0, none⟩) 1 1)) fun b103 n103 k103 H104 =>
  obH (H104.storeN h ((0 + 1) + 19) [.slice b103 n103 k103]) fun H105 =>
  obE1 (H102.load h ((0 + 1) + 19)) (.slice b91 n91 k91) (
  obE1 (H102.load h0 i0) (.int .i64 x0) (
  obE1 (H102.load h1 i1) (.int .i64 x1) (
  obE1 (H102.load h2 i2) (.int .i64 x2) (
  obE1 (H102.load h3 i3) (.int .i64 x3) (
  obE1 (H102.load h4 i4) (.int .i64 x4) (
  obE1 (H102.load h5 i5) (.int .i64 x5) (
  obE1 (H102.load h6 i6) (.int .i64 x6) (
  obE1 (H102.load h7 i7) (.int .i64 x7) (
  obE1 (H102.load h8 i8) (.int .i64 x8) (
  obE1 (H102.load h9 i9) (.int .i64 x9) (
  obE1 (H102.load h10 i10) (.int .i64 x10) (
  obE1 (H102.load h11 i11) (.int .i64 x11) (
  obH (H105.storeN h (0 + 0) [.int .i64 5]) fun H106 =>
  f38J0 (OK pm) Q h 0 (bs s) (bs w) H106))))))))))))) := by
 refine c59 (k := 12) hp hs (by omega) d.le.wf fun G1 b g1 hr hroot => ?_
 obtain ⟨n0, n1, n2, n3, n4, n5, n6, n7, n8, n9, n10, n11, hns⟩ := len_twelve (refNums_length s 12)
 rw [hns] at hr hJ
 have d0 := d.ofLe g1
 have L0 := d0.box.vals
 have m1 := new_le g1.wf 14 ((trmOf [n0, n1, n2, n3, n4, n5, n6, n7, n8, n9, n10, n11]).cells none 0 0 none 0 0)
 have d1 := d0.ofLe m1
 have L1 := d1.box.vals
 unfold Cfg.vals at L0 L1
 simp only [trmOf, Trm.cells] at L1
 rw [obL_some]
 simp only [L0, Nat.reduceAdd, List.cons_append, List.nil_append, List.getElem?_cons_succ, List.getElem?_cons_zero, obL_some]
 obtain ⟨a0, j0, e0, f0⟩ := ints_elem hr (i := 0) (x := n0) rfl
 obtain ⟨a1, j1, e1, f1⟩ := ints_elem hr (i := 1) (x := n1) rfl
 obtain ⟨a2, j2, e2, f2⟩ := ints_elem hr (i := 2) (x := n2) rfl
 obtain ⟨a3, j3, e3, f3⟩ := ints_elem hr (i := 3) (x := n3) rfl
 obtain ⟨a4, j4, e4, f4⟩ := ints_elem hr (i := 4) (x := n4) rfl
 obtain ⟨a5, j5, e5, f5⟩ := ints_elem hr (i := 5) (x := n5) rfl
 obtain ⟨a6, j6, e6, f6⟩ := ints_elem hr (i := 6) (x := n6) rfl
 obtain ⟨a7, j7, e7, f7⟩ := ints_elem hr (i := 7) (x := n7) rfl
 obtain ⟨a8, j8, e8, f8⟩ := ints_elem hr (i := 8) (x := n8) rfl
 obtain ⟨a9, j9, e9, f9⟩ := ints_elem hr (i := 9) (x := n9) rfl
 obtain ⟨a10, j10, e10, f10⟩ := ints_elem hr (i := 10) (x := n10) rfl
 obtain ⟨a11, j11, e11, f11⟩ := ints_elem hr (i := 11) (x := n11) rfl
 rw [show elemS 1 (.slice b 12 12) (.int .i64 0) = _ from e0, obA_some, f0, obI_some]
 rw [show elemS 1 (.slice b 12 12) (.int .i64 1) = _ from e1, obA_some, f1, obI_some]
 rw [show elemS 1 (.slice b 12 12) (.int .i64 2) = _ from e2, obA_some, f2, obI_some]
 rw [show elemS 1 (.slice b 12 12) (.int .i64 3) = _ from e3, obA_some, f3, obI_some]
 rw [show elemS 1 (.slice b 12 12) (.int .i64 4) = _ from e4, obA_some, f4, obI_some]
 rw [show elemS 1 (.slice b 12 12) (.int .i64 5) = _ from e5, obA_some, f5, obI_some]
 rw [show elemS 1 (.slice b 12 12) (.int .i64 6) = _ from e6, obA_some, f6, obI_some]
 rw [show elemS 1 (.slice b 12 12) (.int .i64 7) = _ from e7, obA_some, f7, obI_some]
 rw [show elemS 1 (.slice b 12 12) (.int .i64 8) = _ from e8, obA_some, f8, obI_some]
 rw [show elemS 1 (.slice b 12 12) (.int .i64 9) = _ from e9, obA_some, f9, obI_some]
 rw [show elemS 1 (.slice b 12 12) (.int .i64 10) = _ from e10, obA_some, f10, obI_some]
 rw [show elemS 1 (.slice b 12 12) (.int .i64 11) = _ from e11, obA_some, f11, obI_some]
 rw [letH_eq]
 simp only [L1, Nat.reduceAdd, List.cons_append, List.nil_append, List.getElem?_cons_succ, List.getElem?_cons_zero]
 obtain ⟨b', G2, a1, q1, q2, q3⟩ := d1.term (t := trmOf [n0, n1, n2, n3, n4, n5, n6, n7, n8, n9, n10, n11]) rfl rfl hfn (hs := G1.next) fun j _ => by rw [Nat.zero_add, new_load]
 simp only [trmOf, Trm.cells] at a1
 rw [a1, obG_some]
 obtain ⟨S, t1, t2, t3, _⟩ := q1.put q2.wf (i := 0 + 1 + 19) (ws := [.slice b' (p.tn + 1) (p.tn + 1)]) (us := [I part] ++ (c.vals p.fb p.fn p.fk b' (p.tn + 1) (p.tn + 1) ++ [.slice p.xb p.xn p.xk])) (by simp [Cfg.vals]) (by simp [oneCell]) rfl
 rw [show (0 + 1 + 19 : Nat) = 20 from rfl] at t1
 rw [t1, obH_some, obE1_slice d0.terms.spot]
 have ml : ∀ {a j : Nat} {x : Int}, G1.load a j = some (I x) → (G1.new 14 ((trmOf [n0, n1, n2, n3, n4, n5, n6, n7, n8, n9, n10, n11]).cells none 0 0 none 0 0)).load a j = some (I x) := fun hx => m1.load g1.wf hx
 simp only [trmOf, Trm.cells] at ml
 rw [ml f0, obE1_int]
 rw [ml f1, obE1_int]
 rw [ml f2, obE1_int]
 rw [ml f3, obE1_int]
 rw [ml f4, obE1_int]
 rw [ml f5, obE1_int]
 rw [ml f6, obE1_int]
 rw [ml f7, obE1_int]
 rw [ml f8, obE1_int]
 rw [ml f9, obE1_int]
 rw [ml f10, obE1_int]
 rw [ml f11, obE1_int]
 have d2 := q3 S [I part] t2 t3
 obtain ⟨S2, u1, _, d3⟩ := d2.put (i := 0 + 0) (ws := [I 5]) (pre' := [I 5]) (c' := c.addTerm (trmOf [n0, n1, n2, n3, n4, n5, n6, n7, n8, n9, n10, n11])) (by simp [Cfg.vals]) (by simp [oneCell]) rfl rfl rfl
 rw [show (0 + 0 : Nat) = 0 from rfl] at u1
 rw [u1, obH_some]
 exact hJ _ _ S2 d3 rfl rfl
end
end AM
end Go.Proofs.YtemcmblcogljkaaGreatDoor

