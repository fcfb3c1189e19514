/- The program adds a line. The program reads a text. Both readers make the same of a line. The program reads a text: all lines. -/
import Derived.Test.YtemcmblcogljkaaGreatDoorCi
set_option linter.all false
set_option linter.unusedSimpArgs false
set_option linter.unusedVariables false
namespace Go.Proofs.YtemcmblcogljkaaGreatDoor
namespace AM
open Go
open Go.Lib (decDigits itoa nDigits atoiAll atoiSat)
open TP
theorem cut_word (s : List UInt8) : (Lib.cut s [32]).1 = wordOf s := by
 unfold wordOf
 rcases span_byte 32 s with h | ⟨p, r, rfl, h⟩
 ·rw [cutAt_free s h]
  unfold Lib.cut
  rw [index_free s h]; rfl
 ·rw [cutAt_append p r h]
  unfold Lib.cut
  rw [index_at p r h]
  simp
def partOf (before : Int) : Int := if before ≤ 3 then 4 else if before ≤ 4 then 4 else if before ≤ 6 then 5 else 6
def stepP (before : Int) (c : Cfg) (l : List Pkt) (s : List UInt8) : Option (Int × Cfg × List Pkt) :=
 if wordOf s = wFade ∧ before ≤ 4 then (wholeLine s wFade 5).map fun r => (4, c.addFade r, l)
 else if wordOf s = wTerminal ∧ before ≤ 6 then (wholeLine s wTerminal 12).map fun r => (5, c.addTerm (trmOf r), l)
 else if wordOf s = wBearer ∧ (before = 5 ∨ before = 6) then (wholeLine s wBearer 15).map fun r => (6, c.addBear r, l)
 else if wordOf s = wPacket then (packetLine s wPacket 4).map fun x => (7, c, l ++ [pktIs x.1 x.2])
 else none
section
variable {ω : Nat → Option Comp} {H0 G : AH} {h : Nat} {c : Cfg} {l : List Pkt} {p : Parts} {s : List UInt8} {Q : Value → AH → Prop}
theorem c36 {N : Nat} {before : Int} (d : Doc ω H0 G h [] c l p) (he : p.tc = p.ts) (g : GoodC N (partOf before) c l) (hN : N < 100000000) (hs : s.length ≤ 1000000000)
  (hno : ∀ k G', Le H0 G' → stepP before c l s = none → Q (.tuple ⟨[I k, .bool false]⟩) G')
  (hyes : ∀ q, stepP before c l s = some q → ∀ ω' p' G', Doc ω' H0 G' h [] q.2.1 q.2.2 p' → p'.tc = p'.ts → Q (.tuple ⟨[I q.1, .bool true]⟩) G') :
  OK pmT 36 ⟨[.pointer (some ⟨h, 0, none⟩), .string (bs s), I before]⟩ G Q := by
 apply f36_ok onlyT
 simp only [f36R]
 refine c56 (c := 32) (by omega) ?_
 simp only [tupV_eq, List.getElem?_cons_zero, List.getElem?_cons_succ, obS_some, obB_some]
 rw [cut_word]
 refine c50 onlyT d.le.wf fun G1 g1 => ?_
 simp only [wordV, strs, wordList, List.map_cons, List.map_nil]
 rw [obN8]
 simp only [cellAt_eq, List.getElem?_cons_zero, List.getElem?_cons_succ, obS_some, letH_eq]
 have d1 := d.ofLe g1
 have hw1 := d1.le.wf
 obtain ⟨G2, h1, h2, h3, h4⟩ := over' hw1 (vs := strs wordList) (zs := [.string (bs []), .string (bs []), .string (bs []), .string (bs []), .string (bs []), .string (bs []), .string (bs []), .string (bs [])]) 0 (Keep.refl (new_wf hw1 _ _)) rfl (by simp [strs, wordList, oneCell])
 have h1' : AH.storeN (G1.new 0 [.string (bs []), .string (bs []), .string (bs []), .string (bs []), .string (bs []), .string (bs []), .string (bs []), .string (bs [])]) G1.next 0 [.string (bs wNetwork), .string (bs wPatience), .string (bs wRule), .string (bs wOuter), .string (bs wFade), .string (bs wTerminal), .string (bs wBearer), .string (bs wPacket)] = some G2 := h1
 rw [h1', obH_some]
 have g2 : Le G1 G2 := Keep.trans (new_le hw1 0 [.string (bs []), .string (bs []), .string (bs []), .string (bs []), .string (bs []), .string (bs []), .string (bs []), .string (bs [])]) h2 fun g hg e => by omega
 have d2 := d1.ofLe g2
 have el : ∀ i : Nat, i < 8 → elemA 1 8 (.pointer (some ⟨G1.next, 0, none⟩)) (.int .i64 (i : Int)) = some (.pointer (some ⟨G1.next, i, none⟩)) := fun i hi => by
  simp only [elemA, decide_eq_true (show (0 : Int) ≤ (i : Int) by omega), decide_eq_true (show (i : Int) < (8 : Nat) by omega), Bool.and_self, Int.toNat_natCast, Nat.mul_one, Nat.zero_add]
 have e4 : elemA 1 8 (.pointer (some ⟨G1.next, 0, none⟩)) (.int .i64 4) = some (.pointer (some ⟨G1.next, 4, none⟩)) := el 4 (by omega)
 have e5 : elemA 1 8 (.pointer (some ⟨G1.next, 0, none⟩)) (.int .i64 5) = some (.pointer (some ⟨G1.next, 5, none⟩)) := el 5 (by omega)
 have e6 : elemA 1 8 (.pointer (some ⟨G1.next, 0, none⟩)) (.int .i64 6) = some (.pointer (some ⟨G1.next, 6, none⟩)) := el 6 (by omega)
 have e7 : elemA 1 8 (.pointer (some ⟨G1.next, 0, none⟩)) (.int .i64 7) = some (.pointer (some ⟨G1.next, 7, none⟩)) := el 7 (by omega)
 have l4 := h3 4
 have l5 := h3 5
 have l6 := h3 6
 have l7 := h3 7
 simp only [strs, wordList, List.map_cons, List.map_nil, List.getElem?_cons_zero, List.getElem?_cons_succ] at l4 l5 l6 l7
 have hlen := g.len
 rw [textOf_lines] at hlen
 have hfn : p.fn = c.fades.length := by have := (d.rdF g.sh).1; simpa [recs] using this
 have htn : p.tn = c.terms.length := (d.rdT he g.sh).1
 have hxn : p.xn = l.length := d.rdX.1
 have hft := flat_terms c.terms
 have hcmp : ∀ u : List UInt8, ((bs (wordOf s)).data.toList == (bs u).data.toList) = decide (wordOf s = u) := fun u => by rw [bs_list, bs_list, Bool.eq_iff_iff]; simp
 unfold stepP at hno hyes
 have bye : ∀ {word : List UInt8} {k : Nat} {f : List Int → Int × Cfg × List Pkt}, wholeLine s word k = none → (wholeLine s word k).map f = none := fun h => by rw [h]; rfl
 generalize hwd : wordOf s = w at *
 -- fades
 have j1 : ∀ K : Bool → AH → Prop, join2 (fun J => obA (elemA 1 8 (.pointer (some ⟨G1.next, 0, none⟩)) (.int .i64 4)) fun a i => obS (G2.load a i) fun t => ifB ((bs w).data.toList == t.data.toList) (J (decide (before ≤ 4)) G2) (J false G2)) K = K (decide (w = wFade ∧ before ≤ 4)) G2 := fun K => by
  simp only [join2, e4, obA_some, l4, obS_some, hcmp]
  by_cases hw' : w = wFade
  ·simp [hw', ifB]
  ·simp [hw', ifB]
 rw [j1]
 refine ifB_intro (fun hc => ?_) (fun hc => ?_)
 ·have hc : w = wFade ∧ before ≤ 4 := of_decide_eq_true hc
  rw [if_pos hc] at hno hyes
  refine pa_fade d2 hs (by omega) fun r ok ω' p' G' a1 a2 d' b1 b2 => ?_
  cases ok with
  | true => exact hyes _ (by rw [a1 rfl]; rfl) ω' p' G' d' (by rw [b1, b2, he])
  | false => exact hno 4 G' d'.le (bye (a2 rfl))
 have hc := of_decide_eq_false hc
 rw [if_neg hc] at hno hyes
 -- terminals
 have j2 : ∀ K : Bool → AH → Prop, join2 (fun J => obA (elemA 1 8 (.pointer (some ⟨G1.next, 0, none⟩)) (.int .i64 5)) fun a i => obS (G2.load a i) fun t => ifB ((bs w).data.toList == t.data.toList) (J (decide (before ≤ 6)) G2) (J false G2)) K = K (decide (w = wTerminal ∧ before ≤ 6)) G2 := fun K => by
  simp only [join2, e5, obA_some, l5, obS_some, hcmp]
  by_cases hw' : w = wTerminal
  ·simp [hw', ifB]
  ·simp [hw', ifB]
 rw [j2]
 refine ifB_intro (fun hc => ?_) (fun hc => ?_)
 ·have hc : w = wTerminal ∧ before ≤ 6 := of_decide_eq_true hc
  rw [if_pos hc] at hno hyes
  refine pa_term d2 hs (by omega) fun r ok ω' p' G' _ a1 a2 d' b1 b2 => ?_
  cases ok with
  | true => exact hyes _ (by rw [a1 rfl]; rfl) ω' p' G' d' (by rw [b1, b2, he])
  | false => exact hno 5 G' d'.le (bye (a2 rfl))
 have hc := of_decide_eq_false hc
 rw [if_neg hc] at hno hyes
 -- bearers
 have j3 : ∀ K : Bool → AH → Prop, join2 (fun J => obA (elemA 1 8 (.pointer (some ⟨G1.next, 0, none⟩)) (.int .i64 6)) fun a i => obS (G2.load a i) fun t => ifB ((bs w).data.toList == t.data.toList) (ifB (before == 5) (J true G2) (J (before == 6) G2)) (J false G2)) K = K (decide (w = wBearer ∧ (before = 5 ∨ before = 6))) G2 := fun K => by
  simp only [join2, e6, obA_some, l6, obS_some, hcmp]
  by_cases hw' : w = wBearer
  ·by_cases h5 : before = 5
   ·simp [hw', h5, ifB]
   ·rw [show (before == 5) = false by simpa using h5]
    rw [show decide (w = wBearer ∧ (before = 5 ∨ before = 6)) = (before == 6) by rw [Bool.eq_iff_iff]; simp [hw', h5], decide_eq_true hw']
    rfl
  ·simp [hw', ifB]
 rw [j3]
 refine ifB_intro (fun hc => ?_) (fun hc => ?_)
 ·have hc : w = wBearer ∧ (before = 5 ∨ before = 6) := of_decide_eq_true hc
  rw [if_pos hc] at hno hyes
  have hp5 : partOf before = 5 := by unfold partOf; rw [if_neg (by omega), if_neg (by omega), if_pos (by omega)]
  have hpos : 0 < c.terms.length := List.length_pos_iff.2 (g.t5 hp5)
  obtain ⟨t, ht⟩ : ∃ t, c.terms[c.terms.length - 1]? = some t := ⟨_, List.getElem?_eq_getElem (by omega)⟩
  obtain ⟨tg, htg⟩ : ∃ tg, p.tc[c.terms.length - 1]? = some tg := ⟨_, List.getElem?_eq_getElem (by have := d.tcl; omega)⟩
  have htm := List.mem_of_getElem? ht
  have h1 := (d.bears _ t tg ht (by rw [← he]; exact htg)).sli.len
  have h2 := (d.bucks _ t tg ht (by rw [← he]; exact htg)).sli.len
  have e1 := flat_len (L := recs t.bears) (sz := 11) fun r hr => by obtain ⟨q, hq, rfl⟩ := List.mem_map.1 hr; simpa using (g.sh.2 t htm).1 q hq
  have e2 := flat_len (L := recs t.bucks) (sz := 4) fun r hr => by obtain ⟨q, hq, rfl⟩ := List.mem_map.1 hr; simpa using (g.sh.2 t htm).2 q hq
  have hm := flat_mem htm
  have hq := g.eq t htm
  simp only [recs, List.length_map] at e1 e2
  rw [recs, e1] at h1
  rw [recs, e2] at h2
  refine pa_bear d2 hs he ht htg (by omega) (by omega) (by omega) fun r ok ω' p' G' _ a1 a2 d' b1 => ?_
  cases ok with
  | true => exact hyes _ (by rw [a1 rfl]; rfl) ω' p' G' d' b1
  | false => exact hno 6 G' d'.le (bye (a2 rfl))
 have hc := of_decide_eq_false hc
 rw [if_neg hc] at hno hyes
 -- packets
 rw [e7, obA_some, l7, obS_some, hcmp]
 refine ifB_intro (fun hc => ?_) (fun hc => ?_)
 ·have hc : w = wPacket := of_decide_eq_true hc
  rw [if_pos hc] at hno hyes
  refine pa_pkt d2 hs (by omega) (fun G' g' a => hno 0 G' g' (by rw [a]; rfl)) fun r dat ω' p' G' a d' b1 b2 => ?_
  exact hyes _ (by rw [a]; rfl) ω' p' G' d' (by rw [b1, b2, he])
 ·have hc := of_decide_eq_false hc
  rw [if_neg hc] at hno hyes
  exact hno 0 G2 d2.le rfl
end
end AM
end Go.Proofs.YtemcmblcogljkaaGreatDoor

namespace Go.Proofs.YtemcmblcogljkaaGreatDoor
namespace AM
open Go
open Go.Lib (decDigits itoa nDigits atoiAll atoiSat)
open TP
def headN : Nat → Nat | 0 => 9 | 1 => 3 | 2 => 3 | _ => 2
def headAt : Nat → Nat | 0 => 0 | 1 => 9 | 2 => 12 | _ => 16
def headW : Nat → List UInt8 | 0 => wNetwork | 1 => wPatience | 2 => wRule | _ => wOuter
def Cfg.setH (k : Nat) (c : Cfg) (r : List Int) : Cfg := match k with | 0 => c.set1 r | 1 => c.set2 r | 2 => c.set3 r | _ => c.set4 r
def Cfg.clear (k : Nat) (c : Cfg) : Prop := ∀ j, k ≤ j → j ≤ 3 → c.setH j (List.replicate (headN j) 0) = c
theorem clear_zero : Cfg.zero.clear 0 := fun j _ hj => by
 match j, hj with
 | 0, _ | 1, _ | 2, _ | 3, _ => rfl
theorem setH_comm {c : Cfg} {j k : Nat} (hj : j ≤ 3) (hk : k ≤ 3) (hne : j ≠ k) {r q : List Int} (hr : r.length = headN j) (hq : q.length = headN k) : (c.setH j r).setH k q = (c.setH k q).setH j r := by
 match j, hj, k, hk, hne, hr, hq with
 | 0, _, 1, _, _, hr, hq => obtain ⟨_, _, _, _, _, _, _, _, _, rfl⟩ := len_nine hr; obtain ⟨_, _, _, rfl⟩ := len_three hq; rfl
 | 0, _, 2, _, _, hr, hq => obtain ⟨_, _, _, _, _, _, _, _, _, rfl⟩ := len_nine hr; obtain ⟨_, _, _, rfl⟩ := len_three hq; rfl
 | 0, _, 3, _, _, hr, hq => obtain ⟨_, _, _, _, _, _, _, _, _, rfl⟩ := len_nine hr; obtain ⟨_, _, rfl⟩ := len_two hq; rfl
 | 1, _, 0, _, _, hr, hq => obtain ⟨_, _, _, rfl⟩ := len_three hr; obtain ⟨_, _, _, _, _, _, _, _, _, rfl⟩ := len_nine hq; rfl
 | 1, _, 2, _, _, hr, hq => obtain ⟨_, _, _, rfl⟩ := len_three hr; obtain ⟨_, _, _, rfl⟩ := len_three hq; rfl
 | 1, _, 3, _, _, hr, hq => obtain ⟨_, _, _, rfl⟩ := len_three hr; obtain ⟨_, _, rfl⟩ := len_two hq; rfl
 | 2, _, 0, _, _, hr, hq => obtain ⟨_, _, _, rfl⟩ := len_three hr; obtain ⟨_, _, _, _, _, _, _, _, _, rfl⟩ := len_nine hq; rfl
 | 2, _, 1, _, _, hr, hq => obtain ⟨_, _, _, rfl⟩ := len_three hr; obtain ⟨_, _, _, rfl⟩ := len_three hq; rfl
 | 2, _, 3, _, _, hr, hq => obtain ⟨_, _, _, rfl⟩ := len_three hr; obtain ⟨_, _, rfl⟩ := len_two hq; rfl
 | 3, _, 0, _, _, hr, hq => obtain ⟨_, _, rfl⟩ := len_two hr; obtain ⟨_, _, _, _, _, _, _, _, _, rfl⟩ := len_nine hq; rfl
 | 3, _, 1, _, _, hr, hq => obtain ⟨_, _, rfl⟩ := len_two hr; obtain ⟨_, _, _, rfl⟩ := len_three hq; rfl
 | 3, _, 2, _, _, hr, hq => obtain ⟨_, _, rfl⟩ := len_two hr; obtain ⟨_, _, _, rfl⟩ := len_three hq; rfl
 | 3, _, k + 3, h, hne, _, _ => exfalso; omega
theorem Cfg.clear.set {c : Cfg} {k : Nat} (h : c.clear k) (hk : k ≤ 3) {r : List Int} (hr : r.length = headN k) : (c.setH k r).clear (k + 1) := fun j h1 h2 => by
 rw [setH_comm hk h2 (by omega) hr (by simp), h j (by omega) h2]
theorem setH_ft (k : Nat) (c : Cfg) (r : List Int) : (c.setH k r).fades = c.fades ∧ (c.setH k r).terms = c.terms := by
 unfold Cfg.setH
 split
 ·unfold Cfg.set1; split <;> exact ⟨rfl, rfl⟩
 ·unfold Cfg.set2; split <;> exact ⟨rfl, rfl⟩
 ·unfold Cfg.set3; split <;> exact ⟨rfl, rfl⟩
 ·unfold Cfg.set4; split <;> exact ⟨rfl, rfl⟩
theorem setH_put {k i : Nat} (hk : k ≤ 3) (hi : i < headN k) {c : Cfg} {r : List Int} (hr : r.length = headN k) (x : Int) (fb : Option Addr) (fn fk : Nat) (tb : Option Addr) (tn tk : Nat) (z : Value) :
  ((c.setH k r).vals fb fn fk tb tn tk ++ [z]).set (headAt k + i) (I x) = (c.setH k (r.set i x)).vals fb fn fk tb tn tk ++ [z] := by
 match k, hk, hi, hr with
 | 0, _, hi, hr =>
  obtain ⟨_, _, _, _, _, _, _, _, _, rfl⟩ := len_nine hr
  match i, hi with
  | 0, _ | 1, _ | 2, _ | 3, _ | 4, _ | 5, _ | 6, _ | 7, _ | 8, _ => rfl
 | 1, _, hi, hr =>
  obtain ⟨_, _, _, rfl⟩ := len_three hr
  match i, hi with
  | 0, _ | 1, _ | 2, _ => rfl
 | 2, _, hi, hr =>
  obtain ⟨_, _, _, rfl⟩ := len_three hr
  match i, hi with
  | 0, _ | 1, _ | 2, _ => rfl
 | 3, _, hi, hr =>
  obtain ⟨_, _, rfl⟩ := len_two hr
  match i, hi with
  | 0, _ | 1, _ => rfl
theorem headAt_le {k i : Nat} (hi : i < headN k) : headAt k + i < 20 := by
 match k, hi with
 | 0, hi | 1, hi | 2, hi | k + 3, hi => simp only [headN, headAt] at hi ⊢; omega
section
variable {ω : Nat → Option Comp} {H0 G : AH} {h : Nat} {c : Cfg} {l : List Pkt} {p : Parts} {s : List UInt8} {Q : Value → AH → Prop}
theorem pa_head {k : Nat} (hk : k ≤ 3) (d : Doc ω H0 G h [] c l p) (hc : c.clear k) (hs : s.length ≤ 1000000000)
  (hQ : ∀ r ok G', r.length = headN k → (ok = true → wholeLine s (headW k) (headN k) = some r) → (ok = false → wholeLine s (headW k) (headN k) = none) → Doc ω H0 G' h [] (c.setH k r) l p → Q (.bool ok) G') :
  OK pmT 27 ⟨[.pointer (some ⟨h, 0, none⟩), I k]⟩ G fun v3 H4 =>
   obL (some v3) fun b5 n5 k5 =>
   OK pmT 35 ⟨[.string (bs s), I k, .slice b5 n5 k5]⟩ H4 Q := by
 have hw := d.le.wf
 refine c27 onlyT hk fun i n hin => ?_
 have hi : i = headAt k ∧ n = headN k := by
  rcases hin with ⟨rfl, rfl, rfl⟩ | ⟨rfl, rfl, rfl⟩ | ⟨rfl, rfl, rfl⟩ | ⟨rfl, rfl, rfl⟩ <;> exact ⟨rfl, rfl⟩
 obtain ⟨rfl, rfl⟩ := hi
 have hlt := d.box.own.lt hw
 have m1 := new_le hw 1 (ptrV (at1 h (headAt k) (headN k)))
 have hl : (at1 h (headAt k) (headN k)).length = headN k := by simp [at1]
 have hword : wordList[k]? = some (headW k) := by
  match k, hk with
  | 0, _ | 1, _ | 2, _ | 3, _ => rfl
 have hm : headN k ≤ 1000 := by
  match k, hk with
  | 0, _ | 1, _ | 2, _ | 3, _ => simp [headN]
 rw [obL_some]
 refine c35S (S := fun r G' => Keep (fun g => g = h) (G.new 1 (ptrV (at1 h (headAt k) (headN k)))) G' ∧ Doc ω H0 G' h [] (c.setH k r) l p) (F := fun g => g = h) (ptrs := at1 h (headAt k) (headN k)) m1.wf hs hm hword
  ⟨Keep.refl m1.wf, by rw [hc k (Nat.le_refl _) hk]; exact d.ofLe m1⟩ (fun r G1 G2 h1 hw1 hl => ⟨Keep.trans h1.1 hl fun _ _ hh => hh.elim, h1.2.ofLe hl⟩)
  (fun r G1 h1 => ?_) (fun r G1 i x h1 hw1 hr hi => ?_) (fun g e => by rw [new_next]; omega) fun r G1 ok hr h1 hk1 a1 a2 => hQ r ok G1 hr a1 a2 h1.2
 ·have := ptr_keep hw hlt _ h1.1
  rw [hl] at this
  exact this
 ·have hft := setH_ft k c r
  have hft2 := setH_ft k c (r.set i x)
  have hle := headAt_le hi
  obtain ⟨G2, b1, b2, b3⟩ := h1.2.put (i := headAt k + i) (ws := [I x]) (pre' := []) (c' := c.setH k (r.set i x)) (by simp [Cfg.vals]; omega) (by simp [oneCell]) (by
   rw [List.nil_append, List.nil_append, ← setH_put hk hi hr, List.set_eq_take_append_cons_drop, if_pos (by simp [Cfg.vals]; omega)]
   simp) (by rw [hft.1, hft2.1]) (by rw [hft.2, hft2.2])
  exact ⟨(h, headAt k + i), G2, at1_get _ _ _ _ hi, b1, ⟨Keep.trans h1.1 b2 fun _ _ hh => hh, b3⟩, b2⟩
end
def lineP (i : Nat) (before : Int) (c : Cfg) (l : List Pkt) (s : List UInt8) : Option (Int × Cfg × List Pkt) :=
 if i ≤ 3 then (wholeLine s (headW i) (headN i)).map fun r => (3, c.setH i r, l) else stepP before c l s
def progGo : Nat → List (List UInt8) → Int → Cfg → List Pkt → Sum Nat (Int × Cfg × List Pkt)
 | _, [], before, c, l => .inr (before, c, l)
 | i, s :: r, before, c, l => match lineP i before c l s with
  | none => .inl (i + 1)
  | some q => progGo (i + 1) r q.1 q.2.1 q.2.2
def progAns (L : List (List UInt8)) : Ans :=
 match progGo 0 L.dropLast 3 Cfg.zero [] with
 | .inl n => .bad n 66
 | .inr q =>
  if L.getLastD [] ≠ [] then .bad L.length 66
  else if L.length - 1 ≤ 3 then .bad (max (L.length - 1) 1) 66
  else if errAll q.2.1 q.2.2 ≠ 0 then .bad 0 (errAll q.2.1 q.2.2) else ⟨q.2.1, q.2.2, 0, 0⟩
def progParse (s : List UInt8) : Ans := progAns (cutAt 10 s)
def partAt (i : Nat) (before : Int) : Int := if i ≤ 3 then i else partOf before
end AM
end Go.Proofs.YtemcmblcogljkaaGreatDoor

namespace Go.Proofs.YtemcmblcogljkaaGreatDoor
namespace AM
open Go
open Go.Lib (decDigits itoa nDigits atoiAll atoiSat)
open TP
theorem wordOf_line {word : List UInt8} (hw : (32 : UInt8) ∉ word) (ns : List Int) : wordOf (lineOf word ns) = word := by
 unfold wordOf
 rw [show lineOf word ns = word ++ (ns.map itoa).flatMap fun q => 32 :: q by simp [lineOf, spaced, List.flatMap_map], cutAt_of_join word _ hw fun q hq => by
  obtain ⟨n, _, rfl⟩ := List.mem_map.1 hq; exact itoa_no_space n]
 rfl
structure InvC (i : Nat) (before : Int) (c : Cfg) (l : List Pkt) : Prop where
 first : i ≤ 3 → before = 3 ∧ c.fades = [] ∧ c.terms = [] ∧ l = []
 lo : 3 ≤ before
 hi : before ≤ 7
 b4 : before ≤ 4 → c.terms = []
 b6 : before ≤ 6 → l = []
theorem inv_zero : InvC 0 3 Cfg.zero [] := ⟨fun _ => ⟨rfl, rfl, rfl, rfl⟩, by omega, by omega, fun _ => rfl, fun _ => rfl⟩
theorem heads_set {k : Nat} (hk : k ≤ 3) (c : Cfg) {r : List Int} (hr : r.length = headN k) : (c.setH k r).heads[k]? = some (lineOf (headW k) r) := by
 match k, hk, hr with
 | 0, _, hr => obtain ⟨_, _, _, _, _, _, _, _, _, rfl⟩ := len_nine hr; rfl
 | 1, _, hr => obtain ⟨_, _, _, rfl⟩ := len_three hr; rfl
 | 2, _, hr => obtain ⟨_, _, _, rfl⟩ := len_three hr; rfl
 | 3, _, hr => obtain ⟨_, _, rfl⟩ := len_two hr; rfl
theorem headW_ok {k : Nat} : (32 : UInt8) ∉ headW k ∧ headW k ≠ wPacket := by
 match k with
 | 0 | 1 | 2 => exact ⟨(by decide), (by decide)⟩
 | k + 3 => exact ⟨(by show (32 : UInt8) ∉ wOuter; decide), (by show wOuter ≠ wPacket; decide)⟩
theorem text_head (c : Cfg) (l : List Pkt) {k : Nat} (hk : k ≤ 3) : (textOf c l)[k]? = c.heads[k]? := by
 unfold textOf
 have : c.heads.length = 4 := rfl
 rw [List.getElem?_append_left (by simp; omega), List.getElem?_append_left (by simp; omega), List.getElem?_append_left (by omega)]
theorem stepS_head {k : Nat} (hk : k ≤ 3) (c : Cfg) (l : List Pkt) (s w : List UInt8) : stepS (k : Int) c l s w = if w = headW k then some (((k + 1 : Nat) : Int), c.setH k (refNums s (headN k)), l) else none := by
 match k, hk with
 | 0, _ => simp [stepS, headW, Cfg.setH, headN]
 | 1, _ => simp [stepS, headW, Cfg.setH, headN]
 | 2, _ => simp [stepS, headW, Cfg.setH, headN]
 | 3, _ => simp [stepS, headW, Cfg.setH, headN]
theorem ok_head {k : Nat} (hk : k ≤ 3) {c : Cfg} {l : List Pkt} (s : List UInt8) (hf : c.fades = []) (ht : c.terms = []) (hl : l = []) :
  okLine ((k + 1 : Nat) : Int) (c.setH k (refNums s (headN k))) l s (headW k) = (some (lineOf (headW k) (refNums s (headN k))) == some s) := by
 unfold okLine
 rw [if_neg headW_ok.2, ← heads_set hk c (refNums_length s (headN k)), ← text_head _ l hk]
 split
 ·rw [show (((k + 1 : Nat) : Int) - 1).toNat = k by omega]
 ·have hk3 : k = 3 := by omega
  subst hk3
  have : (textOf (c.setH 3 (refNums s (headN 3))) l).length = 4 := by
   rw [textOf_lines, (setH_ft _ _ _).1, (setH_ft _ _ _).2, hf, ht, hl]; rfl
  rw [this]
  rfl
theorem okIff {word : List UInt8} (hw : (32 : UInt8) ∉ word) (s : List UInt8) (k : Nat) : wholeLine s word k = if (some (lineOf word (refNums s k)) == some s) = true then some (refNums s k) else none := by
 rw [whole_iff hw]; simp
def Same (i : Nat) (before : Int) (c : Cfg) (l : List Pkt) (s : List UInt8) : Prop :=
 (∀ q, lineP i before c l s = some q → ∃ q1, stepS (partAt i before) c l s (wordOf s) = some (q1, q.2.1, q.2.2) ∧ okLine q1 q.2.1 q.2.2 s (wordOf s) = true ∧ q1 = partAt (i + 1) q.1 ∧ InvC (i + 1) q.1 q.2.1 q.2.2) ∧
 (lineP i before c l s = none → ∀ q, stepS (partAt i before) c l s (wordOf s) = some q → okLine q.1 q.2.1 q.2.2 s (wordOf s) = false)
theorem same_head {i : Nat} (hi : i ≤ 3) {before : Int} {c : Cfg} {l : List Pkt} (s : List UInt8) (inv : InvC i before c l) : Same i before c l s := by
 obtain ⟨hb, hf, ht, hl⟩ := inv.first hi
 have hp : partAt i before = (i : Int) := by unfold partAt; rw [if_pos hi]
 have hq : partAt (i + 1) 3 = ((i + 1 : Nat) : Int) := by
  unfold partAt partOf
  split
  ·rfl
  ·rw [if_pos (by omega)]; omega
 have hft := setH_ft i c (refNums s (headN i))
 unfold Same lineP
 rw [hp, stepS_head hi, if_pos hi, okIff headW_ok.1]
 have hok := ok_head hi s hf ht hl
 refine ⟨fun q h => ?_, fun h q hq' => ?_⟩
 ·split at h
  ·rename_i he
   simp only [Option.map_some, Option.some.injEq] at h
   subst h
   have hw : wordOf s = headW i := by
    have := eq_of_beq he
    injection this with this
    rw [← this, wordOf_line headW_ok.1]
   refine ⟨((i + 1 : Nat) : Int), by rw [if_pos hw], by rw [hw, hok, he], hq.symm, ⟨fun _ => ⟨rfl, by rw [hft.1, hf], by rw [hft.2, ht], hl⟩, by omega, by omega, fun _ => by rw [hft.2, ht], fun _ => hl⟩⟩
  ·cases h
 ·split at h
  ·cases h
  ·rename_i he
   split at hq'
   ·rename_i hw
    injection hq' with hq'; subst hq'
    rw [hw, hok]; simpa using he
   ·cases hq'
theorem part_gt {i : Nat} (hi : 3 < i) (before : Int) : partAt i before = partOf before := by unfold partAt; rw [if_neg (by omega)]
theorem text_last (c : Cfg) (l : List Pkt) : max ((textOf c l).length - 1) 3 = (textOf c l).length - 1 := by have := textOf_len c l; omega
theorem last_of {L : List (List UInt8)} (q : List UInt8) {M : List (List UInt8)} (h : M = L ++ [q]) : M[M.length - 1]? = some q := by
 subst h
 simp
theorem last_fade {c : Cfg} (ht : c.terms = []) (r : List Int) : (textOf (c.addFade r) [])[(textOf (c.addFade r) []).length - 1]? = some (lineOf wFade r) := by
 refine last_of _ (L := c.heads ++ c.fades.map (lineOf wFade)) ?_
 simp [textOf, Cfg.addFade, ht, Cfg.heads]
theorem last_term (c : Cfg) {r : List Int} (hr : r.length = 12) : (textOf (c.addTerm (trmOf r)) [])[(textOf (c.addTerm (trmOf r)) []).length - 1]? = some (lineOf wTerminal r) := by
 obtain ⟨_, _, _, _, _, _, _, _, _, _, _, _, rfl⟩ := len_twelve hr
 refine last_of _ (L := c.heads ++ c.fades.map (lineOf wFade) ++ c.terms.flatMap Trm.lines) ?_
 simp [textOf, Cfg.addTerm, Cfg.heads, Trm.lines, trmOf, Trm.nums]
theorem last_pkt (c : Cfg) (l : List Pkt) (x : Pkt) : (textOf c (l ++ [x]))[(textOf c (l ++ [x])).length - 1]? = some x.line := by
 refine last_of _ (L := textOf c l) ?_
 simp [textOf]
theorem last_bear {c : Cfg} {t : Trm} (hi : c.terms[c.terms.length - 1]? = some t) (heq : t.bucks.length = t.bears.length) {r : List Int} (hr : r.length = 15) : (textOf (c.addBear r) [])[(textOf (c.addBear r) []).length - 1]? = some (lineOf wBearer r) := by
 have hlen := (List.getElem?_eq_some_iff.1 hi).1
 have e : c.addBear r = { c with terms := c.terms.set (c.terms.length - 1) { t with bears := t.bears ++ [r.take 11], bucks := t.bucks ++ [r.drop 11] } } := by rw [Cfg.addBear, hi]
 have hset : c.terms.set (c.terms.length - 1) { t with bears := t.bears ++ [r.take 11], bucks := t.bucks ++ [r.drop 11] } = c.terms.take (c.terms.length - 1) ++ [{ t with bears := t.bears ++ [r.take 11], bucks := t.bucks ++ [r.drop 11] }] := by
  have hd : c.terms.drop (c.terms.length - 1 + 1) = [] := List.drop_eq_nil_of_le (by omega)
  rw [List.set_eq_take_append_cons_drop, if_pos hlen, hd]
 have hl : ∀ u : Trm, u = { t with bears := t.bears ++ [r.take 11], bucks := t.bucks ++ [r.drop 11] } → ∃ L, u.lines = L ++ [lineOf wBearer r] := fun u hu => by
  subst hu
  refine ⟨lineOf wTerminal t.nums :: (List.range t.bears.length).map (Trm.bear { t with bears := t.bears ++ [r.take 11], bucks := t.bucks ++ [r.drop 11] }), ?_⟩
  have a1 : (t.bears ++ [r.take 11]).getD t.bears.length [] = r.take 11 := by simp [List.getD_eq_getElem?_getD]
  have a2 : (t.bucks ++ [r.drop 11]).getD t.bears.length [0, 0, 0, 0] = r.drop 11 := by rw [← heq]; simp [List.getD_eq_getElem?_getD]
  have a3 : Trm.bear { t with bears := t.bears ++ [r.take 11], bucks := t.bucks ++ [r.drop 11] } t.bears.length = lineOf wBearer r := by
   unfold Trm.bear
   rw [a1, a2, List.take_append_drop]
  unfold Trm.lines
  simp only [List.length_append, List.length_cons, List.length_nil, Nat.zero_add, List.range_succ, List.map_append, List.map_cons, List.map_nil, List.cons_append, a3]
  rfl
 obtain ⟨L, hL⟩ := hl _ rfl
 refine last_of _ (L := c.heads ++ c.fades.map (lineOf wFade) ++ (c.terms.take (c.terms.length - 1)).flatMap Trm.lines ++ L) ?_
 rw [e]
 simp only [textOf, hset, List.flatMap_append, List.flatMap_cons, List.flatMap_nil, List.append_nil, hL, List.map_nil, Cfg.heads, List.append_assoc]
theorem ok_plain {part : Int} {c : Cfg} {l : List Pkt} {s w q : List UInt8} (hw : w ≠ wPacket) (hp : 4 ≤ part) (hl : (textOf c l)[(textOf c l).length - 1]? = some q) : okLine part c l s w = (some q == some s) := by
 unfold okLine
 rw [if_neg hw, if_neg (by omega), text_last, hl]
theorem same_rest {i : Nat} (hi : 3 < i) {before : Int} {c : Cfg} {l : List Pkt} (s : List UInt8) (inv : InvC i before c l) (heq : ∀ t ∈ c.terms, t.bucks.length = t.bears.length) (h5 : partOf before = 5 → c.terms ≠ []) : Same i before c l s := by
 have hlo := inv.lo
 have hhi := inv.hi
 unfold Same lineP
 rw [part_gt hi, if_neg (show ¬ i ≤ 3 by omega)]
 have q0 : ∀ q : Int, partAt (i + 1) q = partOf q := fun q => part_gt (by omega) q
 have nf : wNetwork ≠ wPacket := by decide
 unfold stepP stepS
 by_cases hf : wordOf s = wFade ∧ before ≤ 4
 ·obtain ⟨hw, hb⟩ := hf
  have hp : partOf before = 4 := by unfold partOf; split <;> simp [hb]
  have ht := inv.b4 hb
  have hl := inv.b6 (by omega)
  subst hl
  rw [if_pos ⟨hw, hb⟩, hp, hw, if_neg (by simp), if_neg (by simp), if_neg (by simp), if_neg (by simp), if_pos ⟨rfl, rfl⟩, okIff (by decide)]
  have hok := ok_plain (part := 4) (s := s) (w := wFade) (by decide) (by omega) (last_fade ht (refNums s 5))
  refine ⟨fun q h => ?_, fun h q hq' => ?_⟩
  ·split at h
   ·rename_i he
    simp only [Option.map_some, Option.some.injEq] at h
    subst h
    exact ⟨4, rfl, by rw [hok, he], by rw [q0]; rfl, ⟨fun h => by omega, by simp, by simp, fun _ => ht, fun _ => rfl⟩⟩
   ·cases h
  ·split at h
   ·cases h
   ·rename_i he
    injection hq' with hq'; subst hq'
    rw [hok]; simpa using he
 by_cases hT : wordOf s = wTerminal ∧ before ≤ 6
 ·obtain ⟨hw, hb⟩ := hT
  have hp : partOf before = 4 ∨ partOf before = 5 := by
   unfold partOf
   rw [if_pos hb]
   by_cases h3 : before ≤ 3
   ·rw [if_pos h3]; exact .inl rfl
   ·rw [if_neg h3]
    by_cases h4 : before ≤ 4
    ·rw [if_pos h4]; exact .inl rfl
    ·rw [if_neg h4]; exact .inr rfl
  have hl := inv.b6 hb
  subst hl
  have n1 : ¬ (wTerminal = wFade ∧ before ≤ 4) := fun h => absurd h.1 (by decide)
  have n2 : ¬ (partOf before = 4 ∧ wTerminal = wFade) := fun h => absurd h.2 (by decide)
  rw [hw, if_neg n1, if_pos ⟨rfl, hb⟩, if_neg (by omega), if_neg (by omega), if_neg (by omega), if_neg (by omega), if_neg n2, if_pos ⟨hp, rfl⟩, okIff (by decide)]
  have hok := ok_plain (part := 5) (s := s) (w := wTerminal) (by decide) (by omega) (last_term c (refNums_length s 12))
  refine ⟨fun q h => ?_, fun h q hq' => ?_⟩
  ·split at h
   ·rename_i he
    simp only [Option.map_some, Option.some.injEq] at h
    subst h
    exact ⟨5, rfl, by rw [hok, he], by rw [q0]; rfl, ⟨fun h => by omega, by simp, by simp, fun h => by simp at h, fun _ => rfl⟩⟩
   ·cases h
  ·split at h
   ·cases h
   ·rename_i he
    injection hq' with hq'; subst hq'
    rw [hok]; simpa using he
 by_cases hB : wordOf s = wBearer ∧ (before = 5 ∨ before = 6)
 ·obtain ⟨hw, hb⟩ := hB
  have hp : partOf before = 5 := by unfold partOf; rw [if_neg (by omega), if_neg (by omega), if_pos (by omega)]
  have hl := inv.b6 (by omega)
  subst hl
  have hpos : 0 < c.terms.length := List.length_pos_iff.2 (h5 hp)
  obtain ⟨t, ht⟩ : ∃ t, c.terms[c.terms.length - 1]? = some t := ⟨_, List.getElem?_eq_getElem (by omega)⟩
  have n1 : ¬ (wBearer = wFade ∧ before ≤ 4) := fun h => absurd h.1 (by decide)
  have n2 : ¬ (wBearer = wTerminal ∧ before ≤ 6) := fun h => absurd h.1 (by decide)
  have n3 : ¬ (wBearer = wFade) := by decide
  have n4 : ¬ (wBearer = wTerminal) := by decide
  rw [hw, if_neg n1, if_neg n2, if_pos ⟨rfl, hb⟩, hp, if_neg (by omega), if_neg (by omega), if_neg (by omega), if_neg (by omega), if_neg (fun h => n3 h.2), if_neg (fun h => n4 h.2), if_pos ⟨rfl, rfl⟩, okIff (by decide)]
  have hok := ok_plain (part := 5) (s := s) (w := wBearer) (by decide) (by omega) (last_bear ht (heq t (List.mem_of_getElem? ht)) (refNums_length s 15))
  refine ⟨fun q h => ?_, fun h q hq' => ?_⟩
  ·split at h
   ·rename_i he
    simp only [Option.map_some, Option.some.injEq] at h
    subst h
    exact ⟨5, rfl, by rw [hok, he], by rw [q0]; rfl, ⟨fun h => by omega, by simp, by simp, fun h => by simp at h, fun _ => rfl⟩⟩
   ·cases h
  ·split at h
   ·cases h
   ·rename_i he
    injection hq' with hq'; subst hq'
    rw [hok]; simpa using he
 have p4 : partOf before = 4 → before ≤ 4 := fun h => by unfold partOf at h; split at h; omega; split at h; omega; split at h <;> omega
 have p5 : partOf before = 5 → before = 5 ∨ before = 6 := fun h => by unfold partOf at h; split at h; omega; split at h; omega; split at h <;> omega
 have plo : 4 ≤ partOf before := by unfold partOf; split; omega; split; omega; split <;> omega
 have m0 : ¬ (partOf before = 0 ∧ wordOf s = wNetwork) := by omega
 have m1 : ¬ (partOf before = 1 ∧ wordOf s = wPatience) := by omega
 have m2 : ¬ (partOf before = 2 ∧ wordOf s = wRule) := by omega
 have m3 : ¬ (partOf before = 3 ∧ wordOf s = wOuter) := by omega
 have m4 : ¬ (partOf before = 4 ∧ wordOf s = wFade) := fun h => hf ⟨h.2, p4 h.1⟩
 have m5 : ¬ ((partOf before = 4 ∨ partOf before = 5) ∧ wordOf s = wTerminal) := fun h => hT ⟨h.2, by
  rcases h.1 with h | h
  ·have := p4 h; omega
  ·have := p5 h; omega⟩
 have m6 : ¬ (partOf before = 5 ∧ wordOf s = wBearer) := fun h => hB ⟨h.2, p5 h.1⟩
 rw [if_neg hf, if_neg hT, if_neg hB, if_neg m0, if_neg m1, if_neg m2, if_neg m3, if_neg m4, if_neg m5, if_neg m6]
 by_cases hP : wordOf s = wPacket
 ·rw [if_pos hP, if_pos ⟨plo, hP⟩, hP, packet_iff (by decide)]
  have hpk : pktIs (refNums s 4) (refBytes s) = pktOf s := rfl
  have hline : (pktOf s).line = lineOf wPacket (refNums s 4) ++ 32 :: hexOf (refBytes s) := by
   obtain ⟨a, b, c, d, h⟩ := len_four (refNums_length s 4)
   simp only [Pkt.line, Pkt.nums, pktOf, h]; rfl
  have hok : okLine 6 c (l ++ [pktOf s]) s wPacket = ((some (lineOf wPacket (refNums s 4) ++ 32 :: hexOf (refBytes s)) == some s) && decide (0 < (refBytes s).length)) := by
   unfold okLine
   rw [if_pos rfl, last_pkt, hline]
   simp [pktOf]
  refine ⟨fun q h => ?_, fun h q hq' => ?_⟩
  ·split at h
   ·rename_i he
    simp only [Option.map_some, Option.some.injEq] at h
    subst h
    refine ⟨6, rfl, ?_, by rw [q0]; rfl, ⟨fun h => by omega, by simp, by simp, fun h => by simp at h, fun h => by simp at h⟩⟩
    simp only
    rw [hpk, hok, he.1]
    simpa using List.length_pos_iff.2 he.2
   ·cases h
  ·split at h
   ·cases h
   ·rename_i he
    injection hq' with hq'; subst hq'
    simp only
    rw [hok]
    rw [Bool.and_eq_false_iff]
    by_cases e : lineOf wPacket (refNums s 4) ++ 32 :: hexOf (refBytes s) = s
    ·right
     have : refBytes s = [] := Classical.byContradiction fun h => he ⟨e, h⟩
     simp [this]
    ·left; simpa using e
 ·rw [if_neg hP, if_neg (fun h => hP h.2)]
  exact ⟨fun q h => (by cases h), fun _ q hq => (by cases hq)⟩
end AM
end Go.Proofs.YtemcmblcogljkaaGreatDoor

namespace Go.Proofs.YtemcmblcogljkaaGreatDoor
namespace AM
open Go
open Go.Lib (decDigits itoa nDigits atoiAll atoiSat)
open TP
attribute [local irreducible] f16J0
theorem zero_slice {G : AH} {h n k : Nat} {cs : List Value} (hs : Sli G 1 (some ⟨h, 0, none⟩) n k cs) {m : Nat} (hm : m ≤ n) (hnk : n ≤ k) : sliceV 1 G (.slice (some ⟨h, 0, none⟩) n k) none (some (.int .i64 (m : Int))) = some (.slice (some ⟨h, 0, none⟩) m k) := by
 cases hs with
 | row hr hs' hf ho hlo hh hn hc =>
  simp only [sliceV, cutAtV, decide_eq_true (show (0 : Int) ≤ (m : Int) by omega), decide_eq_true (show (m : Int) ≤ (n : Int) by omega), decide_eq_true (show (m : Int) ≤ (k : Int) by omega), Bool.and_self, hr, hs', Int.toNat_natCast, Nat.mul_one, Nat.sub_zero, Nat.zero_mul, Nat.add_zero]
  rfl
theorem c16 {s : List UInt8} (hs : s.length ≤ 10000000) {H : AH} (hw : WF H) {Q : Value → AH → Prop}
  (hQ : ∀ H' fb fn fk tb tn tk xb xn xk, Le H H' → NetIn H' (progParse s).c (progParse s).l fb fn tb tn xb xn → Q (.tuple ⟨[.agg ⟨(progParse s).c.vals fb fn fk tb tn tk⟩, .slice xb xn xk, I (progParse s).n, I (progParse s).e]⟩) H') : OK pmT 16 ⟨[.string (bs s)]⟩ H Q := by
 apply f16_ok onlyT
 simp only [f16R, letH_eq]
 have l1 := new_le hw 0 (Cfg.zero.vals none 0 0 none 0 0)
 have hf1 := Fresh.new H 0 (Cfg.zero.vals none 0 0 none 0 0)
 have hn1 : (H.new 0 (Cfg.zero.vals none 0 0 none 0 0)).next = H.next + 1 := rfl
 unfold Cfg.vals Cfg.zero at l1 hf1 hn1
 generalize H.new 0 [I 0, I 0, I 0, I 0, I 0, I 0, I 0, I 0, I 0, I 0, I 0, I 0, I 0, I 0, I 0, I 0, I 0, I 0, .slice none 0 0, .slice none 0 0] = H1 at *
 refine c34 (c := 10) (by omega) ?_
 rw [obL_some]
 have g1 := new_le l1.wf 1 (strs (cutAt 10 s))
 have hs1 : Sli (H1.new 1 (strs (cutAt 10 s))) 1 (some ⟨H1.next, 0, none⟩) (cutAt 10 s).length (cutAt 10 s).length (strs (cutAt 10 s)) := new_sli H1 1 (cutAt 10 s).length (by simp [strs])
 have hn3 : (H1.new 1 (strs (cutAt 10 s))).next = H.next + 2 := by rw [new_next, hn1]
 have hspot : ∀ a, (some (⟨H1.next, 0, none⟩ : Addr)) = some a → a.spot = none := fun a ha => by injection ha with ha; subst ha; rfl
 have hrd := hs1.rd1 hspot
 have hf3 := hf1.le l1.wf g1
 have hne := cutAt_ne 10 s
 have hpos : 0 < (cutAt 10 s).length := List.length_pos_iff.2 hne
 have hcnt := cutAt_count 10 s
 have hlast : (cutAt 10 s)[(cutAt 10 s).length - 1]? = some ((cutAt 10 s).getLastD []) := by
  rw [List.getLastD_eq_getLast?, List.getLast?_eq_getElem?]
  rw [List.getElem?_eq_getElem (show (cutAt 10 s).length - 1 < _ by omega)]; rfl
 have hans : progParse s = progAns (cutAt 10 s) := rfl
 have hsm : ∀ q ∈ cutAt 10 s, q.length ≤ s.length := fun q hq => cutAt_small hq
 generalize progParse s = A at hans hQ
 generalize cutAt 10 s = L at *
 generalize H1.new 1 (strs L) = H3 at *
 have hw3 := g1.wf
 have d5 := Doc.first hw3 []
 simp only [List.nil_append] at d5
 unfold Cfg.vals at d5
 have g5 := new_le hw3 0 (Cfg.zero.vals none 0 0 none 0 0 ++ [.slice none 0 0])
 unfold Cfg.vals at g5
 rw [wrap_of (by omega) (by omega), show ((L.length : Int) - 1) = ((L.length - 1 : Nat) : Int) by omega]
 have hz := zero_slice (hs1.le hw3 g5) (m := L.length - 1) (by omega) (Nat.le_refl _)
 simp only [Cfg.zero, List.cons_append, List.nil_append] at hz g5 d5
 rw [hz, obL_some]
 have line : ∀ {G : AH}, Le H3 G → ∀ {n : Nat} {i : Nat} {x : List UInt8}, i < n → L[i]? = some x → ∃ a j, elemS 1 (.slice (some ⟨H1.next, 0, none⟩) n L.length) (.int .i64 (i : Int)) = some (.pointer (some ⟨a, j, none⟩)) ∧ G.load a j = some (.string (bs x)) := fun {G} hg {n i x} hin hi => by
  obtain ⟨a, j, e1, e2⟩ := (hrd.le g1.wf hg).elem (k := L.length) (strs_get hi) (kk := .i64)
  have e2 := e2 0 (by omega)
  rw [Nat.add_zero] at e2
  have hil := (List.getElem?_eq_some_iff.1 hi).1
  rw [elemS_eq (by omega) (by omega)] at e1 ⊢
  exact ⟨a, j, e1, e2⟩
 have bad : ∀ {G : AH} {n : Nat} {e : Int}, Le H3 G → A = .bad n e → ∀ G', Keep (fun g => g = H.next) G G' → Q (.tuple ⟨[.agg ⟨Cfg.zero.vals none 0 0 none 0 0⟩, .slice none 0 0, I n, I e]⟩) G' := fun {G n e} hg hA G' hk => by
  have hk' : Le H G' := Keep.trans ((l1.trans g1).trans hg) hk fun g h1 h2 => by omega
  have := hQ G' none 0 0 none 0 0 none 0 0 hk' (by rw [hA]; exact netIn_zero _)
  rwa [hA] at this
 have hf0 : ∀ {G : AH}, Le H3 G → Fresh G H.next (Cfg.zero.vals none 0 0 none 0 0) := fun hg => hf3.le g1.wf hg
 have key : ∀ (r : List (List UInt8)) (i : Nat) (before : Int) (c : Cfg) (l : List Pkt) (ω : Nat → Option Comp) (p : Parts) (G : AH), L.dropLast.drop i = r → i + r.length = L.length - 1 → Doc ω H3 G H3.next [] c l p → p.tc = p.ts → GoodC (4 + i) (partAt i before) c l → InvC i before c l → (i ≤ 3 → c.clear i) → progGo 0 L.dropLast 3 Cfg.zero [] = progGo i r before c l → f16L0 (OK pmT) Q H.next (some ⟨H1.next, 0, none⟩) L.length L.length ((L.length - 1 : Nat) : Int) H3.next before (some ⟨H1.next, 0, none⟩) (L.length - 1) L.length ((L.length - 1 : Nat) : Int) (i : Int) G := by
  intro r
  induction r with
  | nil =>
   intro i before c l ω p G hdr hlen d he g inv hcl hgo
   apply f16L0_step
   simp only [f16B0]
   simp only [List.length_nil, Nat.add_zero] at hlen
   rw [decide_eq_false (by omega), ifB_false]
   have hA : A = if L.getLastD [] ≠ [] then .bad L.length 66 else if L.length - 1 ≤ 3 then .bad (max (L.length - 1) 1) 66
     else if errAll c l ≠ 0 then .bad 0 (errAll c l) else ⟨c, l, 0, 0⟩ := by rw [hans, progAns, hgo]; rfl
   obtain ⟨a, j, e1, e2⟩ := line d.le (n := L.length) (by omega) hlast
   generalize L.getLastD [] = z at *
   rw [e1, obA_some, e2, obS_some, bs_nil]
   refine ifB_intro (fun hb => ?_) (fun hb => ?_)
   ·have hb : z ≠ [] := by simpa using hb
    rw [if_pos hb] at hA
    rw [wrap_of (by omega) (by omega), show (((L.length - 1 : Nat) : Int) + 1) = (L.length : Int) by omega]
    exact out18 d.le.wf (hf0 d.le) rfl Cfg.zero none 0 0 none 0 0 (bad d.le hA)
   have hb : z = [] := by simpa using hb
   rw [if_neg (fun h => h hb)] at hA
   refine ifB_intro (fun h3 => ?_) (fun h3 => ?_)
   ·have h3 : ((L.length - 1 : Nat) : Int) ≤ 3 := of_decide_eq_true h3
    rw [if_pos (by omega)] at hA
    have hmx : (if 1 > ((L.length - 1 : Nat) : Int) then (1 : Int) else ((L.length - 1 : Nat) : Int)) = ((max (L.length - 1) 1 : Nat) : Int) := by split <;> omega
    rw [hmx]
    exact out18 d.le.wf (hf0 d.le) rfl Cfg.zero none 0 0 none 0 0 (bad d.le hA)
   ·have h3 : ¬ ((L.length - 1 : Nat) : Int) ≤ 3 := of_decide_eq_false h3
    rw [if_neg (by omega)] at hA
    have LB : ∀ G', Doc ω H3 G' H3.next [] c l p → ∀ k, G'.load H3.next k = ([] ++ (c.vals p.fb p.fn p.fk p.tb p.tn p.tk ++ [.slice p.xb p.xn p.xk]))[k]? := fun G' d' => d'.box.vals
    have LG := LB G d
    unfold Cfg.vals at LG
    simp only [LG, Nat.zero_add, Nat.add_zero, Nat.reduceAdd, List.cons_append, List.nil_append, List.getElem?_cons_zero, List.getElem?_cons_succ, obI_some, obL_some]
    have nt := d.net he g.sh
    refine c25 onlyT g.sh d.le.wf nt.f nt.t nt.x fun G1 g2 => ?_
    have d1 := d.ofLe g2
    have LG1 := LB G1 d1
    unfold Cfg.vals at LG1
    rw [obI_some]
    refine ifB_intro (fun hx => ?_) (fun hx => ?_)
    ·rw [if_pos (by simpa using hx)] at hA
     exact out18 d1.le.wf (hf0 d1.le) rfl Cfg.zero none 0 0 none 0 0 (bad d1.le hA)
    ·rw [if_neg (by simpa using hx)] at hA
     simp only [LG1, Nat.zero_add, Nat.add_zero, Nat.reduceAdd, List.cons_append, List.nil_append, List.getElem?_cons_zero, List.getElem?_cons_succ, obI_some, obL_some]
     obtain ⟨G2, h1, h2, h3, h4⟩ := (hf0 d1.le).put d1.le.wf (i := 0) (ws := c.vals p.fb p.fn p.fk p.tb p.tn p.tk) (us := c.vals p.fb p.fn p.fk p.tb p.tn p.tk) (by simp [Cfg.vals]) (by simp [Cfg.vals, oneCell]) (by simp [Cfg.vals])
     unfold Cfg.vals at h1
     rw [h1, obH_some]
     have d2 : Doc ω H G2 H3.next [] c l p := (d1.older (l1.trans g1)).keep h2 (fun gg hg => by
      cases e : ω gg with
      | none => rfl
      | some k => have := d1.low gg k e; omega) (fun gg hg => by omega)
     have LG2 := d2.box.vals 20
     unfold Cfg.vals at LG2
     rw [LG2]
     simp only [List.cons_append, List.nil_append, List.getElem?_cons_zero, List.getElem?_cons_succ]
     rw [obE1_slice d.pkts.spot]
     have L2 := h3.vals
     unfold Cfg.vals at L2
     simp only [L2, Nat.zero_add, List.getElem?_cons_zero, List.getElem?_cons_succ, obI_some, obL_some]
     have := hQ G2 p.fb p.fn p.fk p.tb p.tn p.tk p.xb p.xn p.xk d2.le (by rw [hA]; exact d2.net he g.sh)
     rw [hA] at this
     exact this
  | cons x r ih =>
   intro i before c l ω p G hdr hlen d he g inv hcl hgo
   apply f16L0_step
   simp only [f16B0]
   simp only [List.length_cons] at hlen
   have hx : L[i]? = some x := by
    have h0 : L.dropLast[i]? = some x := by
     have := congrArg (fun q => q[0]?) hdr
     simpa [List.getElem?_drop] using this
    rw [List.getElem?_dropLast] at h0
    split at h0
    ·exact h0
    ·cases h0
   have hdr' : L.dropLast.drop (i + 1) = r := by rw [← List.drop_drop, hdr]; rfl
   rw [decide_eq_true (by omega), ifB_true]
   obtain ⟨a, j, e1, e2⟩ := line d.le (n := L.length - 1) (by omega) hx
   rw [e1, obA_some, e2, obS_some]
   have hxl := hsm x (List.mem_of_getElem? hx)
   have wi : IntKind.wrap .i64 ((i : Int) + 1) = ((i + 1 : Nat) : Int) := by rw [wrap_of (by omega) (by omega)]; omega
   rw [progGo] at hgo
   have sm : Same i before c l x := by
    by_cases hi : i ≤ 3
    ·exact same_head hi x inv
    ·exact same_rest (by omega) x inv g.eq fun e => g.t5 (by rw [part_gt (by omega)]; exact e)
   have next : ∀ q, lineP i before c l x = some q → GoodC (4 + (i + 1)) (partAt (i + 1) q.1) q.2.1 q.2.2 ∧ InvC (i + 1) q.1 q.2.1 q.2.2 := fun q hq => by
    obtain ⟨q1, h1, _, h3, h4⟩ := sm.1 q hq
    have := (g.step (by omega) h1).1
    simp only at this
    rw [h3, Nat.add_assoc] at this
    exact ⟨this, h4⟩
   have no : lineP i before c l x = none → A = .bad (i + 1) 66 := fun h => by
    rw [h] at hgo
    rw [hans, progAns, hgo]
   refine ifB_intro (fun hi => ?_) (fun hi => ?_)
   ·have hi : (i : Int) ≤ 3 := of_decide_eq_true hi
    have hi : i ≤ 3 := by omega
    refine pa_head hi d (hcl hi) (by omega) fun rr ok G' hrr a1 a2 d' => ?_
    have hlp : ∀ v, wholeLine x (headW i) (headN i) = v → lineP i before c l x = v.map fun r => (3, c.setH i r, l) := fun v hv => by rw [lineP, if_pos hi, hv]
    rw [obB_some, wi]
    cases ok with
    | false =>
     have hA := no (hlp _ (a2 rfl))
     rw [Bool.not_false, ifB_true]
     exact out18 d'.le.wf (hf0 d'.le) rfl Cfg.zero none 0 0 none 0 0 (bad d'.le hA)
    | true =>
     have hl3 := hlp _ (a1 rfl)
     rw [hl3] at hgo
     obtain ⟨n1, n2⟩ := next _ hl3
     have hb3 := (inv.first hi).1
     rw [Bool.not_true, ifB_false, f16J0_eq]
     simp only [f16K0]
     rw [wi, hb3]
     exact ih (i + 1) 3 (c.setH i rr) l ω p G' hdr' (by omega) d' he n1 n2 (fun _ => (hcl hi).set hi hrr) hgo
   ·have hi : ¬ (i : Int) ≤ 3 := of_decide_eq_false hi
    have hi : 3 < i := by omega
    have hg : GoodC (4 + i) (partOf before) c l := by rw [← part_gt hi]; exact g
    have hlp : lineP i before c l x = stepP before c l x := by rw [lineP, if_neg (by omega)]
    refine c36 (N := 4 + i) d he hg (by omega) (by omega) (fun k G' g' hno => ?_) fun q hq ω' p' G' d' he' => ?_
    ·simp only [tupV_eq, List.getElem?_cons_zero, List.getElem?_cons_succ, obI_some, obB_some, Bool.not_false, ifB_true]
     rw [wi]
     have hA := no (hlp.trans hno)
     exact out18 g'.wf (hf0 g') rfl Cfg.zero none 0 0 none 0 0 (bad g' hA)
    ·simp only [tupV_eq, List.getElem?_cons_zero, List.getElem?_cons_succ, obI_some, obB_some, Bool.not_true, ifB_false]
     rw [hlp.trans hq] at hgo
     obtain ⟨n1, n2⟩ := next _ (hlp.trans hq)
     rw [f16J0_eq]
     simp only [f16K0]
     rw [wi]
     exact ih (i + 1) q.1 q.2.1 q.2.2 ω' p' G' hdr' (by omega) d' he' n1 n2 (fun h => by omega) hgo
 exact key L.dropLast 0 3 Cfg.zero [] _ _ _ rfl (by rw [List.length_dropLast]; omega) d5 rfl (by simpa [partAt] using good_zero) inv_zero (fun _ => clear_zero) rfl
theorem go_same : ∀ (r : List (List UInt8)) (i : Nat) (before : Int) (c : Cfg) (l : List Pkt), (∀ x ∈ r, x.length ≤ 1000000000) → GoodC (4 + i) (partAt i before) c l → InvC i before c l →
  (∀ n, progGo i r before c l = .inl n → refGo i r (partAt i before) c l = .inl n) ∧ (∀ q, progGo i r before c l = .inr q → refGo i r (partAt i before) c l = .inr (partAt (i + r.length) q.1, q.2.1, q.2.2) ∧ InvC (i + r.length) q.1 q.2.1 q.2.2)
 | [], i, before, c, l, _, _, inv => ⟨fun n h => (by cases h), fun q h => by
  simp only [progGo, Sum.inr.injEq] at h
  subst h
  exact ⟨rfl, inv⟩⟩
 | x :: r, i, before, c, l, hr, g, inv => by
  have sm : Same i before c l x := by
   by_cases hi : i ≤ 3
   ·exact same_head hi x inv
   ·exact same_rest (by omega) x inv g.eq fun e => g.t5 (by rw [part_gt (by omega)]; exact e)
  unfold progGo refGo
  cases hl : lineP i before c l x with
  | none =>
   have h2 := sm.2 hl
   cases hs : stepS (partAt i before) c l x (wordOf x) with
   | none => exact ⟨fun n h => h, fun q h => (by cases h)⟩
   | some q =>
    simp only
    rw [if_neg (by rw [h2 q hs]; simp)]
    exact ⟨fun n h => h, fun q h => (by cases h)⟩
  | some q =>
   obtain ⟨q1, h1, h2, h3, h4⟩ := sm.1 q hl
   have hg := (g.step (hr x (by simp)) h1).1
   simp only at hg
   rw [h3, Nat.add_assoc] at hg
   rw [h1]
   simp only
   rw [if_pos h2, h3]
   have := go_same r (i + 1) q.1 q.2.1 q.2.2 (fun y hy => hr y (by simp [hy])) hg h4
   rw [List.length_cons, show i + (r.length + 1) = i + 1 + r.length by omega]
   exact this
theorem parse_same {s : List UInt8} (hs : s.length ≤ 1000000000) : progParse s = refParse s := by
 have hsm : ∀ q ∈ cutAt 10 s, q.length ≤ s.length := fun q hq => cutAt_small hq
 have hpos : 0 < (cutAt 10 s).length := List.length_pos_iff.2 (cutAt_ne 10 s)
 unfold progParse refParse progAns refAns
 generalize cutAt 10 s = L at *
 obtain ⟨a1, a2⟩ := go_same L.dropLast 0 3 Cfg.zero [] (fun x hx => by have := hsm x ((List.dropLast_subset L) hx); omega) (by simpa [partAt] using good_zero) inv_zero
 have e0 : partAt 0 3 = 0 := rfl
 rw [e0] at a1 a2
 cases hp : progGo 0 L.dropLast 3 Cfg.zero [] with
 | inl n => rw [a1 n hp]
 | inr q =>
  obtain ⟨b1, b2⟩ := a2 q hp
  rw [b1]
  simp only
  rw [List.length_dropLast, Nat.zero_add] at b2 ⊢
  have hlt : partAt (L.length - 1) q.1 < 4 ↔ L.length - 1 ≤ 3 := by
   unfold partAt partOf
   split
   ·constructor <;> intro <;> omega
   ·constructor
    ·intro h; split at h; omega; split at h; omega; split at h <;> omega
    ·intro; omega
  by_cases hz : L.getLastD [] ≠ []
  ·rw [if_pos hz, if_pos (.inl hz), if_neg (fun h => hz h.1)]
  ·have hz' : L.getLastD [] = [] := Classical.byContradiction hz
   rw [if_neg hz]
   by_cases h3 : L.length - 1 ≤ 3
   ·rw [if_pos h3, if_pos (.inr (hlt.2 h3))]
    by_cases h1 : L.length > 1
    ·rw [if_pos ⟨hz', h1⟩, show max (L.length - 1) 1 = L.length - 1 by omega]
    ·rw [if_neg (fun h => h1 h.2), show max (L.length - 1) 1 = L.length by omega]
   ·rw [if_neg h3, if_neg (show ¬ (L.getLastD [] ≠ [] ∨ partAt (L.length - 1) q.1 < 4) from fun h => h.elim (fun h => hz h) fun h => h3 (hlt.1 h))]
end AM
end Go.Proofs.YtemcmblcogljkaaGreatDoor

