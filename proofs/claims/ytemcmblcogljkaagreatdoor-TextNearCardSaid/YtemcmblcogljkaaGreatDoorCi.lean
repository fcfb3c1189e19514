/- The program reads numbers into rows of its own. The program adds what a line says to what it read. The program adds a bearer. The program adds a packet. -/
import Derived.Test.YtemcmblcogljkaaGreatDoorCh
set_option linter.all false
set_option linter.unusedSimpArgs false
set_option linter.unusedVariables false
namespace Go.Proofs.YtemcmblcogljkaaGreatDoor
namespace AM
open Go
open Go.Lib (decDigits itoa nDigits atoiAll atoiSat)
open TP
def padN (m : Nat) (xs : List Int) : List Int := xs ++ List.replicate (m - xs.length) 0
theorem padN_len {m : Nat} {xs : List Int} (h : xs.length ≤ m) : (padN m xs).length = m := by simp [padN]; omega
theorem padN_full {m : Nat} {xs : List Int} (h : xs.length = m) : padN m xs = xs := by simp [padN, h]
theorem padN_snoc {m : Nat} {xs : List Int} (h : xs.length < m) (x : Int) : padN m (xs ++ [x]) = (padN m xs).set xs.length x := by
 unfold padN
 rw [List.set_append_right _ _ (by omega), Nat.sub_self]
 obtain ⟨k, hk⟩ : ∃ k, m - xs.length = k + 1 := ⟨m - xs.length - 1, by omega⟩
 rw [hk, List.replicate_succ, List.set_cons_zero, List.append_assoc, List.length_append, show m - (xs.length + [x].length) = k by simp only [List.length_cons, List.length_nil]; omega]
 rfl
theorem box_step {G : AH} (hw : WF G) {hf : Nat} {vs : List Value} (f : Fresh G hf vs) {j : Nat} (hj : j < vs.length) (x : Int) : ∃ G', G.storeN hf j [I x] = some G' ∧ Keep (fun g => g = hf) G G' ∧ Fresh G' hf (vs.set j (I x)) := by
 obtain ⟨G', h1, h2, h3, _⟩ := f.put hw (i := j) (ws := [I x]) (us := vs.set j (I x)) (by simp; omega) (by simp [oneCell]) (by
  rw [List.set_eq_take_append_cons_drop, if_pos hj]; simp)
 exact ⟨G', h1, h2, h3⟩
section
variable {m : Nat} {F : Nat → Prop} {S : List Int → AH → Prop} {ptrs : List (Nat × Nat)} {s word : List UInt8} {kind : Nat} {b : Option Addr} {H : AH} {Q : Value → AH → Prop}
theorem c35S (hw : WF H) (hs : s.length ≤ 1000000000) (hm : m ≤ 1000)
  (hkind : wordList[kind]? = some word) (hS0 : S (List.replicate m 0) H) (hle : ∀ r G G', S r G → WF G → Le G G' → S r G')
  (hrd : ∀ r G, S r G → Rd G 1 b m (ptrs.map fun p => [.pointer (some ⟨p.1, p.2, none⟩)]))
  (hst : ∀ r G i x, S r G → WF G → r.length = m → i < m → ∃ p G', ptrs[i]? = some p ∧ G.storeN p.1 p.2 [I x] = some G' ∧ S (r.set i x) G' ∧ Keep F G G')
  (hF : ∀ g, F g → g < H.next)
  (hQ : ∀ r G ok, r.length = m → S r G → Keep F H G → (ok = true → wholeLine s word m = some r) → (ok = false → wholeLine s word m = none) → Q (.bool ok) G) :
  OK pmT 35 ⟨[.string (bs s), I kind, .slice b m m]⟩ H Q := by
 refine c35 (P := fun xs G => xs.length ≤ m ∧ S (padN m xs) G) (ptrs := ptrs) hw hs hm hkind ⟨Nat.zero_le _, by simpa [padN] using hS0⟩ (fun xs G G' h hw hl => ⟨h.1, hle _ _ _ h.2 hw hl⟩) (fun xs G h => hrd _ _ h.2)
  (fun xs G x h hw hlt => ?_) hF fun xs G ok h hk h1 h2 => ?_
 ·obtain ⟨p, G', a1, a2, a3, a4⟩ := hst _ G xs.length x h.2 hw (padN_len h.1) hlt
  exact ⟨p, G', a1, a2, ⟨by simp; omega, by rw [padN_snoc hlt]; exact a3⟩, a4⟩
 ·refine hQ (padN m xs) G ok (padN_len h.1) h.2 hk (fun e => ?_) h2
  have := h1 e
  rw [this, padN_full (wholeLine_some this).1]
theorem c55S (hw : WF H) (hs : s.length ≤ 1000000000) (hm : m ≤ 1000)
  (hkind : wordList[kind]? = some word) (hS0 : S (List.replicate m 0) H) (hle : ∀ r G G', S r G → WF G → Le G G' → S r G')
  (hrd : ∀ r G, S r G → Rd G 1 b m (ptrs.map fun p => [.pointer (some ⟨p.1, p.2, none⟩)]))
  (hst : ∀ r G i x, S r G → WF G → r.length = m → i < m → ∃ p G', ptrs[i]? = some p ∧ G.storeN p.1 p.2 [I x] = some G' ∧ S (r.set i x) G' ∧ Keep F G G')
  (hF : ∀ g, F g → g < H.next)
  (hno : ∀ G, Keep F H G → readLine s word m = none → Q (.tuple ⟨[.slice none 0 0, .bool false]⟩) G)
  (hyes : ∀ r rest G b' k', r.length = m → S r G → Keep F H G → readLine s word m = some (r, rest) → Sli G 1 (some b') rest.length k' (strs rest) → b'.spot = none → Q (.tuple ⟨[.slice (some b') rest.length k', .bool true]⟩) G) :
  OK pmT 55 ⟨[.string (bs s), I kind, .slice b m m]⟩ H Q := by
 refine c55 (P := fun xs G => xs.length ≤ m ∧ S (padN m xs) G) (ptrs := ptrs) hw hs hm hkind ⟨Nat.zero_le _, by simpa [padN] using hS0⟩ (fun xs G G' h hw hl => ⟨h.1, hle _ _ _ h.2 hw hl⟩) (fun xs G h => hrd _ _ h.2)
  (fun xs G x h hw hlt => ?_) hF (fun xs G h hk h1 => hno G hk h1) fun ns rest G b' k' h hk hr hsl hsp => ?_
 ·obtain ⟨p, G', a1, a2, a3, a4⟩ := hst _ G xs.length x h.2 hw (padN_len h.1) hlt
  exact ⟨p, G', a1, a2, ⟨by simp; omega, by rw [padN_snoc hlt]; exact a3⟩, a4⟩
 ·have hl := (readLine_some hr).1
  have hS := h.2
  rw [padN_full hl] at hS
  exact hyes ns rest G b' k' hl hS hk hr hsl hsp
end
structure One (X : AH) (hf : Nat) (cf : List Int → List Value) (r : List Int) (G : AH) : Prop where
 keep : Keep (fun g => g = hf) X G
 row : Fresh G hf (cf r)
theorem One.le {X : AH} {hf : Nat} {cf : List Int → List Value} {r : List Int} {G G' : AH} (h : One X hf cf r G) (hw : WF G) (hl : Le G G') : One X hf cf r G' :=
 ⟨Keep.trans h.keep hl fun _ _ hh => hh.elim, h.row.le hw hl⟩
theorem One.step {X : AH} {hf : Nat} {cf : List Int → List Value} {r : List Int} {G : AH} (h : One X hf cf r G) (hw : WF G) {i j : Nat} (x : Int) (hj : j < (cf r).length) (hc : (cf r).set j (I x) = cf (r.set i x)) :
  ∃ G', G.storeN hf j [I x] = some G' ∧ One X hf cf (r.set i x) G' ∧ Keep (fun g => g = hf) G G' := by
 obtain ⟨G', h1, h2, h3⟩ := box_step hw h.row hj x
 exact ⟨G', h1, ⟨Keep.trans h.keep h2 fun _ _ hh => hh, by rw [← hc]; exact h3⟩, h2⟩
theorem ptr_keep {H G : AH} {hf : Nat} (hw : WF H) (hlt : hf < H.next) (L : List (Nat × Nat)) (hk : Keep (fun g => g = hf) (H.new 1 (ptrV L)) G) : Rd G 1 (some ⟨H.next, 0, none⟩) L.length (L.map fun p => [.pointer (some ⟨p.1, p.2, none⟩)]) := by
 have hs := (new_sli H 1 L.length (cs := ptrV L) (by simp [ptrV]) (c := L.length)).keep (new_wf hw _ _) hk fun g hg e => by
  have hg : g = rootOf (H.new 1 (ptrV L)) H.next := hg
  rw [new_root] at hg; omega
 have h := hs.rd1 (fun a e => by injection e with e; subst e; rfl)
 rw [ptrV, List.map_map] at h
 exact h
section
variable {m : Nat} {cf : List Int → List Value} {js : List Nat} {s word : List UInt8} {kind : Nat} {hf : Nat} {H : AH} {Q : Value → AH → Prop}
theorem whole1 (hw : WF H) (hs : s.length ≤ 1000000000) (hm : m ≤ 1000) (hjs : js.length = m) (hkind : wordList[kind]? = some word)
  (hcf : ∀ r i x j, r.length = m → js[i]? = some j → j < (cf r).length ∧ (cf r).set j (I x) = cf (r.set i x)) (hrow : Fresh H hf (cf (List.replicate m 0)))
  (hQ : ∀ r G ok, r.length = m → One (H.new 1 (ptrV (js.map fun k => (hf, k)))) hf cf r G → (ok = true → wholeLine s word m = some r) → (ok = false → wholeLine s word m = none) → Q (.bool ok) G) :
  OK pmT 35 ⟨[.string (bs s), I kind, .slice (some ⟨H.next, 0, none⟩) m m]⟩ (H.new 1 (ptrV (js.map fun k => (hf, k)))) Q := by
 have hlt := hrow.own.lt hw
 have m1 := new_le hw 1 (ptrV (js.map fun k => (hf, k)))
 have hl : (js.map fun k => (hf, k)).length = m := by simp [hjs]
 refine c35S (S := One (H.new 1 (ptrV (js.map fun k => (hf, k)))) hf cf) (F := fun g => g = hf) (ptrs := js.map fun k => (hf, k)) m1.wf hs hm hkind ⟨Keep.refl m1.wf, hrow.le hw m1⟩ (fun r G G' h hw' hl => h.le hw' hl)
  (fun r G h => ?_) (fun r G i x h hw' hr hi => ?_) (fun g e => by rw [new_next]; omega) fun r G ok hr h hk h1 h2 => hQ r G ok hr h h1 h2
 ·have := ptr_keep hw hlt _ h.keep
  rw [hl] at this
  exact this
 ·obtain ⟨j, hj⟩ : ∃ j, js[i]? = some j := ⟨_, List.getElem?_eq_getElem (by omega)⟩
  obtain ⟨c1, c2⟩ := hcf r i x j hr hj
  obtain ⟨G', a1, a2, a3⟩ := h.step hw' x c1 c2
  exact ⟨(hf, j), G', by simp [hj], a1, a2, a3⟩
theorem read1 (hw : WF H) (hs : s.length ≤ 1000000000) (hm : m ≤ 1000) (hjs : js.length = m) (hkind : wordList[kind]? = some word)
  (hcf : ∀ r i x j, r.length = m → js[i]? = some j → j < (cf r).length ∧ (cf r).set j (I x) = cf (r.set i x)) (hrow : Fresh H hf (cf (List.replicate m 0)))
  (hno : ∀ G, Keep (fun g => g = hf) (H.new 1 (ptrV (js.map fun k => (hf, k)))) G → readLine s word m = none → Q (.tuple ⟨[.slice none 0 0, .bool false]⟩) G)
  (hyes : ∀ r rest G b' k', r.length = m → One (H.new 1 (ptrV (js.map fun k => (hf, k)))) hf cf r G → readLine s word m = some (r, rest) → Sli G 1 (some b') rest.length k' (strs rest) → b'.spot = none → Q (.tuple ⟨[.slice (some b') rest.length k', .bool true]⟩) G) :
  OK pmT 55 ⟨[.string (bs s), I kind, .slice (some ⟨H.next, 0, none⟩) m m]⟩ (H.new 1 (ptrV (js.map fun k => (hf, k)))) Q := by
 have hlt := hrow.own.lt hw
 have m1 := new_le hw 1 (ptrV (js.map fun k => (hf, k)))
 have hl : (js.map fun k => (hf, k)).length = m := by simp [hjs]
 refine c55S (S := One (H.new 1 (ptrV (js.map fun k => (hf, k)))) hf cf) (F := fun g => g = hf) (ptrs := js.map fun k => (hf, k)) m1.wf hs hm hkind ⟨Keep.refl m1.wf, hrow.le hw m1⟩ (fun r G G' h hw' hl => h.le hw' hl)
  (fun r G h => ?_) (fun r G i x h hw' hr hi => ?_) (fun g e => by rw [new_next]; omega) hno fun r rest G b' k' hr h hk h1 h2 h3 => hyes r rest G b' k' hr h h1 h2 h3
 ·have := ptr_keep hw hlt _ h.keep
  rw [hl] at this
  exact this
 ·obtain ⟨j, hj⟩ : ∃ j, js[i]? = some j := ⟨_, List.getElem?_eq_getElem (by omega)⟩
  obtain ⟨c1, c2⟩ := hcf r i x j hr hj
  obtain ⟨G', a1, a2, a3⟩ := h.step hw' x c1 c2
  exact ⟨(hf, j), G', by simp [hj], a1, a2, a3⟩
end
theorem set_ints (r : List Int) (i : Nat) (x : Int) : (r.map I).set i (I x) = (r.set i x).map I := by rw [List.map_set]
theorem cf_fade (r : List Int) (i : Nat) (x : Int) (j : Nat) (hr : r.length = 5) (hj : (List.range 5)[i]? = some j) : j < (r.map I).length ∧ (r.map I).set j (I x) = (r.set i x).map I := by
 have h := List.getElem?_eq_some_iff.1 hj
 obtain ⟨h1, h2⟩ := h
 simp only [List.length_range] at h1
 simp only [List.getElem_range] at h2
 subst h2
 exact ⟨by simp [hr]; omega, set_ints r i x⟩
def cfPkt (r : List Int) : List Value := r.map I ++ [.slice none 0 0]
theorem cf_pkt (r : List Int) (i : Nat) (x : Int) (j : Nat) (hr : r.length = 4) (hj : (List.range 4)[i]? = some j) : j < (cfPkt r).length ∧ (cfPkt r).set j (I x) = cfPkt (r.set i x) := by
 obtain ⟨h1, h2⟩ := List.getElem?_eq_some_iff.1 hj
 simp only [List.length_range] at h1
 simp only [List.getElem_range] at h2
 subst h2
 refine ⟨by simp [cfPkt, hr]; omega, ?_⟩
 unfold cfPkt
 rw [List.set_append_left _ _ (by simp [hr]; omega), set_ints]
def cfTrm (r : List Int) : List Value := (trmOf r).cells none 0 0 none 0 0
theorem cf_trm (r : List Int) (i : Nat) (x : Int) (j : Nat) (hr : r.length = 12) (hj : trmAt[i]? = some j) : j < (cfTrm r).length ∧ (cfTrm r).set j (I x) = cfTrm (r.set i x) := by
 obtain ⟨n0, n1, n2, n3, n4, n5, n6, n7, n8, n9, n10, n11, rfl⟩ := len_twelve hr
 have hi : i < 12 := (List.getElem?_eq_some_iff.1 hj).1
 match i, hi, hj with
 | 0, _, h | 1, _, h | 2, _, h | 3, _, h | 4, _, h | 5, _, h | 6, _, h | 7, _, h | 8, _, h | 9, _, h | 10, _, h | 11, _, h =>
  simp only [trmAt, List.getElem?_cons_zero, List.getElem?_cons_succ, Option.some.injEq] at h
  subst h
  exact ⟨by simp [cfTrm, trmOf, Trm.cells], rfl⟩
end AM
end Go.Proofs.YtemcmblcogljkaaGreatDoor

namespace Go.Proofs.YtemcmblcogljkaaGreatDoor
namespace AM
open Go
open Go.Lib (decDigits itoa nDigits atoiAll atoiSat)
open TP
section
variable {ω : Nat → Option Comp} {H0 G : AH} {h : Nat} {c : Cfg} {l : List Pkt} {p : Parts} {s : List UInt8} {Q : Value → AH → Prop}
theorem Doc.one {X G' : AH} {hf : Nat} {cf : List Int → List Value} {r : List Int} (d : Doc ω H0 G h [] c l p) (hx : Le G X) (hf0 : G.next ≤ hf) (o : One X hf cf r G') : Doc ω H0 G' h [] c l p := by
 refine (d.ofLe hx).keep o.keep (fun g e => ?_) fun g e => ?_
 ·cases e2 : ω g with
  | none => rfl
  | some k => have := d.dom g k e2; omega
 ·have := d.le.next; omega
theorem pa_fade (d : Doc ω H0 G h [] c l p) (hs : s.length ≤ 1000000000) (hfn : p.fn ≤ 1000000000)
  (hQ : ∀ r ok ω' p' G', (ok = true → wholeLine s wFade 5 = some r) → (ok = false → wholeLine s wFade 5 = none) → Doc ω' H0 G' h [] (c.addFade r) l p' → p'.tc = p.tc → p'.ts = p.ts → Q (.tuple ⟨[I 4, .bool ok]⟩) G') :
  letH (G.new 0 [.int .i64 0, .int .i64 0, .int .i64 0, .int .i64 0, .int .i64 0]) fun H24 =>
  OK pmT 28 ⟨[.pointer (some ⟨G.next, 0, none⟩)]⟩ H24 fun v25 H26 =>
  obL (some v25) fun b27 n27 k27 =>
  OK pmT 35 ⟨[.string (bs s), .int .i64 4, .slice b27 n27 k27]⟩ H26 fun v28 H29 =>
  obB (some v28) fun c30 =>
  obL (H29.load h ((0 + 0) + 18)) fun b31 n31 k31 =>
  obI .i64 (H29.load G.next (0 + 0)) fun x32 =>
  obI .i64 (H29.load G.next (0 + 1)) fun x33 =>
  obI .i64 (H29.load G.next (0 + 2)) fun x34 =>
  obI .i64 (H29.load G.next (0 + 3)) fun x35 =>
  obI .i64 (H29.load G.next (0 + 4)) fun x36 =>
  letH (H29.new 5 [.int .i64 x32, .int .i64 x33, .int .i64 x34, .int .i64 x35, .int .i64 x36]) fun H37 =>
  obG (appendV 5 40 H37 (.slice b31 n31 k31) (.slice (some ⟨H29.next, 0, none⟩) 1 1)) fun b38 n38 k38 H39 =>
  obH (H39.storeN h ((0 + 0) + 18) [.slice b38 n38 k38]) fun H40 =>
  obE1 (H37.load h ((0 + 0) + 18)) (.slice b31 n31 k31) (
  obE1 (H37.load G.next (0 + 0)) (.int .i64 x32) (
  obE1 (H37.load G.next (0 + 1)) (.int .i64 x33) (
  obE1 (H37.load G.next (0 + 2)) (.int .i64 x34) (
  obE1 (H37.load G.next (0 + 3)) (.int .i64 x35) (
  obE1 (H37.load G.next (0 + 4)) (.int .i64 x36) (
  Q (.tuple ⟨[.int .i64 4, .bool c30]⟩) H40)))))) := by
 have hw := d.le.wf
 rw [letH_eq]
 have m1 := new_le hw 0 ([0, 0, 0, 0, 0].map I)
 have f1 := Fresh.new G 0 ([0, 0, 0, 0, 0].map I)
 simp only [List.map_cons, List.map_nil] at m1 f1
 refine c28 onlyT ?_
 rw [obL_some]
 refine whole1 (cf := fun r => r.map I) (js := List.range 5) (kind := 4) (word := wFade) m1.wf hs (by omega) rfl rfl cf_fade f1 fun r G2 ok hr o h1 h2 => ?_
 have m2 := new_le m1.wf 1 (ptrV ((List.range 5).map fun k => (G.next, k)))
 have d2 := d.one (m1.trans m2) (Nat.le_refl _) o
 obtain ⟨n0, n1, n2, n3, n4, rfl⟩ := five hr
 have R2 := o.row
 simp only [List.map_cons, List.map_nil] at R2
 have L2 := d2.box.vals
 unfold Cfg.vals at L2
 simp only [L2, R2.vals, Nat.zero_add, Nat.add_zero, Nat.reduceAdd, List.cons_append, List.nil_append, List.getElem?_cons_zero, List.getElem?_cons_succ, obB_some, obL_some, obI_some, letH_eq]
 have m3 := new_le d2.le.wf 5 [I n0, I n1, I n2, I n3, I n4]
 have d3 := d2.ofLe m3
 have R3 := R2.le d2.le.wf m3
 have L3 := d3.box.vals
 unfold Cfg.vals at L3
 obtain ⟨b', G4, a1, q1, q2, q3⟩ := d3.fade (r := [n0, n1, n2, n3, n4]) rfl hfn (hs := G2.next) fun j _ => by rw [Nat.zero_add, new_load]; rfl
 rw [a1, obG_some]
 obtain ⟨S, t1, t2, t3, _⟩ := q1.put q2.wf (i := 18) (ws := [.slice b' (p.fn + 1) (p.fn + 1)]) (us := [] ++ (c.vals b' (p.fn + 1) (p.fn + 1) p.tb p.tn p.tk ++ [.slice p.xb p.xn p.xk])) (by simp [Cfg.vals]) (by simp [oneCell]) rfl
 rw [t1, obH_some]
 simp only [L3, R3.vals, List.cons_append, List.nil_append, List.getElem?_cons_zero, List.getElem?_cons_succ, obE1_int, obE1_slice d2.fades.spot]
 exact hQ _ ok _ _ S h1 h2 (q3 S [] t2 t3) rfl rfl
theorem pa_term (d : Doc ω H0 G h [] c l p) (hs : s.length ≤ 1000000000) (htn : p.tn ≤ 1000000000)
  (hQ : ∀ r ok ω' p' G', r.length = 12 → (ok = true → wholeLine s wTerminal 12 = some r) → (ok = false → wholeLine s wTerminal 12 = none) → Doc ω' H0 G' h [] (c.addTerm (trmOf r)) l p' → p'.tc = p.tc ++ [TG.zero] → p'.ts = p.ts ++ [TG.zero] → Q (.tuple ⟨[I 5, .bool ok]⟩) G') :
  letH (G.new 0 [.int .i64 0, .int .i64 0, .slice none 0 0, .slice none 0 0, .int .i64 0, .int .i64 0, .int .i64 0, .int .i64 0, .int .i64 0, .int .i64 0, .int .i64 0, .int .i64 0, .int .i64 0, .int .i64 0]) fun H46 =>
  OK pmT 29 ⟨[.pointer (some ⟨G.next, 0, none⟩)]⟩ H46 fun v47 H48 =>
  obL (some v47) fun b49 n49 k49 =>
  OK pmT 35 ⟨[.string (bs s), .int .i64 5, .slice b49 n49 k49]⟩ H48 fun v50 H51 =>
  obB (some v50) fun c52 =>
  obL (H51.load h ((0 + 0) + 19)) fun b53 n53 k53 =>
  obI .i64 (H51.load G.next (0 + 0)) fun x54 =>
  obI .i64 (H51.load G.next (0 + 1)) fun x55 =>
  obL (H51.load G.next (0 + 2)) fun b56 n56 k56 =>
  obL (H51.load G.next (0 + 3)) fun b57 n57 k57 =>
  obI .i64 (H51.load G.next (0 + 4)) fun x58 =>
  obI .i64 (H51.load G.next (0 + 5)) fun x59 =>
  obI .i64 (H51.load G.next (0 + 6)) fun x60 =>
  obI .i64 (H51.load G.next (0 + 7)) fun x61 =>
  obI .i64 (H51.load G.next (0 + 8)) fun x62 =>
  obI .i64 (H51.load G.next (0 + 9)) fun x63 =>
  obI .i64 (H51.load G.next (0 + 10)) fun x64 =>
  obI .i64 (H51.load G.next (0 + 11)) fun x65 =>
  obI .i64 (H51.load G.next (0 + 12)) fun x66 =>
  obI .i64 (H51.load G.next (0 + 13)) fun x67 =>
  letH (H51.new 14 [.int .i64 x54, .int .i64 x55, .slice b56 n56 k56, .slice b57 n57 k57, .int .i64 x58, .int .i64 x59, .int .i64 x60, .int .i64 x61, .int .i64 x62, .int .i64 x63, .int .i64 x64, .int .i64 x65, .int .i64 x66, .int .i64 x67]) fun H68 =>
  obG (appendV 14 144 H68 (.slice b53 n53 k53) (.slice (some ⟨H51.next, 0, none⟩) 1 1)) fun b69 n69 k69 H70 =>
  obH (H70.storeN h ((0 + 0) + 19) [.slice b69 n69 k69]) fun H71 =>
  obE1 (H68.load h ((0 + 0) + 19)) (.slice b53 n53 k53) (
  obE1 (H68.load G.next (0 + 0)) (.int .i64 x54) (
  obE1 (H68.load G.next (0 + 1)) (.int .i64 x55) (
  obE1 (H68.load G.next (0 + 2)) (.slice b56 n56 k56) (
  obE1 (H68.load G.next (0 + 3)) (.slice b57 n57 k57) (
  obE1 (H68.load G.next (0 + 4)) (.int .i64 x58) (
  obE1 (H68.load G.next (0 + 5)) (.int .i64 x59) (
  obE1 (H68.load G.next (0 + 6)) (.int .i64 x60) (
  obE1 (H68.load G.next (0 + 7)) (.int .i64 x61) (
  obE1 (H68.load G.next (0 + 8)) (.int .i64 x62) (
  obE1 (H68.load G.next (0 + 9)) (.int .i64 x63) (
  obE1 (H68.load G.next (0 + 10)) (.int .i64 x64) (
  obE1 (H68.load G.next (0 + 11)) (.int .i64 x65) (
  obE1 (H68.load G.next (0 + 12)) (.int .i64 x66) (
  obE1 (H68.load G.next (0 + 13)) (.int .i64 x67) (
  Q (.tuple ⟨[.int .i64 5, .bool c52]⟩) H71))))))))))))))) := by
 have hw := d.le.wf
 rw [letH_eq]
 have m1 := new_le hw 0 (cfTrm (List.replicate 12 0))
 have f1 := Fresh.new G 0 (cfTrm (List.replicate 12 0))
 have hz : cfTrm (List.replicate 12 0) = [I 0, I 0, .slice none 0 0, .slice none 0 0, I 0, I 0, I 0, I 0, I 0, I 0, I 0, I 0, I 0, I 0] := rfl
 rw [hz] at m1 f1
 refine c29 onlyT ?_
 rw [obL_some]
 refine whole1 (cf := cfTrm) (js := trmAt) (kind := 5) (word := wTerminal) m1.wf hs (by omega) rfl rfl cf_trm f1 fun r G2 ok hr o h1 h2 => ?_
 have m2 := new_le m1.wf 1 (ptrV (trmAt.map fun k => (G.next, k)))
 have d2 := d.one (m1.trans m2) (Nat.le_refl _) o
 have hlen := hr
 obtain ⟨n0, n1, n2, n3, n4, n5, n6, n7, n8, n9, n10, n11, rfl⟩ := len_twelve hr
 have R2 := o.row
 simp only [cfTrm, trmOf, Trm.cells] at R2
 have L2 := d2.box.vals
 unfold Cfg.vals at L2
 simp only [L2, R2.vals, Nat.zero_add, Nat.add_zero, Nat.reduceAdd, List.cons_append, List.nil_append, List.getElem?_cons_zero, List.getElem?_cons_succ, obB_some, obL_some, obI_some, letH_eq]
 have m3 := new_le d2.le.wf 14 ((trmOf [n0, n1, n2, n3, n4, n5, n6, n7, n8, n9, n10, n11]).cells none 0 0 none 0 0)
 have d3 := d2.ofLe m3
 have R3 := R2.le d2.le.wf m3
 have L3 := d3.box.vals
 unfold Cfg.vals at L3
 simp only [trmOf, Trm.cells] at R3 L3
 obtain ⟨b', G4, a1, q1, q2, q3⟩ := d3.term (t := trmOf [n0, n1, n2, n3, n4, n5, n6, n7, n8, n9, n10, n11]) rfl rfl htn (hs := G2.next) fun j _ => by rw [Nat.zero_add, new_load]
 simp only [trmOf, Trm.cells] at a1
 rw [a1, obG_some]
 obtain ⟨S, t1, t2, t3, _⟩ := q1.put q2.wf (i := 19) (ws := [.slice b' (p.tn + 1) (p.tn + 1)]) (us := [] ++ (c.vals p.fb p.fn p.fk b' (p.tn + 1) (p.tn + 1) ++ [.slice p.xb p.xn p.xk])) (by simp [Cfg.vals]) (by simp [oneCell]) rfl
 rw [t1, obH_some]
 have hnone : ∀ (A : Prop), obE1 (some (.slice none 0 0)) (.slice none 0 0) A = A := fun A => obE1_slice (by simp) A
 simp only [L3, R3.vals, List.cons_append, List.nil_append, List.getElem?_cons_zero, List.getElem?_cons_succ, obE1_int, obE1_slice d2.terms.spot, hnone]
 exact hQ _ ok _ _ S hlen h1 h2 (q3 S [] t2 t3) rfl rfl
end
end AM
end Go.Proofs.YtemcmblcogljkaaGreatDoor

namespace Go.Proofs.YtemcmblcogljkaaGreatDoor
namespace AM
open Go
open Go.Lib (decDigits itoa nDigits atoiAll atoiSat)
open TP
structure Two (X : AH) (hb hk : Nat) (r : List Int) (G : AH) : Prop where
 keep : Keep (fun g => g = hb ∨ g = hk) X G
 rb : Fresh G hb ((r.take 11).map I)
 rk : Fresh G hk ((r.drop 11).map I)
def ptr2 (hb hk : Nat) : List (Nat × Nat) := at1 hb 0 11 ++ at1 hk 0 4
theorem ptr2_lo {hb hk i : Nat} (h : i < 11) : (ptr2 hb hk)[i]? = some (hb, i) := by
 unfold ptr2
 rw [List.getElem?_append_left (by simp [at1]; omega), at1_get _ _ _ _ h, Nat.zero_add]
theorem ptr2_hi {hb hk i : Nat} (h : 11 ≤ i) (h' : i < 15) : (ptr2 hb hk)[i]? = some (hk, i - 11) := by
 unfold ptr2
 have : (at1 hb 0 11).length = 11 := by simp [at1]
 rw [List.getElem?_append_right (by omega), this, at1_get _ _ _ _ (by omega), Nat.zero_add]
theorem Two.step {X : AH} {hb hk : Nat} (hne : hb ≠ hk) {r : List Int} {G : AH} (h : Two X hb hk r G) (hw : WF G) (hr : r.length = 15) {i : Nat} (hi : i < 15) (x : Int) :
  ∃ p G', (ptr2 hb hk)[i]? = some p ∧ G.storeN p.1 p.2 [I x] = some G' ∧ Two X hb hk (r.set i x) G' ∧ Keep (fun g => g = hb ∨ g = hk) G G' := by
 by_cases h11 : i < 11
 ·obtain ⟨G', h1, h2, h3⟩ := box_step hw h.rb (j := i) (by simp; omega) x
  have k2 : Keep (fun g => g = hb ∨ g = hk) G G' := h2.mono fun g _ e => .inl e
  refine ⟨(hb, i), G', ptr2_lo h11, h1, ⟨Keep.trans h.keep k2 fun _ _ hh => hh, ?_, ?_⟩, k2⟩
  ·rw [List.take_set, ← set_ints]; exact h3
  ·rw [List.drop_set_of_lt h11]; exact h.rk.keep hw h2 fun e => hne e.symm
 ·obtain ⟨G', h1, h2, h3⟩ := box_step hw h.rk (j := i - 11) (by simp; omega) x
  have k2 : Keep (fun g => g = hb ∨ g = hk) G G' := h2.mono fun g _ e => .inr e
  refine ⟨(hk, i - 11), G', ptr2_hi (by omega) hi, h1, ⟨Keep.trans h.keep k2 fun _ _ hh => hh, ?_, ?_⟩, k2⟩
  ·rw [List.take_set_of_le (by omega)]; exact h.rb.keep hw h2 fun e => hne e
  ·rw [List.drop_set, if_neg (by omega), ← set_ints]; exact h3
theorem whole2 {s : List UInt8} {hb hk : Nat} {H : AH} {Q : Value → AH → Prop} (hw : WF H) (hs : s.length ≤ 1000000000) (hne : hb ≠ hk)
  (rb : Fresh H hb ((List.replicate 11 0).map I)) (rk : Fresh H hk ((List.replicate 4 0).map I))
  (hQ : ∀ r G ok, r.length = 15 → Two (H.new 1 (ptrV (ptr2 hb hk))) hb hk r G → (ok = true → wholeLine s wBearer 15 = some r) → (ok = false → wholeLine s wBearer 15 = none) → Q (.bool ok) G) :
  OK pmT 35 ⟨[.string (bs s), I (6 : Nat), .slice (some ⟨H.next, 0, none⟩) 15 15]⟩ (H.new 1 (ptrV (ptr2 hb hk))) Q := by
 have hl1 := rb.own.lt hw
 have hl2 := rk.own.lt hw
 have m1 := new_le hw 1 (ptrV (ptr2 hb hk))
 refine c35S (S := Two (H.new 1 (ptrV (ptr2 hb hk))) hb hk) (F := fun g => g = hb ∨ g = hk) (ptrs := ptr2 hb hk) (word := wBearer) m1.wf hs (by omega) rfl ⟨Keep.refl m1.wf, rb.le hw m1, rk.le hw m1⟩ (fun r G G' h hw' hl => ⟨Keep.trans h.keep hl fun _ _ hh => hh.elim, h.rb.le hw' hl, h.rk.le hw' hl⟩)
  (fun r G h => ?_) (fun r G i x h hw' hr hi => h.step hne hw' hr hi x) (fun g e => by rw [new_next]; omega) fun r G ok hr h hk h1 h2 => hQ r G ok hr h h1 h2
 have hs := (new_sli H 1 15 (cs := ptrV (ptr2 hb hk)) rfl (c := 15)).keep (new_wf hw _ _) h.keep fun g hg e => by
  have hg : g = rootOf (H.new 1 (ptrV (ptr2 hb hk))) H.next := hg
  rw [new_root] at hg; omega
 have h := hs.rd1 (fun a e => by injection e with e; subst e; rfl)
 rw [ptrV, List.map_map] at h
 exact h
section
variable {ω : Nat → Option Comp} {H0 G : AH} {h : Nat} {c : Cfg} {l : List Pkt} {p : Parts} {s : List UInt8} {Q : Value → AH → Prop}
theorem c57 {pm : Prims} (hp : Only pm) (d : Doc ω H0 G h [] c l p) {t : Trm} {tg : TG} (hi : c.terms[c.terms.length - 1]? = some t) (hg : p.tc[c.terms.length - 1]? = some tg) (hln : c.terms.length ≤ 1000000000)
  (hQ : ∀ a q, p.tb = some ⟨a, q, none⟩ → Q (.pointer (some ⟨a, q + (c.terms.length - 1) * 14, none⟩)) G) : OK pm 57 ⟨[.pointer (some ⟨h, 0, none⟩)]⟩ G Q := by
 have hlen := (List.getElem?_eq_some_iff.1 hi).1
 apply f57_ok hp
 have L0 := d.box.vals
 unfold Cfg.vals at L0
 obtain ⟨a, q, ha, hn, hc⟩ := d.place hi hg
 simp only [f57R, L0, Nat.zero_add, Nat.add_zero, Nat.reduceAdd, List.cons_append, List.nil_append, List.getElem?_cons_succ, List.getElem?_cons_zero, obL_some]
 rw [wrap_of (by omega) (by omega), show (p.tn : Int) - 1 = ((c.terms.length - 1 : Nat) : Int) by omega, ha, elemS_eq (by omega) (by omega), Int.toNat_natCast, obA_some]
 exact hQ a q ha
theorem pa_bear (d : Doc ω H0 G h [] c l p) (hs : s.length ≤ 1000000000) (he : p.tc = p.ts) {t : Trm} {tg : TG} (hi : c.terms[c.terms.length - 1]? = some t) (hg : p.tc[c.terms.length - 1]? = some tg) (hln : c.terms.length ≤ 1000000000) (hbn : tg.bn ≤ 1000000000) (hkn : tg.kn ≤ 1000000000)
  (hQ : ∀ r ok ω' p' G', r.length = 15 → (ok = true → wholeLine s wBearer 15 = some r) → (ok = false → wholeLine s wBearer 15 = none) → Doc ω' H0 G' h [] (c.addBear r) l p' → p'.tc = p'.ts → Q (.tuple ⟨[I 6, .bool ok]⟩) G') :
  letH (G.new 0 [.int .i64 0, .int .i64 0, .int .i64 0, .int .i64 0, .int .i64 0, .int .i64 0, .int .i64 0, .int .i64 0, .int .i64 0, .int .i64 0, .int .i64 0]) fun H77 =>
  letH (H77.new 0 [.int .i64 0, .int .i64 0, .int .i64 0, .int .i64 0]) fun H78 =>
  OK pmT 30 ⟨[.pointer (some ⟨G.next, 0, none⟩), .pointer (some ⟨H77.next, 0, none⟩)]⟩ H78 fun v79 H80 =>
  obL (some v79) fun b81 n81 k81 =>
  OK pmT 35 ⟨[.string (bs s), .int .i64 6, .slice b81 n81 k81]⟩ H80 fun v82 H83 =>
  obB (some v82) fun c84 =>
  OK pmT 57 ⟨[.pointer (some ⟨h, 0, none⟩)]⟩ H83 fun v85 H86 =>
  obA (some v85) fun h87 i87 =>
  obL (H86.load h87 (i87 + 2)) fun b88 n88 k88 =>
  obI .i64 (H86.load G.next (0 + 0)) fun x89 =>
  obI .i64 (H86.load G.next (0 + 1)) fun x90 =>
  obI .i64 (H86.load G.next (0 + 2)) fun x91 =>
  obI .i64 (H86.load G.next (0 + 3)) fun x92 =>
  obI .i64 (H86.load G.next (0 + 4)) fun x93 =>
  obI .i64 (H86.load G.next (0 + 5)) fun x94 =>
  obI .i64 (H86.load G.next (0 + 6)) fun x95 =>
  obI .i64 (H86.load G.next (0 + 7)) fun x96 =>
  obI .i64 (H86.load G.next (0 + 8)) fun x97 =>
  obI .i64 (H86.load G.next (0 + 9)) fun x98 =>
  obI .i64 (H86.load G.next (0 + 10)) fun x99 =>
  letH (H86.new 11 [.int .i64 x89, .int .i64 x90, .int .i64 x91, .int .i64 x92, .int .i64 x93, .int .i64 x94, .int .i64 x95, .int .i64 x96, .int .i64 x97, .int .i64 x98, .int .i64 x99]) fun H100 =>
  obL (H100.load h87 (i87 + 3)) fun b101 n101 k101 =>
  obI .i64 (H100.load H77.next (0 + 0)) fun x102 =>
  obI .i64 (H100.load H77.next (0 + 1)) fun x103 =>
  obI .i64 (H100.load H77.next (0 + 2)) fun x104 =>
  obI .i64 (H100.load H77.next (0 + 3)) fun x105 =>
  letH (H100.new 4 [.int .i64 x102, .int .i64 x103, .int .i64 x104, .int .i64 x105]) fun H106 =>
  obG (appendV 11 88 H106 (.slice b88 n88 k88) (.slice (some ⟨H86.next, 0, none⟩) 1 1)) fun b107 n107 k107 H108 =>
  obG (appendV 4 32 H108 (.slice b101 n101 k101) (.slice (some ⟨H100.next, 0, none⟩) 1 1)) fun b109 n109 k109 H110 =>
  obH (H110.storeN h87 (i87 + 2) [.slice b107 n107 k107]) fun H111 =>
  obH (H111.storeN h87 (i87 + 3) [.slice b109 n109 k109]) fun H112 =>
  obE1 (H106.load h87 (i87 + 2)) (.slice b88 n88 k88) (
  obE1 (H106.load G.next (0 + 0)) (.int .i64 x89) (
  obE1 (H106.load G.next (0 + 1)) (.int .i64 x90) (
  obE1 (H106.load G.next (0 + 2)) (.int .i64 x91) (
  obE1 (H106.load G.next (0 + 3)) (.int .i64 x92) (
  obE1 (H106.load G.next (0 + 4)) (.int .i64 x93) (
  obE1 (H106.load G.next (0 + 5)) (.int .i64 x94) (
  obE1 (H106.load G.next (0 + 6)) (.int .i64 x95) (
  obE1 (H106.load G.next (0 + 7)) (.int .i64 x96) (
  obE1 (H106.load G.next (0 + 8)) (.int .i64 x97) (
  obE1 (H106.load G.next (0 + 9)) (.int .i64 x98) (
  obE1 (H106.load G.next (0 + 10)) (.int .i64 x99) (
  obE1 (H108.load h87 (i87 + 3)) (.slice b101 n101 k101) (
  obE1 (H106.load h87 (i87 + 3)) (.slice b101 n101 k101) (
  obE1 (H108.load H77.next (0 + 0)) (.int .i64 x102) (
  obE1 (H108.load H77.next (0 + 1)) (.int .i64 x103) (
  obE1 (H108.load H77.next (0 + 2)) (.int .i64 x104) (
  obE1 (H108.load H77.next (0 + 3)) (.int .i64 x105) (
  obE1 (H106.load H77.next (0 + 0)) (.int .i64 x102) (
  obE1 (H106.load H77.next (0 + 1)) (.int .i64 x103) (
  obE1 (H106.load H77.next (0 + 2)) (.int .i64 x104) (
  obE1 (H106.load H77.next (0 + 3)) (.int .i64 x105) (
  Q (.tuple ⟨[.int .i64 6, .bool c84]⟩) H112)))))))))))))))))))))) := by
 have hw := d.le.wf
 have hlen := (List.getElem?_eq_some_iff.1 hi).1
 rw [letH_eq, letH_eq]
 have m1 := new_le hw 0 ([0, 0, 0, 0, 0, 0, 0, 0, 0, 0, 0].map I)
 have f1 := Fresh.new G 0 ([0, 0, 0, 0, 0, 0, 0, 0, 0, 0, 0].map I)
 simp only [List.map_cons, List.map_nil] at m1 f1
 have hn1 : (G.new 0 [I 0, I 0, I 0, I 0, I 0, I 0, I 0, I 0, I 0, I 0, I 0]).next = G.next + 1 := rfl
 generalize G.new 0 [I 0, I 0, I 0, I 0, I 0, I 0, I 0, I 0, I 0, I 0, I 0] = G1 at *
 have m2 := new_le m1.wf 0 ([0, 0, 0, 0].map I)
 have f2 := Fresh.new G1 0 ([0, 0, 0, 0].map I)
 simp only [List.map_cons, List.map_nil] at m2 f2
 have f1 := f1.le m1.wf m2
 have m12 := m1.trans m2
 have hn2 : (G1.new 0 [I 0, I 0, I 0, I 0]).next = G.next + 2 := by rw [new_next, hn1]
 generalize G1.new 0 [I 0, I 0, I 0, I 0] = G2 at *
 rw [hn1] at f2 ⊢
 refine c30 onlyT ?_
 rw [obL_some]
 have m3 := new_le m12.wf 1 (ptrV (ptr2 G.next (G.next + 1)))
 refine whole2 (hb := G.next) (hk := G.next + 1) m12.wf hs (by omega) f1 f2 fun r G3 ok hr o h1 h2 => ?_
 have d3 : Doc ω H0 G3 h [] c l p := (d.ofLe (m12.trans m3)).keep o.keep (fun g e => by
  cases e2 : ω g with
  | none => rfl
  | some k => have := d.dom g k e2; omega) fun g e => by have := d.le.next; omega
 have hlen15 := hr
 obtain ⟨n0, n1, n2, n3, n4, n5, n6, n7, n8, n9, n10, n11, n12, n13, n14, rfl⟩ := len_fifteen hr
 have B3 := o.rb
 have K3 := o.rk
 simp only [List.take, List.drop, List.map_cons, List.map_nil] at B3 K3
 rw [obB_some]
 refine c57 onlyT d3 hi hg hln fun a q ha => ?_
 have hw3 := d3.le.wf
 obtain ⟨a', q', ha', _, hc⟩ := d3.place hi hg
 have eaq := ha.symm.trans ha'
 simp only [Option.some.injEq, Addr.mk.injEq, and_true] at eaq
 obtain ⟨rfl, rfl⟩ := eaq
 rw [obA_some, hc 2 (by omega)]
 simp only [Trm.cells, B3.vals, Nat.zero_add, Nat.reduceAdd, List.getElem?_cons_zero, List.getElem?_cons_succ, obL_some, obI_some, letH_eq]
 have m4 := new_le hw3 11 [I n0, I n1, I n2, I n3, I n4, I n5, I n6, I n7, I n8, I n9, I n10]
 have hb3 : G3.next ≥ G.next + 2 := by have := o.keep.next; rw [new_next, hn2] at this; omega
 have d4 := d3.ofLe m4
 have B4 := B3.le hw3 m4
 have K4 := K3.le hw3 m4
 have s11 : ∀ j, j < ([n0, n1, n2, n3, n4, n5, n6, n7, n8, n9, n10].map I).length → (G3.new 11 [I n0, I n1, I n2, I n3, I n4, I n5, I n6, I n7, I n8, I n9, I n10]).load G3.next (0 + j) = ([n0, n1, n2, n3, n4, n5, n6, n7, n8, n9, n10].map I)[j]? := fun j _ => by rw [Nat.zero_add, new_load]; rfl
 have hn4 : (G3.new 11 [I n0, I n1, I n2, I n3, I n4, I n5, I n6, I n7, I n8, I n9, I n10]).next = G3.next + 1 := rfl
 generalize G3.new 11 [I n0, I n1, I n2, I n3, I n4, I n5, I n6, I n7, I n8, I n9, I n10] = G4 at *
 have hc43 := m4.cells hw3 hc (by simp [Trm.cells])
 rw [hc43 3 (by omega)]
 simp only [Trm.cells, K4.vals, Nat.zero_add, Nat.reduceAdd, List.getElem?_cons_zero, List.getElem?_cons_succ, obL_some, obI_some]
 have m5 := new_le m4.wf 4 [I n11, I n12, I n13, I n14]
 have d5 := d4.ofLe m5
 have B5 := B4.le m4.wf m5
 have K5 := K4.le m4.wf m5
 have hc5 := m5.cells m4.wf hc43 (by simp [Trm.cells])
 have s4 : ∀ j, j < ([n11, n12, n13, n14].map I).length → (G4.new 4 [I n11, I n12, I n13, I n14]).load G4.next (0 + j) = ([n11, n12, n13, n14].map I)[j]? := fun j _ => by rw [Nat.zero_add, new_load]; rfl
 have s11' : ∀ j, j < ([n0, n1, n2, n3, n4, n5, n6, n7, n8, n9, n10].map I).length → (G4.new 4 [I n11, I n12, I n13, I n14]).load G3.next (0 + j) = ([n0, n1, n2, n3, n4, n5, n6, n7, n8, n9, n10].map I)[j]? := fun j hj => by
  have := s11 j hj
  rw [List.getElem?_eq_getElem hj] at this ⊢
  exact m5.load m4.wf this
 have hn5 : (G4.new 4 [I n11, I n12, I n13, I n14]).next = G3.next + 2 := by rw [new_next, hn4]
 have r4 : rootOf (G4.new 4 [I n11, I n12, I n13, I n14]) G4.next = G4.next := new_root _ _ _
 generalize G4.new 4 [I n11, I n12, I n13, I n14] = G5 at *
 obtain ⟨b', G6, a1, k6, d6⟩ := d5.bear hi (by rw [← he]; exact hg) (r := [n0, n1, n2, n3, n4, n5, n6, n7, n8, n9, n10]) rfl hbn (hs := G3.next) s11'
 have ob : ∀ g, rootB G5 tg.bb g → g < G.next := fun g hh => d.dom g _ ((d5.bears _ t tg hi (by rw [← he]; exact hg)).own g hh)
 rw [a1, obG_some]
 have K6 := K5.keep m5.wf k6 fun hh => by have := ob _ hh; omega
 have s46 : ∀ j, j < ([n11, n12, n13, n14].map I).length → G6.load G4.next (0 + j) = ([n11, n12, n13, n14].map I)[j]? := fun j hj => by
  rw [k6.load m5.wf (by rw [hn5, hn4]; omega) (fun hh => by rw [r4] at hh; have := ob _ hh; omega)]
  exact s4 j hj
 have hil2 : (c.terms.set (c.terms.length - 1) { t with bears := t.bears ++ [[n0, n1, n2, n3, n4, n5, n6, n7, n8, n9, n10]] })[c.terms.length - 1]? = some { t with bears := t.bears ++ [[n0, n1, n2, n3, n4, n5, n6, n7, n8, n9, n10]] } := by rw [List.getElem?_set_self hlen]
 have hgl := (List.getElem?_eq_some_iff.1 hg).1
 have hg6 : (p.ts.set (c.terms.length - 1) { tg with bb := b', bn := tg.bn + 1, bk := tg.bn + 1 })[c.terms.length - 1]? = some { tg with bb := b', bn := tg.bn + 1, bk := tg.bn + 1 } := by rw [← he, List.getElem?_set_self hgl]
 obtain ⟨a6, q6, ha6, _, hc6⟩ := d6.place hil2 hg
 have eaq := ha.symm.trans ha6
 simp only [Option.some.injEq, Addr.mk.injEq, and_true] at eaq
 obtain ⟨rfl, rfl⟩ := eaq
 obtain ⟨b'', G7, a2, k7, d7⟩ := d6.buck hil2 hg6 (r := [n11, n12, n13, n14]) rfl hkn (hs := G4.next) s46
 rw [a2, obG_some]
 have hil5 : ((c.terms.set (c.terms.length - 1) { t with bears := t.bears ++ [[n0, n1, n2, n3, n4, n5, n6, n7, n8, n9, n10]] }).set (c.terms.length - 1) { t with bears := t.bears ++ [[n0, n1, n2, n3, n4, n5, n6, n7, n8, n9, n10]], bucks := t.bucks ++ [[n11, n12, n13, n14]] })[c.terms.length - 1]? = some { t with bears := t.bears ++ [[n0, n1, n2, n3, n4, n5, n6, n7, n8, n9, n10]], bucks := t.bucks ++ [[n11, n12, n13, n14]] } := by rw [List.getElem?_set_self (by rw [List.length_set]; exact hlen)]
 obtain ⟨G8, u1, k8, _, d8⟩ := d7.cell (tg := tg) (tg' := { tg with bb := b', bn := tg.bn + 1, bk := tg.bn + 1 }) hil5 hg (j := 2) (v := .slice b' (tg.bn + 1) (tg.bn + 1)) (by omega) rfl rfl ha
 rw [u1, obH_some]
 have hg8 : (p.tc.set (c.terms.length - 1) { tg with bb := b', bn := tg.bn + 1, bk := tg.bn + 1 })[c.terms.length - 1]? = some { tg with bb := b', bn := tg.bn + 1, bk := tg.bn + 1 } := by rw [List.getElem?_set_self hgl]
 obtain ⟨G9, u2, k9, _, d9⟩ := d8.cell (tg := { tg with bb := b', bn := tg.bn + 1, bk := tg.bn + 1 }) (tg' := { tg with bb := b', bn := tg.bn + 1, bk := tg.bn + 1, kb := b'', kn := tg.kn + 1, kk := tg.kn + 1 }) hil5 hg8 (j := 3) (v := .slice b'' (tg.kn + 1) (tg.kn + 1)) (by omega) rfl rfl ha
 rw [u2, obH_some]
 rw [hc5 2 (by omega), hc5 3 (by omega), hc6 3 (by omega)]
 simp only [Trm.cells, B5.vals, K5.vals, K6.vals, List.getElem?_cons_zero, List.getElem?_cons_succ, obE1_int]
 rw [obE1_slice (d5.bears _ t tg hi (by rw [← he]; exact hg)).spot, obE1_slice (d5.bucks _ t tg hi (by rw [← he]; exact hg)).spot, obE1_slice (d5.bucks _ t tg hi (by rw [← he]; exact hg)).spot]
 have e : c.addBear [n0, n1, n2, n3, n4, n5, n6, n7, n8, n9, n10, n11, n12, n13, n14] = { c with terms := (c.terms.set (c.terms.length - 1) { t with bears := t.bears ++ [[n0, n1, n2, n3, n4, n5, n6, n7, n8, n9, n10]] }).set (c.terms.length - 1) { t with bears := t.bears ++ [[n0, n1, n2, n3, n4, n5, n6, n7, n8, n9, n10]], bucks := t.bucks ++ [[n11, n12, n13, n14]] } } := by
  rw [Cfg.addBear, hi, List.set_set]; rfl
 rw [← e] at d9
 exact hQ _ ok _ _ G9 hlen15 h1 h2 d9 (by simp only [he])
end
end AM
end Go.Proofs.YtemcmblcogljkaaGreatDoor

namespace Go.Proofs.YtemcmblcogljkaaGreatDoor
namespace AM
open Go
open Go.Lib (decDigits itoa nDigits atoiAll atoiSat)
open TP
def pktIs (r : List Int) (d : List UInt8) : Pkt := ⟨r.getD 0 0, r.getD 1 0, r.getD 2 0, r.getD 3 0, d⟩
theorem read_small {s word : List UInt8} {k : Nat} {ns : List Int} {rest : List (List UInt8)} (h : readLine s word k = some (ns, rest)) : ∀ q ∈ rest, q.length ≤ s.length := fun q hq => by
 have h3 := (readLine_some h).2.2.1
 have : q.length ≤ (rest.flatMap fun q => 32 :: q).length := by
  generalize rest = R at hq
  induction R with
  | nil => cases hq
  | cons a R ih =>
   rw [List.flatMap_cons, List.length_append]
   rcases List.mem_cons.1 hq with rfl | hq
   ·simp; omega
   ·have := ih hq; omega
 rw [h3, List.length_append]; omega
section
variable {ω : Nat → Option Comp} {H0 G : AH} {h : Nat} {c : Cfg} {l : List Pkt} {p : Parts} {s : List UInt8} {Q : Value → AH → Prop}
theorem pa_pkt (d : Doc ω H0 G h [] c l p) (hs : s.length ≤ 1000000000) (hxn : p.xn ≤ 1000000000)
  (hno : ∀ G', Le H0 G' → packetLine s wPacket 4 = none → Q (.tuple ⟨[I 0, .bool false]⟩) G')
  (hQ : ∀ r dat ω' p' G', packetLine s wPacket 4 = some (r, dat) → Doc ω' H0 G' h [] c (l ++ [pktIs r dat]) p' → p'.tc = p.tc → p'.ts = p.ts → Q (.tuple ⟨[I 7, .bool true]⟩) G') :
  letH (G.new 0 [.int .i64 0, .int .i64 0, .int .i64 0, .int .i64 0, .slice none 0 0]) fun H115 =>
  OK pmT 31 ⟨[.pointer (some ⟨G.next, 0, none⟩)]⟩ H115 fun v116 H117 =>
  obL (some v116) fun b118 n118 k118 =>
  OK pmT 55 ⟨[.string (bs s), .int .i64 7, .slice b118 n118 k118]⟩ H117 fun v119 H120 =>
  obL (tupV 0 v119) fun b122 n122 k122 =>
  obB (tupV 1 v119) fun c123 =>
  join2 (fun J124 =>
  ifB (!c123) (
  J124 true H120) (
  J124 ((n122 : Int) != 1) H120)) fun c125 H126 =>
  ifB c125 (
  Q (.tuple ⟨[.int .i64 0, .bool false]⟩) H126) (
  obA (elemS 1 (.slice b122 n122 k122) (.int .i64 0)) fun h127 i127 =>
  obS (H126.load h127 i127) fun s128 =>
  OK pmT 58 ⟨[.string s128]⟩ H126 fun v129 H130 =>
  obL (some v129) fun b131 n131 k131 =>
  join2 (fun J132 =>
  ifB ((n131 : Int) == 0) (
  J132 true H130) (
  OK pmT 32 ⟨[.slice b131 n131 k131]⟩ H130 fun v133 H134 =>
  obS (some v133) fun s135 =>
  obA (elemS 1 (.slice b122 n122 k122) (.int .i64 0)) fun h136 i136 =>
  obS (H134.load h136 i136) fun s137 =>
  obE1 (H130.load h136 i136) (.string s137) (
  J132 (!(s135.data.toList == s137.data.toList)) H134))) fun c138 H139 =>
  ifB c138 (
  Q (.tuple ⟨[.int .i64 0, .bool false]⟩) H139) (
  obH (H139.storeN G.next (0 + 4) [.slice b131 n131 k131]) fun H140 =>
  obL (H140.load h (0 + 20)) fun b141 n141 k141 =>
  obI .i64 (H140.load G.next (0 + 0)) fun x142 =>
  obI .i64 (H140.load G.next (0 + 1)) fun x143 =>
  obI .i64 (H140.load G.next (0 + 2)) fun x144 =>
  obI .i64 (H140.load G.next (0 + 3)) fun x145 =>
  obL (H140.load G.next (0 + 4)) fun b146 n146 k146 =>
  letH (H140.new 5 [.int .i64 x142, .int .i64 x143, .int .i64 x144, .int .i64 x145, .slice b146 n146 k146]) fun H147 =>
  obG (appendV 5 56 H147 (.slice b141 n141 k141) (.slice (some ⟨H140.next, 0, none⟩) 1 1)) fun b148 n148 k148 H149 =>
  obH (H149.storeN h (0 + 20) [.slice b148 n148 k148]) fun H150 =>
  obE1 (H147.load h (0 + 20)) (.slice b141 n141 k141) (
  obE1 (H147.load G.next (0 + 0)) (.int .i64 x142) (
  obE1 (H147.load G.next (0 + 1)) (.int .i64 x143) (
  obE1 (H147.load G.next (0 + 2)) (.int .i64 x144) (
  obE1 (H147.load G.next (0 + 3)) (.int .i64 x145) (
  obE1 (H147.load G.next (0 + 4)) (.slice b146 n146 k146) (
  Q (.tuple ⟨[.int .i64 7, .bool true]⟩) H150)))))))) := by
 have hw := d.le.wf
 rw [letH_eq]
 have m1 := new_le hw 0 (cfPkt [0, 0, 0, 0])
 have f1 := Fresh.new G 0 (cfPkt [0, 0, 0, 0])
 simp only [cfPkt, List.map_cons, List.map_nil, List.cons_append, List.nil_append] at m1 f1
 have hn1 : (G.new 0 [I 0, I 0, I 0, I 0, .slice none 0 0]).next = G.next + 1 := rfl
 refine c31 onlyT ?_
 rw [obL_some]
 have m2 := new_le m1.wf 1 (ptrV ((List.range 4).map fun k => (G.next, k)))
 refine read1 (cf := cfPkt) (js := List.range 4) (kind := 7) (word := wPacket) m1.wf hs (by omega) rfl rfl cf_pkt f1 (fun G2 hk hr => ?_) fun r rest G2 b' k' hr o h1 hsl hsp => ?_
 ·simp only [tupV_eq, List.getElem?_cons_zero, List.getElem?_cons_succ, obL_some, obB_some, join2, Bool.not_false, ifB_true]
  refine hno G2 ?_ (by unfold packetLine; rw [hr])
  exact Keep.trans (d.le.trans (m1.trans m2)) hk fun g hg e => by have := d.le.next; omega
 have d2 := d.one (m1.trans m2) (Nat.le_refl _) o
 simp only [tupV_eq, List.getElem?_cons_zero, List.getElem?_cons_succ, obL_some, obB_some]
 have hj : ∀ K : Bool → AH → Prop, join2 (fun J => ifB (!true) (J true G2) (J ((rest.length : Int) != 1) G2)) K = K ((rest.length : Int) != 1) G2 := fun K => rfl
 rw [hj]
 refine ifB_intro (fun hc => ?_) (fun hc => ?_)
 ·refine hno G2 d2.le ?_
  have hc : rest.length ≠ 1 := fun e => by rw [e] at hc; exact absurd hc (by decide)
  unfold packetLine
  rw [h1]
  match rest, hc with
  | [], _ => rfl
  | [q], h => exact absurd rfl h
  | q :: q2 :: R, _ => rfl
 have hc : rest.length = 1 := by
  have : (rest.length : Int) = 1 := by simpa using hc
  omega
 obtain ⟨q, rfl⟩ : ∃ q, rest = [q] := List.length_eq_one_iff.1 hc
 have hq := read_small h1 q (by simp)
 have hpl : packetLine s wPacket 4 = if unhex q ≠ [] ∧ hexOf (unhex q) = q then some (r, unhex q) else none := by unfold packetLine; rw [h1]
 have hspot : ∀ a, some b' = some a → a.spot = none := fun a e => by injection e with e; subst e; exact hsp
 have hw2 := d2.le.wf
 have tok : ∀ {X : AH}, Le G2 X → ∃ a j, elemS 1 (.slice (some b') 1 k') (.int .i64 0) = some (.pointer (some ⟨a, j, none⟩)) ∧ X.load a j = some (.string (bs q)) := fun {X} hx => by
  obtain ⟨a, j, e1, e2⟩ := ((hsl.le hw2 hx).rd1 hspot).elem (k := k') (strs_get (show [q][0]? = some q from rfl)) (kk := .i64)
  have e2 := e2 0 (by omega)
  rw [Nat.add_zero] at e2
  exact ⟨a, j, e1, e2⟩
 obtain ⟨a, j, e1, e2⟩ := tok (Keep.refl hw2)
 rw [show ([q] : List (List UInt8)).length = 1 from rfl, e1, obA_some, e2, obS_some]
 refine c58 (by omega) hw2 fun G3 b n g3 hsd hrootd hspotd => ?_
 have d3 := d2.ofLe g3
 have R3 := o.row.le hw2 g3
 have hn : n = (unhex q).length := by have := hsd.len; simpa [byteVals] using this.symm
 have e3 := g3.load hw2 e2
 rw [obL_some]
 simp only [join2, e1, obA_some, e3, obE1_str, obS_some]
 refine ifB_intro (fun hz => ?_) (fun hz => ?_)
 ·rw [ifB_true]
  have hz : (n : Int) = 0 := by simpa using hz
  refine hno G3 d3.le ?_
  rw [hpl, if_neg fun hh => hh.1 (List.eq_nil_of_length_eq_zero (by omega))]
 have hz : ¬ (n : Int) = 0 := by simpa using hz
 have hne : unhex q ≠ [] := fun e => hz (by rw [hn, e]; rfl)
 have hul := unhex_len q
 refine c32 (b := b) (n := n) (k := n) (l := unhex q) (by have := hsd.rd1 hspotd; rw [byteVals, List.map_map] at this; exact this) hne (by omega) ?_
 rw [obS_some, e3, obS_some, obE1_str, bs_list, bs_list]
 refine ifB_intro (fun hx => ?_) (fun hx => ?_)
 ·refine hno G3 d3.le ?_
  rw [hpl, if_neg fun hh => ?_]
  rw [hh.2] at hx; simp at hx
 have hx : hexOf (unhex q) = q := by simpa using hx
 rw [if_pos ⟨hne, hx⟩] at hpl
 have hr4 := hr
 obtain ⟨n0, n1, n2, n3, rfl⟩ := len_four hr4
 have hw3 := d3.le.wf
 have R3' : Fresh G3 G.next [I n0, I n1, I n2, I n3, .slice none 0 0] := R3
 obtain ⟨G4, t1, t2, t3, _⟩ := R3'.put hw3 (i := 4) (ws := [.slice b n n]) (us := [I n0, I n1, I n2, I n3, .slice b n n]) (by simp) (by simp [oneCell]) rfl
 rw [show 0 + 4 = 4 from rfl, t1, obH_some]
 have d4 := d3.keep t2 (fun g e => by
  cases e2 : ω g with
  | none => rfl
  | some k => have := d.dom g k e2; omega) fun g e => by have := d.le.next; omega
 have hG2 : G.next < G2.next := by have h1 := o.keep.next; rw [new_next, new_next] at h1; omega
 have hsd4 := hsd.keep hw3 t2 fun g hg e => by have := hrootd g hg; omega
 have hrootd4 : ∀ g, rootB G4 b g → G2.next ≤ g := fun g hg => hrootd g ((rootB_keep hw3 t2 hsd g).1 hg)
 have hw4 := d4.le.wf
 have L4 := d4.box.vals
 unfold Cfg.vals at L4
 simp only [L4, t3.vals, Nat.zero_add, List.cons_append, List.nil_append, List.getElem?_cons_zero, List.getElem?_cons_succ, obL_some, obI_some, letH_eq]
 have m5 := new_le hw4 5 [I n0, I n1, I n2, I n3, .slice b n n]
 have d5 := d4.ofLe m5
 have R5 := t3.le hw4 m5
 have hsd5 := hsd4.le hw4 m5
 have hfree : ∀ g, rootB (G4.new 5 [I n0, I n1, I n2, I n3, .slice b n n]) b g → ω g = none ∧ H0.next ≤ g := fun g hg => by
  have h1 := hrootd4 g ((rootB_keep hw4 m5 hsd4 g).1 hg)
  have h2 := d.le.next
  refine ⟨?_, by omega⟩
  cases e : ω g with
  | none => rfl
  | some k => have := d.dom g k e; omega
 have d6 := d5.claim hsd5 hfree (.data l.length)
 have L5 := d5.box.vals
 unfold Cfg.vals at L5
 obtain ⟨b2, G6, q0, q1, q2, q3⟩ := d6.packet (x := ⟨n0, n1, n2, n3, unhex q⟩) (db := b) (dn := n) (dk := n) ⟨hsd5, fun hh => absurd rfl (hh l.length), fun g hg => ownR_self hg, hspotd⟩ hxn (hs := G4.next) fun j _ => by rw [Nat.zero_add, new_load]; rfl
 rw [q0, obG_some]
 obtain ⟨S, u1, u2, u3, _⟩ := q1.put q2.wf (i := 20) (ws := [.slice b2 (p.xn + 1) (p.xn + 1)]) (us := [] ++ (c.vals p.fb p.fn p.fk p.tb p.tn p.tk ++ [.slice b2 (p.xn + 1) (p.xn + 1)])) (by simp [Cfg.vals]) (by simp [oneCell]) rfl
 rw [u1, obH_some]
 simp only [L5, R5.vals, List.cons_append, List.nil_append, List.getElem?_cons_zero, List.getElem?_cons_succ, obE1_int, obE1_slice d.pkts.spot, obE1_slice hspotd]
 exact hQ _ _ _ _ S hpl (q3 S [] u2 u3) rfl rfl
end
end AM
end Go.Proofs.YtemcmblcogljkaaGreatDoor

