/- What any text means: both readers. -/
import Derived.Test.YtemcmblcogljkaaGreatDoorCj
set_option linter.all false
set_option linter.unusedSimpArgs false
set_option linter.unusedVariables false
namespace Go.Proofs.YtemcmblcogljkaaGreatDoor
namespace AM
open Go
open Go.Lib (decDigits itoa nDigits atoiAll atoiSat)
open TP
theorem stepS_data {part : Int} {c : Cfg} {l : List Pkt} {s w : List UInt8} {B : Nat} (hs : s.length ≤ B) (hl : ∀ p ∈ l, p.data.length ≤ B) {q : Int × Cfg × List Pkt} (h : stepS part c l s w = some q) : ∀ p ∈ q.2.2, p.data.length ≤ B := by
 have hd : (pktOf s).data.length ≤ B := by
  have := cutAt_small (c := 32) (s := s) (List.getLast_mem (cutAt_ne 32 s))
  have := unhex_len ((cutAt 32 s).getLast (cutAt_ne 32 s))
  show (refBytes s).length ≤ _
  unfold refBytes; omega
 unfold stepS at h
 split at h; · injection h with h; subst h; exact hl
 split at h; · injection h with h; subst h; exact hl
 split at h; · injection h with h; subst h; exact hl
 split at h; · injection h with h; subst h; exact hl
 split at h; · injection h with h; subst h; exact hl
 split at h; · injection h with h; subst h; exact hl
 split at h; · injection h with h; subst h; exact hl
 split at h
 ·injection h with h; subst h
  intro p hp
  rcases List.mem_append.1 hp with hp | hp
  ·exact hl p hp
  ·simp only [List.mem_singleton] at hp; subst hp; exact hd
 ·cases h
theorem go_good {B : Nat} (hB : B ≤ 1000000000) : ∀ (r : List (List UInt8)) (i : Nat) (part : Int) (c : Cfg) (l : List Pkt) (q : Int × Cfg × List Pkt), (∀ x ∈ r, x.length ≤ B) → GoodC (4 + i) part c l → (∀ p ∈ l, p.data.length ≤ B) → refGo i r part c l = .inr q → GoodC (4 + i + r.length) q.1 q.2.1 q.2.2 ∧ ∀ p ∈ q.2.2, p.data.length ≤ B
 | [], i, part, c, l, q, _, g, hl, h => by
  simp only [refGo, Sum.inr.injEq] at h
  subst h
  exact ⟨g, hl⟩
 | x :: r, i, part, c, l, q, hr, g, hl, h => by
  unfold refGo at h
  cases hs : stepS part c l x (wordOf x) with
  | none => rw [hs] at h; cases h
  | some q1 =>
   rw [hs] at h
   simp only at h
   have hx := hr x (by simp)
   split at h
   ·have g1 := (g.step (by omega) hs).1
    rw [Nat.add_assoc] at g1
    have := go_good hB r (i + 1) q1.1 q1.2.1 q1.2.2 q (fun y hy => hr y (by simp [hy])) g1 (stepS_data hx hl hs) h
    rw [List.length_cons, show 4 + i + (r.length + 1) = 4 + (i + 1) + r.length by omega]
    exact this
   ·cases h
theorem lineOf_len {w : List UInt8} {ns : List Int} {K : Nat} (hw : w.length ≤ 8) (hn : ∀ n ∈ ns, AM.nb n) (hk : ns.length ≤ K) : (lineOf w ns).length ≤ 8 + 21 * K := by
 have := spaced_len (ns := ns) hn
 unfold lineOf
 rw [List.length_append]
 have : 21 * ns.length ≤ 21 * K := Nat.mul_le_mul_left 21 hk
 omega
theorem getD_mem {L : List (List Int)} {i : Nat} {d : List Int} {P : List Int → Prop} (h : ∀ r ∈ L, P r) (hd : P d) : P (L.getD i d) := by
 rw [List.getD_eq_getElem?_getD]
 cases e : L[i]? with
 | none => exact hd
 | some r => exact h r (List.mem_of_getElem? e)
theorem text_small {c : Cfg} {l : List Pkt} (hc : c.shaped) (hn : c.nb) (hl : ∀ p ∈ l, p.nb) {B : Nat} (hb : ∀ p ∈ l, p.data.length ≤ B) : ∀ x ∈ textOf c l, x.length ≤ 400 + 2 * B := fun x hx => by
 unfold textOf at hx
 rcases List.mem_append.1 hx with hx | hx
 ·rcases List.mem_append.1 hx with hx | hx
  ·rcases List.mem_append.1 hx with hx | hx
   ·simp only [Cfg.heads, List.mem_cons, List.not_mem_nil, or_false] at hx
    rcases hx with rfl | rfl | rfl | rfl
    ·have := lineOf_len (w := wNetwork) (K := 15) (by decide) hn.1.1 (by simp); omega
    ·have := lineOf_len (w := wPatience) (K := 15) (by decide) hn.1.2.1 (by simp); omega
    ·have := lineOf_len (w := wRule) (K := 15) (by decide) hn.1.2.2.1 (by simp); omega
    ·have := lineOf_len (w := wOuter) (K := 15) (by decide) hn.1.2.2.2 (by simp); omega
   ·obtain ⟨r, hr, rfl⟩ := List.mem_map.1 hx
    have := lineOf_len (w := wFade) (K := 15) (by decide) (hn.2.1 r hr) (by rw [hc.1 r hr]; omega); omega
  ·obtain ⟨t, ht, hx⟩ := List.mem_flatMap.1 hx
   have htn := hn.2.2 t ht
   have hts := hc.2 t ht
   unfold Trm.lines at hx
   rcases List.mem_cons.1 hx with rfl | hx
   ·have := lineOf_len (w := wTerminal) (K := 15) (by decide) htn.1 (by simp [Trm.nums]); omega
   ·obtain ⟨i, _, rfl⟩ := List.mem_map.1 hx
    have h1 : (∀ n ∈ t.bears.getD i [], AM.nb n) ∧ (t.bears.getD i []).length ≤ 11 := getD_mem (P := fun r => (∀ n ∈ r, AM.nb n) ∧ r.length ≤ 11) (fun r hr => ⟨htn.2.1 r hr, by rw [hts.1 r hr]; omega⟩) ⟨fun n hn => (by cases hn), by simp⟩
    have h2 : (∀ n ∈ t.bucks.getD i [0, 0, 0, 0], AM.nb n) ∧ (t.bucks.getD i [0, 0, 0, 0]).length ≤ 4 := getD_mem (P := fun r => (∀ n ∈ r, AM.nb n) ∧ r.length ≤ 4) (fun r hr => ⟨htn.2.2 r hr, by rw [hts.2 r hr]; omega⟩) ⟨fun n hn => (by simp at hn; subst hn; unfold AM.nb; omega), by simp⟩
    have := lineOf_len (w := wBearer) (ns := t.bears.getD i [] ++ t.bucks.getD i [0, 0, 0, 0]) (K := 15) (by decide) (fun n hn => by
     rcases List.mem_append.1 hn with hn | hn
     ·exact h1.1 n hn
     ·exact h2.1 n hn) (by rw [List.length_append]; omega)
    unfold Trm.bear
    omega
 ·obtain ⟨p, hp, rfl⟩ := List.mem_map.1 hx
  have := lineOf_len (w := wPacket) (ns := p.nums) (K := 15) (by decide) (hl p hp).1 (by simp [Pkt.nums])
  have hd := hb p hp
  unfold Pkt.line
  rw [List.length_append, List.length_cons, hexOf_len]
  omega
theorem ends_len {L : List (List UInt8)} {K : Nat} (h : ∀ x ∈ L, x.length ≤ K) : (ends L).length ≤ L.length * (K + 1) := by
 induction L with
 | nil => simp [ends]
 | cons x L ih =>
  have h1 := h x (by simp)
  have h2 := ih fun y hy => h y (by simp [hy])
  unfold ends at h2 ⊢
  have e : (x :: L).length * (K + 1) = L.length * (K + 1) + (K + 1) := by rw [List.length_cons, Nat.succ_mul]
  rw [List.flatMap_cons, List.length_append, List.length_append, e]
  simp only [List.length_cons, List.length_nil]
  omega
structure Fair (c : Cfg) (l : List Pkt) : Prop where
 sh : c.shaped
 nb : c.nb
 pk : ∀ p ∈ l, p.nb
 lines : (textOf c l).length ≤ 100000000
 bytes : (ends (textOf c l)).length ≤ 1000000000000
theorem fair_of {c : Cfg} {l : List Pkt} {N : Nat} {part : Int} (g : GoodC N part c l) {B : Nat} (hb : ∀ p ∈ l, p.data.length ≤ B) (hN : N ≤ 200000) (hB : B ≤ 100000) : Fair c l := by
 have h1 := ends_len (text_small g.sh g.num g.pk hb)
 refine ⟨g.sh, g.num, g.pk, Nat.le_trans g.len (by omega), Nat.le_trans h1 ?_⟩
 have h2 : (textOf c l).length ≤ 200000 := Nat.le_trans g.len hN
 have h3 : 400 + 2 * B + 1 ≤ 200401 := by omega
 exact Nat.le_trans (Nat.mul_le_mul h2 h3) (by decide)
theorem fair_ref {s : List UInt8} (hs : s.length ≤ 100000) : Fair (refParse s).c (refParse s).l := by
 have hz : Fair Cfg.zero [] := fair_of good_zero (B := 0) (fun p hp => (by cases hp)) (by omega) (by omega)
 have hsm : ∀ q ∈ cutAt 10 s, q.length ≤ s.length := fun q hq => cutAt_small hq
 have hcnt := cutAt_count 10 s
 unfold refParse refAns
 generalize cutAt 10 s = L at *
 cases hg : refGo 0 L.dropLast 0 Cfg.zero [] with
 | inl n => exact hz
 | inr q =>
  simp only
  obtain ⟨g, hd⟩ := go_good (B := 100000) (by omega) L.dropLast 0 0 Cfg.zero [] q (fun x hx => by have := hsm x ((List.dropLast_subset L) hx); omega) good_zero (fun p hp => (by cases hp)) hg
  split
  ·exact hz
  ·split
   ·exact hz
   ·exact fair_of g hd (by rw [List.length_dropLast]; omega) (by omega)
theorem c6 {s : List UInt8} (hs : s.length ≤ 100000) {H : AH} (hw : WF H) {Q : Value → AH → Prop} (hQ : ∀ H', Le H H' → Q (.bool true) H') : OK pmT 6 ⟨[.string (bs s)]⟩ H Q := by
 apply f6_ok onlyT
 simp only [f6R]
 have hF := fair_ref hs
 refine c16 (by omega) hw fun H2 fb fn fk tb tn tk xb xn xk l2 n2 => ?_
 rw [parse_same (by omega)] at n2 ⊢
 generalize hA : refParse s = A at hF n2 ⊢
 simp only [tupV_eq, List.getElem?_cons_zero, List.getElem?_cons_succ, obI_some, obL_some, obV_some]
 rw [obN_eq _ _ _ (by simp [Cfg.vals])]
 unfold Cfg.vals
 simp only [cellAt_eq, List.getElem?_cons_zero, List.getElem?_cons_succ, obI_some, obL_some, letH_eq]
 have m1 := new_le l2.wf 0 (Cfg.zero.vals none 0 0 none 0 0)
 have f1 := Fresh.new H2 0 (Cfg.zero.vals none 0 0 none 0 0)
 unfold Cfg.vals Cfg.zero at m1 f1
 generalize H2.new 0 [I 0, I 0, I 0, I 0, I 0, I 0, I 0, I 0, I 0, I 0, I 0, I 0, I 0, I 0, I 0, I 0, I 0, I 0, .slice none 0 0, .slice none 0 0] = H3 at m1 f1 ⊢
 obtain ⟨H4, a1, a2, a3, _⟩ := f1.store m1.wf (vs' := A.c.vals fb fn fk tb tn tk) (by simp [Cfg.vals]) (by simp [Cfg.vals, oneCell])
 unfold Cfg.vals at a1 a3
 rw [a1, obH_some]
 have l4 : Le H2 H4 := m1.over a2 (Nat.le_refl _)
 refine c18 onlyT (by omega) l4.wf fun H5 gb gn gk ub un uk yb yn yk l5 n5 => ?_
 rw [hA] at n5 ⊢
 simp only [tupV_eq, List.getElem?_cons_zero, List.getElem?_cons_succ, obI_some, obL_some, obV_some]
 rw [obN_eq _ _ _ (by simp [Cfg.vals])]
 unfold Cfg.vals
 simp only [cellAt_eq, List.getElem?_cons_zero, List.getElem?_cons_succ, obI_some, obL_some, letH_eq]
 have m5 := new_le l5.wf 0 (Cfg.zero.vals none 0 0 none 0 0)
 have f5 := Fresh.new H5 0 (Cfg.zero.vals none 0 0 none 0 0)
 unfold Cfg.vals Cfg.zero at m5 f5
 generalize H5.new 0 [I 0, I 0, I 0, I 0, I 0, I 0, I 0, I 0, I 0, I 0, I 0, I 0, I 0, I 0, I 0, I 0, I 0, I 0, .slice none 0 0, .slice none 0 0] = H6 at m5 f5 ⊢
 obtain ⟨H7, b1, b2, b3, _⟩ := f5.store m5.wf (vs' := A.c.vals gb gn gk ub un uk) (by simp [Cfg.vals]) (by simp [Cfg.vals, oneCell])
 unfold Cfg.vals at b1 b3
 rw [b1, obH_some]
 have l7 : Le H5 H7 := m5.over b2 (Nat.le_refl _)
 have a7 := (a3.le l4.wf l5).le l5.wf l7
 have l27 := (l4.trans l5).trans l7
 simp only [join2, beq_self_eq_true, ifB_true, a7.vals, b3.vals, Nat.zero_add, List.getElem?_cons_zero, List.getElem?_cons_succ, obI_some, obL_some]
 refine c17 onlyT (c := A.c) hF.sh hF.nb hF.pk l7.wf (n2.f.le l2.wf l27) (n2.t.le l2.wf l27) (n2.x.le l2.wf l27) (n5.f.le l5.wf l7) (n5.t.le l5.wf l7) (n5.x.le l5.wf l7) hF.lines hF.bytes fun H8 l8 => ?_
 exact hQ H8 ((l2.trans l27).trans l8)
theorem c3 {s : List UInt8} {H : AH} (hw : WF H) {Q : Value → AH → Prop} (hQ : ∀ H', Le H H' → Q (.bool true) H') : OK pmT 3 ⟨[.string (bs s)]⟩ H Q := by
 apply f3_ok onlyT
 have hz : (bs s).size = s.length := rfl
 simp only [f3R, join2, hz]
 refine ifB_intro (fun h => ?_) (fun h => ?_)
 ·refine c7 ?_
  rw [obB_some]
  exact hQ H (Keep.refl hw)
 ·have h : ¬ (s.length : Int) > 2000 := of_decide_eq_false h
  refine c6 (by omega) hw fun H2 l2 => ?_
  rw [obB_some, ifB_true]
  refine c7 ?_
  rw [obB_some]
  exact hQ H2 l2
end AM
end Go.Proofs.YtemcmblcogljkaaGreatDoor

