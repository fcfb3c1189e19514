/- A network and its traffic: what is wrong with them, their text. What is wrong with a network and its traffic, in package text. A network that is being read: who owns which memory. A network that is being read: what is added to it. -/
import Derived.Test.YtemcmblcogljkaaGreatDoorCd
set_option linter.all false
set_option linter.unusedSimpArgs false
set_option linter.unusedVariables false
namespace Go.Proofs.YtemcmblcogljkaaGreatDoor
namespace AM
open Go
open Go.Lib (decDigits itoa nDigits)
open TP
def errX (p : Pkt) : Int := if p.data.length < 1 ∨ p.data.length > 1500 then 2 else if -1048576 ≤ p.at' ∧ p.at' ≤ 1048576 ∧ -1048576 ≤ p.term ∧ p.term ≤ 1048576 ∧ -1048576 ≤ p.bear ∧ p.bear ≤ 1048576 ∧ -1048576 ≤ p.dir ∧ p.dir ≤ 1048576 then 0 else 3
def errAll (c : Cfg) (l : List Pkt) : Int := if errC c ≠ 0 then errC c else if l.length > 200 then 67 else firstE (l.map errX)
def ends (L : List (List UInt8)) : List UInt8 := L.flatMap fun p => p ++ [10]
def formatOf (c : Cfg) (l : List Pkt) : List UInt8 × Int := if errAll c l ≠ 0 then ([], errAll c l) else (ends (textOf c l), 0)
section
variable {pm : Prims}
theorem c44 (hp : Only pm) {a : Int} {H : AH} {Q : Value → AH → Prop} (h : Q (.bool (within' a (-1048576) 1048576)) H) : OK pm 44 ⟨[I a]⟩ H Q := by
 apply f44_ok hp
 simp only [f44R, join2_J, ifB_J, Bool.cond_false_right]
 rwa [show (decide (a ≥ -1048576) && decide (a ≤ 1048576)) = within' a (-1048576) 1048576 by unfold within'; rw [Bool.eq_iff_iff]; simp]
theorem e44 (hp : Only pm) (a : Int) (H : AH) (K : Value → AH → Prop) : OK pm 44 ⟨[I a]⟩ H K = K (.bool (within' a (-1048576) 1048576)) H := OK.eq (c44 hp ⟨rfl, rfl⟩) K
theorem firstX {l : List Pkt} {i : Nat} {p : Pkt} (hall : ∀ q ∈ l.take i, errX q = 0) (hi : l[i]? = some p) (hn : errX p ≠ 0) : firstE (l.map errX) = errX p := by
 refine firstE_at (i := i) (fun x hx => ?_) (by simp [hi]) hn
 rw [← List.map_take] at hx
 obtain ⟨q, hq, rfl⟩ := List.mem_map.1 hx
 exact hall q hq
theorem c22 (hp : Only pm) {c : Cfg} (hc : c.shaped) {l : List Pkt} {fb tb xb : Option Addr} {fn fk tn tk xn xk : Nat} {H : AH} {Q : Value → AH → Prop} (hw : WF H) (hf : Rd H 5 fb fn (recs c.fades)) (htt : RdT H tb tn c.terms) (hx : RdX H xb xn l)
  (hQ : ∀ H', Le H H' → Q (I (errAll c l)) H') : OK pm 22 ⟨[.agg ⟨c.vals fb fn fk tb tn tk⟩, .slice xb xn xk]⟩ H Q := by
 have hxn : xn = l.length := hx.1
 unfold Cfg.vals
 apply f22_ok hp
 have l1 := new_le hw 0 (c.vals fb fn fk tb tn tk)
 have LR : ∀ k, (H.new 0 (c.vals fb fn fk tb tn tk)).load H.next k = (c.vals fb fn fk tb tn tk)[k]? := fun k => new_load _ _ _ _
 generalize hH1 : H.new 0 (c.vals fb fn fk tb tn tk) = H1 at l1 LR
 unfold Cfg.vals at hH1
 simp only [f22R, letH_eq, hH1, LR, Nat.zero_add, Cfg.vals, List.getElem?_cons_zero, List.getElem?_cons_succ, obI_some, obL_some]
 refine c43 hp hc l1.wf (hf.le hw l1) (htt.le hw l1) fun H2 g2 => ?_
 rw [obI_some]
 refine ifB_intro (fun h => ?_) (fun h => ?_)
 ·have := hQ _ (l1.trans g2)
  rwa [errAll, if_pos (by simpa using h)] at this
 refine ifB_intro (fun h2 => ?_) (fun h2 => ?_)
 ·have := hQ _ (l1.trans g2)
  simp only [decide_eq_true_eq] at h2
  rwa [errAll, if_neg (by simpa using h), if_pos (by omega)] at this
 simp only [decide_eq_false_iff_not] at h2
 have hE : errAll c l = firstE (l.map errX) := by rw [errAll, if_neg (by simpa using h), if_neg (by omega)]
 have key : ∀ d i, i + d = l.length → (∀ p ∈ l.take i, errX p = 0) → f22L0 (OK pm) Q xb xn xk (i : Int) H2 := by
  intro d
  induction d with
  | zero =>
   intro i hi hall
   apply f22L0_step
   simp only [f22B0]
   rw [decide_eq_false (by omega), ifB_false]
   have := hQ _ (l1.trans g2)
   rwa [hE, firstE_zero] at this
   intro e hme
   obtain ⟨p, hp1, rfl⟩ := List.mem_map.1 hme
   exact hall p (by rwa [List.take_of_length_le (by omega)])
  | succ d ih =>
   intro i hi hall
   obtain ⟨p, hip⟩ : ∃ p, l[i]? = some p := ⟨_, List.getElem?_eq_getElem (by omega)⟩
   obtain ⟨h, j, db, dn, dk, e1, e2, e3, _⟩ := ((hx.le hw l1).le l1.wf g2).elem (k := xk) hip
   have hdn : dn = p.data.length := by have := e3.1; simpa [bytes1] using this
   have bad : errX p ≠ 0 → Q (I (errX p)) H2 := fun hn => by
    have := hQ _ (l1.trans g2)
    rwa [hE, firstX hall hip hn] at this
   apply f22L0_step
   simp only [f22B0]
   rw [decide_eq_true (by omega), ifB_true]
   simp only [e1, obA_some, e2 0 (by omega), e2 1 (by omega), e2 2 (by omega), e2 3 (by omega), e2 4 (by omega), Pkt.cells, List.getElem?_cons_zero, List.getElem?_cons_succ, obI_some, obL_some, e44 hp, obB_some, ifB_not, ifB_J, join2_J, Bool.cond_true_left, Bool.cond_true_right]
   refine ifB_intro (fun h => ?_) (fun h3 => ?_)
   ·simp only [Bool.or_eq_true, decide_eq_true_eq] at h
    have e : errX p = 2 := by rw [errX, if_pos (by omega)]
    have := bad (by omega)
    rwa [e] at this
   simp only [Bool.or_eq_false_iff, decide_eq_false_iff_not] at h3
   refine ifB_intro (fun h => ?_) (fun h4 => ?_)
   ·simp only [within', Bool.or_eq_true, Bool.not_eq_true', decide_eq_false_iff_not] at h
    have e : errX p = 3 := by rw [errX, if_neg (by omega), if_neg (by omega)]
    have := bad (by omega)
    rwa [e] at this
   ·simp only [within', Bool.or_eq_false_iff, Bool.not_eq_false', decide_eq_true_eq] at h4
    rw [wrap_of (by omega) (by omega)]
    refine ih (i + 1) (by omega) fun q hq => ?_
    rw [List.take_add_one, hip] at hq
    rcases List.mem_append.1 hq with hq | hq
    ·exact hall q hq
    ·simp only [Option.toList_some, List.mem_singleton] at hq
     subst hq
     rw [errX, if_neg (by omega), if_pos (by omega)]
 exact key l.length 0 (by omega) fun p hp => by simp at hp
theorem ends_snoc (L : List (List UInt8)) (p : List UInt8) : ends (L ++ [p]) = ends L ++ p ++ [10] := by simp [ends]
theorem c12 (hp : Only pm) {c : Cfg} (hc : c.shaped) (hcn : c.nb) {l : List Pkt} (hl : ∀ p ∈ l, p.nb) {fb tb xb : Option Addr} {fn fk tn tk xn xk : Nat} {H : AH} {Q : Value → AH → Prop} (hw : WF H) (hf : Rd H 5 fb fn (recs c.fades)) (htt : RdT H tb tn c.terms) (hx : RdX H xb xn l)
  (hN : (textOf c l).length ≤ 100000000) (hB : (ends (textOf c l)).length ≤ 1000000000000)
  (hQ : ∀ H', Le H H' → Q (.tuple ⟨[.string (bs (formatOf c l).1), I (formatOf c l).2]⟩) H') : OK pm 12 ⟨[.agg ⟨c.vals fb fn fk tb tn tk⟩, .slice xb xn xk]⟩ H Q := by
 unfold Cfg.vals
 apply f12_ok hp
 have l1 := new_le hw 0 (c.vals fb fn fk tb tn tk)
 have LA : ∀ G, Le (H.new 0 (c.vals fb fn fk tb tn tk)) G → ∀ k, G.load H.next k = (c.vals fb fn fk tb tn tk)[k]? := fun G hg k => by
  rw [Keep.load l1.wf hg (by simp only [new_next]; omega) (fun hh => hh), new_load]
 generalize hH1 : H.new 0 (c.vals fb fn fk tb tn tk) = H1 at l1 LA
 have LR := LA H1 (Keep.refl l1.wf)
 unfold Cfg.vals at hH1
 simp only [f12R, letH_eq, hH1, LR, Nat.zero_add, Cfg.vals, List.getElem?_cons_zero, List.getElem?_cons_succ, obI_some, obL_some]
 refine c22 hp hc l1.wf (hf.le hw l1) (htt.le hw l1) (hx.le hw l1) fun H2 g2 => ?_
 rw [obI_some]
 refine ifB_intro (fun h => ?_) (fun h => ?_)
 ·have := hQ _ (l1.trans g2)
  rwa [formatOf, if_pos (by simpa using h)] at this
 have hE : errAll c l = 0 := by simpa using h
 have hfo : formatOf c l = (ends (textOf c l), 0) := by rw [formatOf, if_neg (by omega)]
 rw [hfo] at hQ
 have L2 := LA H2 g2
 simp only [Cfg.vals] at L2
 simp only [L2, List.getElem?_cons_zero, List.getElem?_cons_succ, obI_some, obL_some]
 have w2 := l1.trans g2
 refine c23 hp hc hcn hl g2.wf (hf.le hw w2) (htt.le hw w2) (hx.le hw w2) hN fun H3 b n o => ?_
 rw [obL_some]
 have hn := o.len
 have hrd := o.sli.rd1 o.spot
 have key : ∀ d i G b' m, i + d = (textOf c l).length → Le H3 G → Sli G 1 b' m m (byteVals (ends ((textOf c l).take i))) → (∀ g, rootB G b' g → H3.next ≤ g) → (∀ a, b' = some a → a.spot = none) → f12L0 (OK pm) Q b n n b' m m (i : Int) G := by
  intro d
  induction d with
  | zero =>
   intro i G b' m hi hg hs hroot hspot
   apply f12L0_step
   simp only [f12B0]
   rw [decide_eq_false (by omega), ifB_false, ofBytes_sli hs hspot, obS_some]
   have := hQ G ((w2.trans o.keep).trans hg)
   rwa [List.take_of_length_le (by omega)]
  | succ d ih =>
   intro i G b' m hi hg hs hroot hspot
   obtain ⟨p, hip⟩ : ∃ p, (textOf c l)[i]? = some p := ⟨_, List.getElem?_eq_getElem (by omega)⟩
   obtain ⟨h, j, e1, e2⟩ := (hrd.le o.keep.wf hg).elem (k := n) (strs_get hip) (kk := .i64)
   have e2 := e2 0 (by omega)
   rw [Nat.add_zero] at e2
   have hm : m = (ends ((textOf c l).take i)).length := by have := hs.len; simp [byteVals] at this; omega
   have hpre : (ends ((textOf c l).take i)).length + p.length + 1 ≤ (ends (textOf c l)).length := by
    have e : ends (textOf c l) = ends ((textOf c l).take (i + 1)) ++ ends ((textOf c l).drop (i + 1)) := by
     rw [ends, ends, ends, ← List.flatMap_append, List.take_append_drop]
    rw [e, List.take_add_one, hip, Option.toList_some, ends_snoc]
    simp only [List.length_append, List.length_cons, List.length_nil]; omega
   apply f12L0_step
   simp only [f12B0]
   rw [decide_eq_true (by omega), ifB_true, e1, obA_some, e2]
   simp only [List.getElem?_cons_zero, obS_some]
   -- the line
   have step1 : ∃ b1 G1, appendV 1 1 G (.slice b' m m) (.string (bs p)) = some (.slice b1 (m + p.length) (m + p.length), G1) ∧ Le H3 G1 ∧ Sli G1 1 b1 (m + p.length) (m + p.length) (byteVals (ends ((textOf c l).take i) ++ p)) ∧ (∀ g, rootB G1 b1 g → H3.next ≤ g) ∧ (∀ a, b1 = some a → a.spot = none) := by
    rcases Nat.eq_zero_or_pos p.length with e | e
    ·have : p = [] := List.length_eq_zero_iff.1 e
     subst this
     refine ⟨b', G, ?_, hg, by simpa using hs, hroot, hspot⟩
     rfl
    ·obtain ⟨b1, G1, a1, a2, a3, a4, ⟨h2, i2, a5⟩⟩ := append_ok hg.wf (sz := 1) (bytes := 1) (by omega) hs (x := .string (bs p)) (m := p.length) (news := byteVals p) rfl (src_string G p) e (by simp [byteVals]) (fun v hv => by obtain ⟨y, _, rfl⟩ := List.mem_map.1 hv; rfl) (by omega) (by omega)
     refine ⟨b1, G1, a1, Keep.trans hg a3 fun g hgl hh => by have := hroot g hh; omega, by simpa [byteVals] using a2, fun g hh => ?_, fun a ha => ?_⟩
     ·rcases a4 g hh with hh | hh
      ·exact hroot g hh
      ·have := hg.next; omega
     ·rw [a5] at ha; injection ha with ha; subst ha; rfl
   obtain ⟨b1, G1, a1, g1, s1, r1, p1⟩ := step1
   rw [a1, obG_some, letH_eq]
   have l4 := new_le g1.wf 1 [.int .u8 10]
   obtain ⟨b2, G2, a2, a3, a4, a5, ⟨h2, i2, a6⟩⟩ := append_ok l4.wf (sz := 1) (bytes := 1) (by omega) (s1.le g1.wf l4) (x := .slice (some ⟨G1.next, 0, none⟩) 1 1) (m := 1) (news := [.int .u8 10]) rfl (src_slice rfl fun j _ => by rw [Nat.zero_add, new_load]) (by omega) rfl (by simp [oneCell]) (by omega) (by omega)
   rw [a2, obG_some, wrap_of (by omega) (by omega)]
   have r2 : ∀ g, rootB (G1.new 1 [.int .u8 10]) b1 g → H3.next ≤ g := fun g hh => r1 g ((rootB_keep g1.wf l4 s1 g).1 hh)
   refine ih (i + 1) G2 b2 _ (by omega) (Keep.trans (g1.trans l4) a4 fun g hgl hh => by have := r2 g hh; omega) ?_ (fun g hh => ?_) (fun a ha => ?_)
   ·rw [List.take_add_one, hip, Option.toList_some, ends_snoc]
    simpa [byteVals] using a3
   ·rcases a5 g hh with hh | hh
    ·exact r2 g hh
    ·have := g1.next; simp only [new_next] at hh; omega
   ·rw [a6] at ha; injection ha with ha; subst ha; rfl
 exact key (textOf c l).length 0 H3 none 0 (by omega) (Keep.refl o.keep.wf) (by simpa [ends, byteVals] using Sli.nil) (fun g hh => hh.elim) (fun a ha => by cases ha)
theorem c17 (hp : Only pm) {c : Cfg} (hc : c.shaped) (hcn : c.nb) {l : List Pkt} (hl : ∀ p ∈ l, p.nb) {fb tb xb fb' tb' xb' : Option Addr} {fn fk tn tk xn xk fn' fk' tn' tk' xn' xk' : Nat} {H : AH} {Q : Value → AH → Prop} (hw : WF H)
  (hf : Rd H 5 fb fn (recs c.fades)) (htt : RdT H tb tn c.terms) (hx : RdX H xb xn l) (hf' : Rd H 5 fb' fn' (recs c.fades)) (htt' : RdT H tb' tn' c.terms) (hx' : RdX H xb' xn' l)
  (hN : (textOf c l).length ≤ 100000000) (hB : (ends (textOf c l)).length ≤ 1000000000000)
  (hQ : ∀ H', Le H H' → Q (.bool true) H') : OK pm 17 ⟨[.agg ⟨c.vals fb fn fk tb tn tk⟩, .agg ⟨c.vals fb' fn' fk' tb' tn' tk'⟩, .slice xb xn xk, .slice xb' xn' xk']⟩ H Q := by
 unfold Cfg.vals
 apply f17_ok hp
 have l1 := new_le hw 0 (c.vals fb fn fk tb tn tk)
 have l2 := new_le l1.wf 0 (c.vals fb' fn' fk' tb' tn' tk')
 have l3 := l1.trans l2
 have LR := load2 hw 0 0 (c.vals fb fn fk tb tn tk) (c.vals fb' fn' fk' tb' tn' tk')
 have LA : ∀ G, Le ((H.new 0 (c.vals fb fn fk tb tn tk)).new 0 (c.vals fb' fn' fk' tb' tn' tk')) G → ∀ k, G.load (H.new 0 (c.vals fb fn fk tb tn tk)).next k = (c.vals fb' fn' fk' tb' tn' tk')[k]? := fun G hg k => by
  rw [Keep.load l2.wf hg (by simp only [new_next]; omega) (fun hh => hh), new_load]
 generalize hH2 : (H.new 0 (c.vals fb fn fk tb tn tk)).new 0 (c.vals fb' fn' fk' tb' tn' tk') = H2 at l2 l3 LR LA
 unfold Cfg.vals at hH2 LR LA
 simp only [f17R, letH_eq, hH2, LR, Nat.zero_add, List.getElem?_cons_zero, List.getElem?_cons_succ, obI_some, obL_some]
 refine c12 hp hc hcn hl l3.wf (hf.le hw l3) (htt.le hw l3) (hx.le hw l3) hN hB fun H3 g3 => ?_
 simp only [tupV_eq, List.getElem?_cons_zero, List.getElem?_cons_succ, obS_some, obI_some, LA H3 g3, obL_some]
 have l4 := l3.trans g3
 refine c12 hp hc hcn hl g3.wf (hf'.le hw l4) (htt'.le hw l4) (hx'.le hw l4) hN hB fun H4 g4 => ?_
 simp only [tupV_eq, List.getElem?_cons_zero, List.getElem?_cons_succ, obS_some, obI_some, beq_self_eq_true, ifB_true, join2_J]
 exact hQ _ (l4.trans g4)
end
end AM
end Go.Proofs.YtemcmblcogljkaaGreatDoor

namespace Go.Proofs.YtemcmblcogljkaaGreatDoor
namespace AM
open Go
open Go.Lib (decDigits itoa nDigits)
open TP
section
variable {pm : Prims}
def P (h i : Nat) : Value := .pointer (some ⟨h, i, none⟩)
theorem e31 (hp : Only pm) (h i : Nat) (H : AH) (K : Value → AH → Prop) : OK pm 31 ⟨[P h i]⟩ H K = K (.slice (some ⟨H.next, 0, none⟩) 4 4) (H.new 1 [P h (i + 0), P h (i + 1), P h (i + 2), P h (i + 3)]) := by
 refine OK.eq ?_ K
 apply f31_ok hp
 simp only [f31R, letH_eq]
 first | exact ⟨rfl, rfl⟩ | exact ⟨rfl, trivial⟩ | simp [P]
theorem c25 (hp : Only pm) {c : Cfg} (hc : c.shaped) {l : List Pkt} {fb tb xb : Option Addr} {fn fk tn tk xn xk : Nat} {H : AH} {Q : Value → AH → Prop} (hw : WF H) (hf : Rd H 5 fb fn (recs c.fades)) (htt : RdT H tb tn c.terms) (hx : RdX H xb xn l)
  (hQ : ∀ H', Le H H' → Q (I (errAll c l)) H') : OK pm 25 ⟨[.agg ⟨c.vals fb fn fk tb tn tk⟩, .slice xb xn xk]⟩ H Q := by
 have hxn : xn = l.length := hx.1
 unfold Cfg.vals
 apply f25_ok hp
 have l1 := new_le hw 0 (c.vals fb fn fk tb tn tk)
 have LR : ∀ k, (H.new 0 (c.vals fb fn fk tb tn tk)).load H.next k = (c.vals fb fn fk tb tn tk)[k]? := fun k => new_load _ _ _ _
 generalize hH1 : H.new 0 (c.vals fb fn fk tb tn tk) = H1 at l1 LR
 unfold Cfg.vals at hH1
 simp only [f25R, letH_eq, hH1, LR, Nat.zero_add, Cfg.vals, List.getElem?_cons_zero, List.getElem?_cons_succ, obI_some, obL_some]
 refine c49 hp hc l1.wf (hf.le hw l1) (htt.le hw l1) fun H2 g2 => ?_
 rw [obI_some]
 refine ifB_intro (fun h => ?_) (fun h => ?_)
 ·have := hQ _ (l1.trans g2)
  rwa [errAll, if_pos (by simpa using h)] at this
 refine ifB_intro (fun h2 => ?_) (fun h2 => ?_)
 ·have := hQ _ (l1.trans g2)
  simp only [decide_eq_true_eq] at h2
  rwa [errAll, if_neg (by simpa using h), if_pos (by omega)] at this
 simp only [decide_eq_false_iff_not] at h2
 have hE : errAll c l = firstE (l.map errX) := by rw [errAll, if_neg (by simpa using h), if_neg (by omega)]
 have key : ∀ d i G, i + d = l.length → Le H2 G → (∀ p ∈ l.take i, errX p = 0) → f25L0 (OK pm) Q xb xn xk (xn : Int) (i : Int) G := by
  intro d
  induction d with
  | zero =>
   intro i G hi hg hall
   apply f25L0_step
   simp only [f25B0]
   rw [decide_eq_false (by omega), ifB_false]
   have := hQ _ ((l1.trans g2).trans hg)
   rwa [hE, firstE_zero] at this
   intro e hme
   obtain ⟨p, hp1, rfl⟩ := List.mem_map.1 hme
   exact hall p (by rwa [List.take_of_length_le (by omega)])
  | succ d ih =>
   intro i G hi hg hall
   obtain ⟨p, hip⟩ : ∃ p, l[i]? = some p := ⟨_, List.getElem?_eq_getElem (by omega)⟩
   obtain ⟨h, j, db, dn, dk, e1, e2, e3, _⟩ := (((hx.le hw l1).le l1.wf g2).le g2.wf hg).elem (k := xk) hip
   have hdn : dn = p.data.length := by have := e3.1; simpa [bytes1] using this
   have bad : ∀ G', Le H2 G' → errX p ≠ 0 → Q (I (errX p)) G' := fun G' hg' hn => by
    have := hQ _ ((l1.trans g2).trans hg')
    rwa [hE, firstX hall hip hn] at this
   apply f25L0_step
   simp only [f25B0]
   rw [decide_eq_true (by omega), ifB_true, e1, obA_some, e2 0 (by omega), e2 1 (by omega), e2 2 (by omega), e2 3 (by omega), e2 4 (by omega)]
   simp only [Pkt.cells, List.getElem?_cons_zero, List.getElem?_cons_succ, obI_some, obL_some, letH_eq]
   have m1 := new_le hg.wf 0 [I 0, I 0, I 0, I 0, .slice none 0 0]
   obtain ⟨S1, s1, k1, F1, n1⟩ := (Fresh.new G 0 [I 0, I 0, I 0, I 0, .slice none 0 0]).store m1.wf (vs' := [I p.at', I p.term, I p.bear, I p.dir, .slice db dn dk]) rfl (by simp [oneCell])
   have gS := m1.over k1 (Nat.le_refl _)
   rw [s1, obH_some]
   simp only [Nat.zero_add, F1.vals, List.getElem?_cons_zero, List.getElem?_cons_succ, obL_some, ifB_J, join2_J, Bool.cond_true_left]
   refine ifB_intro (fun h => ?_) (fun h3 => ?_)
   ·simp only [Bool.or_eq_true, decide_eq_true_eq] at h
    have e : errX p = 2 := by rw [errX, if_pos (by omega)]
    have := bad S1 (hg.trans gS) (by omega)
    rwa [e] at this
   simp only [Bool.or_eq_false_iff, decide_eq_false_iff_not] at h3
   rw [show (Value.pointer (some ⟨G.next, 0, none⟩)) = P G.next 0 from rfl, e31 hp, obL_some]
   have m2 := new_le gS.wf 1 [P G.next (0 + 0), P G.next (0 + 1), P G.next (0 + 2), P G.next (0 + 3)]
   have F2 := F1.le gS.wf m2
   have gX := (hg.trans gS).trans m2
   have hl : ∀ k : Nat, k < 4 → (S1.new 1 [P G.next (0 + 0), P G.next (0 + 1), P G.next (0 + 2), P G.next (0 + 3)]).load S1.next k = some (P G.next k) := fun k hk => by
    rw [new_load]
    match k, hk with
    | 0, _ => rfl
    | 1, _ => rfl
    | 2, _ => rfl
    | 3, _ => rfl
   generalize S1.new 1 [P G.next (0 + 0), P G.next (0 + 1), P G.next (0 + 2), P G.next (0 + 3)] = X at m2 F2 gX hl ⊢
   have inner : ∀ (k : Nat) (x : Int), k < 4 → ([I p.at', I p.term, I p.bear, I p.dir, .slice db dn dk] : List Value)[k]? = some (I x) → (¬ (-1048576 ≤ x ∧ x ≤ 1048576) → errX p = 3) →
     ((-1048576 ≤ x ∧ x ≤ 1048576) → f25L1 (OK pm) Q (LoopP (f25W0 (OK pm) Q)) xb xn xk (xn : Int) (i : Int) (some ⟨S1.next, 0, none⟩) 4 4 ((4 : Nat) : Int) ((k : Int) + 1) X) →
     f25L1 (OK pm) Q (LoopP (f25W0 (OK pm) Q)) xb xn xk (xn : Int) (i : Int) (some ⟨S1.next, 0, none⟩) 4 4 ((4 : Nat) : Int) (k : Int) X := by
    intro k x hk hv hbad next
    apply f25L1_step
    simp only [f25B1]
    rw [decide_eq_true (by omega), ifB_true, elemS_eq (by omega) (by omega), obA_some, Int.toNat_natCast, Nat.zero_add, Nat.mul_one, hl k hk, P, obA_some]
    simp only [F2.vals, hv, obI_some, ifB_J, join2_J, Bool.cond_true_left]
    refine ifB_intro (fun h => ?_) (fun h => ?_)
    ·simp only [Bool.or_eq_true, decide_eq_true_eq] at h
     have e := hbad (by omega)
     have := bad _ gX (by omega)
     rwa [e] at this
    ·simp only [Bool.or_eq_false_iff, decide_eq_false_iff_not] at h
     rw [wrap_of (by omega) (by omega)]
     exact next (by omega)
   have e3' : ∀ x : Int, (x = p.at' ∨ x = p.term ∨ x = p.bear ∨ x = p.dir) → ¬ (-1048576 ≤ x ∧ x ≤ 1048576) → errX p = 3 := fun x hx hn => by
    rw [errX, if_neg (by omega), if_neg (by omega)]
   refine inner 0 p.at' (by omega) rfl (e3' _ (by simp)) fun b0 => inner 1 p.term (by omega) rfl (e3' _ (by simp)) fun b1 => inner 2 p.bear (by omega) rfl (e3' _ (by simp)) fun b2 => inner 3 p.dir (by omega) rfl (e3' _ (by simp)) fun b3 => ?_
   apply f25L1_step
   simp only [f25B1]
   rw [decide_eq_false (by omega), ifB_false, wrap_of (by omega) (by omega)]
   refine ih (i + 1) _ (by omega) gX fun q hq => ?_
   rw [List.take_add_one, hip] at hq
   rcases List.mem_append.1 hq with hq | hq
   ·exact hall q hq
   ·simp only [Option.toList_some, List.mem_singleton] at hq
    subst hq
    rw [errX, if_neg (by omega), if_pos (by omega)]
 rw [← hxn] at key
 exact key xn 0 H2 (by omega) (Keep.refl g2.wf) fun p hp => by simp at hp
end
end AM
end Go.Proofs.YtemcmblcogljkaaGreatDoor

namespace Go.Proofs.YtemcmblcogljkaaGreatDoor
namespace AM
open Go
open Go.Lib (decDigits itoa nDigits)
open TP
def TipB (H : AH) : Option Addr → Prop
 | some ⟨h, _, _⟩ => ∃ r f, H.rows.get h = some r ∧ H.fams.get r.root = some f ∧ f.ro = false ∧ f.tip = h
 | none => True
theorem TipB.keep {F : Nat → Prop} {H H' : AH} (hw : WF H) (hk : Keep F H H') {b : Option Addr} (ht : TipB H b) (hF : ∀ g, rootB H b g → ¬ F g) : TipB H' b := by
 cases b with
 | none => trivial
 | some a =>
  obtain ⟨h, i, s⟩ := a
  obtain ⟨r, f, h1, h2, h3⟩ := ht
  have hlt := hw.row h r h1
  refine ⟨r, f, by rw [hk.rows h hlt.1, h1], ?_, h3⟩
  rw [hk.fams _ hlt.2 (hF _ (by simp [rootB, rootOf, h1])), h2]
theorem new_tip (H : AH) (sz : Nat) (cs : List Value) (i : Nat) (s : Option Nat) : TipB (H.new sz cs) (some ⟨H.next, i, s⟩) := ⟨_, _, new_row H sz cs, Tr.get_put_same _ _ _, rfl, rfl⟩
theorem append_tip {H H' : AH} {sz bytes : Nat} {b b' : Option Addr} {n c m : Nat} {x : Value} (hlen : lenOf' x = some m) (hm : 0 < m) (ha : appendV sz bytes H (.slice b n c) x = some (.slice b' (n + m) (n + m), H')) (hro : ∀ h i s r f, b = some ⟨h, i, s⟩ → H.rows.get h = some r → H.fams.get r.root = some f → f.ro = false) : TipB H' b' := by
 have hm0 : Nat.beq m 0 = false := by cases m with | zero => omega | succ m => rfl
 simp only [appendV, hlen] at ha
 split at ha
 ·cases ha
 ·rename_i news hx
  simp only [hm0] at ha
  split at ha
  ·cases ha
  ·split at ha
   ·split at ha
    ·simp only [Option.some.injEq, Prod.mk.injEq, Value.slice.injEq] at ha
     obtain ⟨⟨rfl, _, _⟩, rfl⟩ := ha
     exact new_tip _ _ _ _ _
    ·cases ha
   ·rename_i h i
    split at ha
    ·cases ha
    ·rename_i r hr
     split at ha
     ·cases ha
     ·split at ha
      ·cases ha
      ·rename_i H2 hg
       simp only [Option.some.injEq, Prod.mk.injEq, Value.slice.injEq] at ha
       obtain ⟨⟨rfl, _, _⟩, rfl⟩ := ha
       unfold AH.grow at hg
       rw [hr] at hg
       simp only at hg
       split at hg
       ·cases hg
       ·rename_i f hf
        split at hg
        ·cases hg
        ·split at hg
         ·injection hg with hg
          subst hg
          exact ⟨_, _, Tr.get_put_same _ _ _, Tr.get_put_same _ _ _, hro h i none r f rfl hr hf, rfl⟩
         ·cases hg
   ·cases ha
theorem sli_store {H : AH} (hw : WF H) {sz h i n c : Nat} {cs : List Value} (hs : Sli H sz (some ⟨h, i, none⟩) n c cs) (ht : TipB H (some ⟨h, i, none⟩)) {j : Nat} (hj : j < cs.length) {v : Value} (hv : oneCell v = true) :
  ∃ H', H.store h (i + j) v = some H' ∧ Sli H' sz (some ⟨h, i, none⟩) n c (cs.set j v) ∧ TipB H' (some ⟨h, i, none⟩) ∧ Keep (rootB H (some ⟨h, i, none⟩)) H H' ∧ H'.next = H.next ∧ rootOf H' h = rootOf H h := by
 cases hs with
 | row hr hs hf ho hl hh hn hc =>
  rename_i r f
  obtain ⟨r', f', t1, t2, t3, t4⟩ := ht
  rw [hr] at t1; injection t1 with t1; subst t1
  rw [hf] at t2; injection t2 with t2; subst t2
  have hlt := hw.row h r hr
  refine ⟨{ H with fams := H.fams.put r.root { f with cells := f.cells.put (i + j) (v, h) } }, ?_, ?_, ?_, ?_, rfl, ?_⟩
  ·unfold AH.store
   simp only [hr, hf, ho, t4, hv, Nat.beq_refl, ble_of (show r.lo ≤ i + j by omega), blt_of (show i + j < r.hi by omega), Bool.not_false, Bool.and_self]
  ·refine .row hr hs (Tr.get_put_same _ _ _) ho hl hh (by rw [List.length_set]; exact hn) fun k hk => ?_
   rw [List.length_set] at hk
   unfold AH.load
   simp only [hr, Tr.get_put_same, Tr.get_put]
   by_cases e : k = j
   ·subst e
    rw [if_pos rfl, List.getElem?_set_self hk]
    simp only [ble_of (show r.lo ≤ i + k by omega), blt_of (show i + k < r.hi by omega), ble_of (Nat.le_refl h), Bool.and_self]
   ·rw [if_neg (by omega), List.getElem?_set_ne (by omega)]
    have := hc k hk
    unfold AH.load at this
    simp only [hr, hf] at this
    exact this
  ·exact ⟨r, _, hr, Tr.get_put_same _ _ _, ho, t4⟩
  ·refine ⟨⟨fun a q hq => hw.row a q hq, fun a q hq => ?_⟩, Nat.le_refl _, fun _ _ => rfl, fun a ha hn => Tr.get_put_other _ _ fun e => hn ?_⟩
   ·simp only [Tr.get_put] at hq
    split at hq
    ·rename_i e; subst e; exact hlt.2
    ·exact hw.fam a q hq
   ·subst e; simp [rootB, rootOf, hr]
  ·rfl
inductive Comp where
 | box | fades | terms | pkts
 | bears (i : Nat) | bucks (i : Nat) | data (i : Nat)
structure Slo (ω : Nat → Option Comp) (H : AH) (k : Comp) (sz : Nat) (b : Option Addr) (n c : Nat) (cs : List Value) : Prop where
 sli : Sli H sz b n c cs
 tip : (∀ i, k ≠ .data i) → TipB H b
 own : ∀ g, rootB H b g → ω g = some k
 spot : ∀ a, b = some a → a.spot = none
theorem Slo.keep {ω : Nat → Option Comp} {F : Nat → Prop} {H H' : AH} {k : Comp} {sz : Nat} {b : Option Addr} {n c : Nat} {cs : List Value} (h : Slo ω H k sz b n c cs) (hw : WF H) (hk : Keep F H H') (hF : ∀ g, F g → ω g ≠ some k) : Slo ω H' k sz b n c cs := by
 have hn : ∀ g, rootB H b g → ¬ F g := fun g hg hf => hF g hf (h.own g hg)
 exact ⟨h.sli.keep hw hk hn, fun hd => (h.tip hd).keep hw hk hn, fun g hg => h.own g ((rootB_keep hw hk h.sli g).1 hg), h.spot⟩
def upd (ω : Nat → Option Comp) (N M : Nat) (k : Comp) : Nat → Option Comp := fun g => if N ≤ g ∧ g < M then some k else ω g
theorem Slo.upd {ω : Nat → Option Comp} {H : AH} {k : Comp} {sz : Nat} {b : Option Addr} {n c : Nat} {cs : List Value} (h : Slo ω H k sz b n c cs) (hw : WF H) {N M : Nat} (hN : H.next ≤ N) (k' : Comp) : Slo (upd ω N M k') H k sz b n c cs :=
 ⟨h.sli, h.tip, fun g hg => by have := rootB_lt hw h.sli hg; unfold AM.upd; rw [if_neg (by omega)]; exact h.own g hg, h.spot⟩
theorem Slo.push {ω : Nat → Option Comp} {H : AH} {k : Comp} {sz bytes : Nat} {b : Option Addr} {n c : Nat} {cs : List Value} (h : Slo ω H k sz b n c cs) (hw : WF H) (hsz : 0 < sz) {news : List Value} {hs : Nat} (hsrc : ∀ j, j < news.length → H.load hs (0 + j) = news[j]?) (hl : news.length = sz) (hone : ∀ v ∈ news, oneCell v = true) (hb : (n + 1) * bytes * 2 ≤ 140737488355328) (hb2 : n + 1 ≤ 4611686018427387904) :
  ∃ b' H', appendV sz bytes H (.slice b n c) (.slice (some ⟨hs, 0, none⟩) 1 1) = some (.slice b' (n + 1) (n + 1), H') ∧ Slo (AM.upd ω H.next H'.next k) H' k sz b' (n + 1) (n + 1) (cs ++ news) ∧ Keep (rootB H b) H H' := by
 have h1 := h.sli
 obtain ⟨b', H', a1, a2, a3, a4, ⟨h2, i2, a5⟩⟩ := append_ok hw (sz := sz) (bytes := bytes) hsz h1 (x := .slice (some ⟨hs, 0, none⟩) 1 1) (m := 1) (news := news) rfl (src_slice (by omega) hsrc) (by omega) (by omega) hone hb hb2
 refine ⟨b', H', a1, ⟨a2, fun _ => append_tip rfl (by omega) a1 ?_, fun g hg => ?_, fun a ha => by rw [a5] at ha; injection ha with ha; subst ha; rfl⟩, a3⟩
 ·intro h i s r f hbs hr hf
  subst hbs
  cases h1 with
  | row hr' _ hf' ho' _ _ _ _ =>
   rw [hr] at hr'; injection hr' with hr'; subst hr'
   rw [hf] at hf'; injection hf' with hf'; subst hf'
   exact ho'
 ·unfold AM.upd
  rcases a4 g hg with hh | hh
  ·have := rootB_lt hw h.sli hh
   rw [if_neg (by omega)]; exact h.own g hh
  ·have hlt := rootB_lt a3.wf a2 hg
   rw [if_pos (by omega)]
theorem flat_get {sz : Nat} : ∀ {L : List (List Value)} {i : Nat} {r : List Value}, (∀ r ∈ L, r.length = sz) → L[i]? = some r → ∀ k, k < sz → L.flatten[i * sz + k]? = r[k]?
 | [], _, _, _, h, _, _ => by simp at h
 | x :: L, 0, r, hL, h, k, hk => by
  simp only [List.getElem?_cons_zero, Option.some.injEq] at h
  subst h
  rw [List.flatten_cons, Nat.zero_mul, Nat.zero_add, List.getElem?_append_left (by rw [hL x (by simp)]; exact hk)]
 | x :: L, i + 1, r, hL, h, k, hk => by
  have hx := hL x (by simp)
  rw [List.flatten_cons, List.getElem?_append_right (by rw [hx, Nat.succ_mul]; omega), hx, show (i + 1) * sz + k - sz = i * sz + k by rw [Nat.succ_mul]; omega]
  exact flat_get (fun r hr => hL r (by simp [hr])) (by simpa using h) k hk
theorem flat_len {sz : Nat} : ∀ {L : List (List Value)}, (∀ r ∈ L, r.length = sz) → L.flatten.length = L.length * sz
 | [], _ => by simp
 | x :: L, h => by rw [List.flatten_cons, List.length_append, h x (by simp), flat_len fun r hr => h r (by simp [hr]), List.length_cons, Nat.succ_mul]; omega
theorem Sli.rd {H : AH} {sz : Nat} {b : Option Addr} {n c : Nat} {L : List (List Value)} (hs : Sli H sz b n c L.flatten) (hb : ∀ a, b = some a → a.spot = none) (hL : ∀ r ∈ L, r.length = sz) (hsz : 0 < sz) : Rd H sz b n L := by
 have hl := hs.len
 rw [flat_len hL] at hl
 have hn : n = L.length := Nat.eq_of_mul_eq_mul_right hsz hl.symm
 refine ⟨hn, fun i r hi => ?_⟩
 have hr := hL r (List.mem_of_getElem? hi)
 have hil := (List.getElem?_eq_some_iff.1 hi).1
 generalize hF : L.flatten = F at hs
 cases hs with
 | nil =>
  have : L.flatten.length = 0 := by rw [hF]; rfl
  rw [flat_len hL] at this
  have : L.length = 0 := by
   rcases Nat.mul_eq_zero.1 this with h | h
   ·exact h
   ·omega
  omega
 | row hr' hs' hf ho hlo hh hn' hc =>
  rename_i h j r' f
  refine ⟨h, j, rfl, fun k hk => ?_⟩
  have e := flat_get hL hi k hk
  rw [hF] at e
  have hk' : i * sz + k < F.length := by
   rw [← hF, flat_len hL]
   have : (i + 1) * sz ≤ L.length * sz := Nat.mul_le_mul_right sz hil
   rw [Nat.succ_mul] at this; omega
  refine ⟨by rw [Nat.add_assoc, hc _ hk', e], ?_⟩
  rw [List.getElem?_eq_getElem (by omega)]; rfl
structure TG where
 bb : Option Addr
 bn : Nat
 bk : Nat
 kb : Option Addr
 kn : Nat
 kk : Nat
structure PG where
 db : Option Addr
 dn : Nat
 dk : Nat
def tcells (L : List (Trm × TG)) : List (List Value) := L.map fun p => p.1.cells p.2.bb p.2.bn p.2.bk p.2.kb p.2.kn p.2.kk
def pcells (L : List (Pkt × PG)) : List (List Value) := L.map fun p => p.1.cells p.2.db p.2.dn p.2.dk
structure Parts where
 fb : Option Addr
 fn : Nat
 fk : Nat
 tb : Option Addr
 tn : Nat
 tk : Nat
 xb : Option Addr
 xn : Nat
 xk : Nat
 ts : List TG
 tc : List TG
 xs : List PG
structure Doc (ω : Nat → Option Comp) (H0 G : AH) (h : Nat) (pre : List Value) (c : Cfg) (l : List Pkt) (p : Parts) : Prop where
 le : Le H0 G
 low : ∀ g k, ω g = some k → H0.next ≤ g
 dom : ∀ g k, ω g = some k → g < G.next
 box : Fresh G h (pre ++ (c.vals p.fb p.fn p.fk p.tb p.tn p.tk ++ [.slice p.xb p.xn p.xk]))
 boxo : ω h = some .box
 fades : Slo ω G .fades 5 p.fb p.fn p.fk (recs c.fades).flatten
 tsl : p.ts.length = c.terms.length
 tcl : p.tc.length = c.terms.length
 terms : Slo ω G .terms 14 p.tb p.tn p.tk (tcells (c.terms.zip p.tc)).flatten
 bears : ∀ i t g, c.terms[i]? = some t → p.ts[i]? = some g → Slo ω G (.bears i) 11 g.bb g.bn g.bk (recs t.bears).flatten
 bucks : ∀ i t g, c.terms[i]? = some t → p.ts[i]? = some g → Slo ω G (.bucks i) 4 g.kb g.kn g.kk (recs t.bucks).flatten
 xsl : p.xs.length = l.length
 pkts : Slo ω G .pkts 5 p.xb p.xn p.xk (pcells (l.zip p.xs)).flatten
 data : ∀ i x g, l[i]? = some x → p.xs[i]? = some g → Slo ω G (.data i) 1 g.db g.dn g.dk (byteVals x.data)
theorem Doc.keep {ω : Nat → Option Comp} {F : Nat → Prop} {H0 G G' : AH} {h : Nat} {pre : List Value} {c : Cfg} {l : List Pkt} {p : Parts} (d : Doc ω H0 G h pre c l p) (hk : Keep F G G') (hF : ∀ g, F g → ω g = none) (hlow : ∀ g, F g → H0.next ≤ g) : Doc ω H0 G' h pre c l p := by
 have hw := d.le.wf
 have hn : ∀ (k : Comp) g, F g → ω g ≠ some k := fun k g hg e => by rw [hF g hg] at e; cases e
 exact ⟨Keep.trans d.le hk fun g hg hh => by have := hlow g hh; omega, d.low, fun g k e => by have := d.dom g k e; have := hk.next; omega, d.box.keep hw hk (fun hh => hn _ _ hh d.boxo), d.boxo, d.fades.keep hw hk (hn _), d.tsl, d.tcl, d.terms.keep hw hk (hn _), fun i t g h1 h2 => (d.bears i t g h1 h2).keep hw hk (hn _), fun i t g h1 h2 => (d.bucks i t g h1 h2).keep hw hk (hn _), d.xsl, d.pkts.keep hw hk (hn _), fun i x g h1 h2 => (d.data i x g h1 h2).keep hw hk (hn _)⟩
theorem Doc.ofLe {ω : Nat → Option Comp} {H0 G G' : AH} {h : Nat} {pre : List Value} {c : Cfg} {l : List Pkt} {p : Parts} (d : Doc ω H0 G h pre c l p) (hk : Le G G') : Doc ω H0 G' h pre c l p :=
 d.keep hk (fun _ hh => hh.elim) fun _ hh => hh.elim
theorem Doc.rdF {ω : Nat → Option Comp} {H0 G : AH} {h : Nat} {pre : List Value} {c : Cfg} {l : List Pkt} {p : Parts} (d : Doc ω H0 G h pre c l p) (hc : c.shaped) : Rd G 5 p.fb p.fn (recs c.fades) :=
 d.fades.sli.rd d.fades.spot (fun r hr => by obtain ⟨q, hq, rfl⟩ := List.mem_map.1 hr; simpa using hc.1 q hq) (by omega)
theorem Doc.rdT {ω : Nat → Option Comp} {H0 G : AH} {h : Nat} {pre : List Value} {c : Cfg} {l : List Pkt} {p : Parts} (d : Doc ω H0 G h pre c l p) (he : p.tc = p.ts) (hc : c.shaped) : RdT G p.tb p.tn c.terms := by
 have hr := d.terms.sli.rd d.terms.spot (fun r hr => by obtain ⟨q, hq, rfl⟩ := List.mem_map.1 hr; rfl) (by omega)
 rw [he] at hr
 refine ⟨by rw [hr.1]; simp [tcells, d.tsl], fun i t hi => ?_⟩
 have hlt := (List.getElem?_eq_some_iff.1 hi).1
 obtain ⟨g, hg⟩ : ∃ g, p.ts[i]? = some g := ⟨_, List.getElem?_eq_getElem (by rw [d.tsl]; exact hlt)⟩
 have hz : (tcells (c.terms.zip p.ts))[i]? = some (t.cells g.bb g.bn g.bk g.kb g.kn g.kk) := by
  have : (c.terms.zip p.ts)[i]? = some (t, g) := List.getElem?_zip_eq_some.2 ⟨hi, hg⟩
  simp only [tcells, List.getElem?_map, this, Option.map_some]
 obtain ⟨hh, j, h1, h2⟩ := hr.2 i _ hz
 have hsh := hc.2 t (List.mem_of_getElem? hi)
 exact ⟨hh, j, g.bb, g.bn, g.bk, g.kb, g.kn, g.kk, h1, fun k hk => (h2 k hk).1,
  (d.bears i t g hi hg).sli.rd (d.bears i t g hi hg).spot (fun r hr => by obtain ⟨q, hq, rfl⟩ := List.mem_map.1 hr; simpa using hsh.1 q hq) (by omega),
  (d.bucks i t g hi hg).sli.rd (d.bucks i t g hi hg).spot (fun r hr => by obtain ⟨q, hq, rfl⟩ := List.mem_map.1 hr; simpa using hsh.2 q hq) (by omega),
  (d.bears i t g hi hg).spot, (d.bucks i t g hi hg).spot⟩
theorem Doc.rdX {ω : Nat → Option Comp} {H0 G : AH} {h : Nat} {pre : List Value} {c : Cfg} {l : List Pkt} {p : Parts} (d : Doc ω H0 G h pre c l p) : RdX G p.xb p.xn l := by
 have hr := d.pkts.sli.rd d.pkts.spot (fun r hr => by obtain ⟨q, hq, rfl⟩ := List.mem_map.1 hr; rfl) (by omega)
 refine ⟨by rw [hr.1]; simp [pcells, d.xsl], fun i x hi => ?_⟩
 have hlt := (List.getElem?_eq_some_iff.1 hi).1
 obtain ⟨g, hg⟩ : ∃ g, p.xs[i]? = some g := ⟨_, List.getElem?_eq_getElem (by rw [d.xsl]; exact hlt)⟩
 have hz : (pcells (l.zip p.xs))[i]? = some (x.cells g.db g.dn g.dk) := by
  have : (l.zip p.xs)[i]? = some (x, g) := List.getElem?_zip_eq_some.2 ⟨hi, hg⟩
  simp only [pcells, List.getElem?_map, this, Option.map_some]
 obtain ⟨hh, j, h1, h2⟩ := hr.2 i _ hz
 have hs := d.data i x g hi hg
 have h3 := hs.sli.rd1 hs.spot
 exact ⟨hh, j, g.db, g.dn, g.dk, h1, fun k hk => (h2 k hk).1, by rw [byteVals, List.map_map] at h3; exact h3, hs.spot⟩
end AM
end Go.Proofs.YtemcmblcogljkaaGreatDoor

namespace Go.Proofs.YtemcmblcogljkaaGreatDoor
namespace AM
open Go
open Go.Lib (decDigits itoa nDigits)
open TP
theorem Fresh.put {H : AH} (hw : WF H) {h : Nat} {vs ws us : List Value} (hf : Fresh H h vs) {i : Nat} (hl : i + ws.length ≤ vs.length) (hv : ∀ v ∈ ws, oneCell v = true) (hu : us = vs.take i ++ ws ++ vs.drop (i + ws.length)) :
  ∃ H', H.storeN h i ws = some H' ∧ Keep (fun g => g = h) H H' ∧ Fresh H' h us ∧ H'.next = H.next := by
 obtain ⟨H', h1, h2, h3, h4, h5⟩ := storeN_ok hw hf.own (i := i) (vs := ws) hl hv
 rw [hf.root] at h2
 have hlen : us.length = vs.length := by rw [hu]; simp; omega
 refine ⟨H', h1, h2, ⟨by rw [hlen]; exact h3, by rw [h2.root (hf.own.lt hw), hf.root], fun j => ?_⟩, h4⟩
 rw [h5, hu]
 by_cases h : i ≤ j ∧ j < i + ws.length
 ·rw [if_pos h, List.append_assoc, List.getElem?_append_right (by simp; omega), List.length_take, Nat.min_eq_left (by omega), List.getElem?_append_left (by omega)]
 ·rw [if_neg h, hf.vals]
  by_cases hj : j < i
  ·rw [List.append_assoc, List.getElem?_append_left (by simp; omega), List.getElem?_take_of_lt hj]
  ·rw [List.getElem?_append_right (by simp; omega), List.getElem?_drop]
   congr 1
   simp only [List.length_append, List.length_take]; omega
def Cfg.addFade (c : Cfg) (r : List Int) : Cfg := { c with fades := c.fades ++ [r] }
def Cfg.addTerm (c : Cfg) (t : Trm) : Cfg := { c with terms := c.terms ++ [t] }
section
variable {ω : Nat → Option Comp} {H0 G : AH} {h : Nat} {pre : List Value} {c : Cfg} {l : List Pkt} {p : Parts}
theorem Doc.rebox {G' : AH} {pre' : List Value} {c' : Cfg} (d : Doc ω H0 G h pre c l p) (hk : Keep (fun g => g = h) G G') (hb : Fresh G' h (pre' ++ (c'.vals p.fb p.fn p.fk p.tb p.tn p.tk ++ [.slice p.xb p.xn p.xk]))) (hf : c'.fades = c.fades) (ht : c'.terms = c.terms) : Doc ω H0 G' h pre' c' l p := by
 have hw := d.le.wf
 have hn : ∀ (k : Comp), k ≠ .box → ∀ g, g = h → ω g ≠ some k := fun k hkb g hg e => by
  subst hg; rw [d.boxo] at e; injection e with e; exact hkb e.symm
 exact ⟨Keep.trans d.le hk fun g hg hh => by have := d.low h .box d.boxo; omega, d.low, fun g k e => by have := d.dom g k e; have := hk.next; omega, hb, d.boxo, by rw [hf]; exact d.fades.keep hw hk (hn _ (by simp)), by rw [ht]; exact d.tsl, by rw [ht]; exact d.tcl, by rw [ht]; exact d.terms.keep hw hk (hn _ (by simp)),
  fun i t g h1 h2 => (d.bears i t g (by rw [← ht]; exact h1) h2).keep hw hk (hn _ (by simp)), fun i t g h1 h2 => (d.bucks i t g (by rw [← ht]; exact h1) h2).keep hw hk (hn _ (by simp)), d.xsl, d.pkts.keep hw hk (hn _ (by simp)), fun i x g h1 h2 => (d.data i x g h1 h2).keep hw hk (hn _ (by simp))⟩
theorem upd_low (hlow : ∀ g k, ω g = some k → H0.next ≤ g) {N M : Nat} (hN : H0.next ≤ N) (k : Comp) : ∀ g k', upd ω N M k g = some k' → H0.next ≤ g := by
 intro g k' hg
 unfold upd at hg
 split at hg
 ·omega
 ·exact hlow g k' hg
theorem upd_dom {N M : Nat} (hd : ∀ g k, ω g = some k → g < N) (hNM : N ≤ M) (k : Comp) : ∀ g k', upd ω N M k g = some k' → g < M := by
 intro g k' hg
 unfold upd at hg
 split at hg
 ·omega
 ·have := hd g k' hg; omega
theorem Slo.other {k k' : Comp} {G' : AH} {b0 : Option Addr} {sz sz' : Nat} {b : Option Addr} {n c' n' cc : Nat} {cs cs' : List Value} (s : Slo ω G k' sz b n c' cs) (hkk : k' ≠ k) (hw : WF G) (ho : Slo ω G k sz' b0 n' cc cs') (hk : Keep (rootB G b0) G G') : Slo (AM.upd ω G.next G'.next k) G' k' sz b n c' cs := by
 have s1 := s.keep hw hk (fun g hg e => hkk (by have := ho.own g hg; rw [this] at e; injection e with e; exact e.symm))
 refine ⟨s1.sli, s1.tip, fun g hg => ?_, s1.spot⟩
 have h1 := (rootB_keep hw hk s.sli g).1 hg
 have := rootB_lt hw s.sli h1
 unfold AM.upd
 rw [if_neg (by omega)]
 exact s.own g h1
theorem Doc.fade (d : Doc ω H0 G h pre c l p) {r : List Int} (hr : r.length = 5) (hn : p.fn ≤ 1000000000) {hs : Nat} (hsrc : ∀ j, j < (r.map I).length → G.load hs (0 + j) = (r.map I)[j]?) :
  ∃ b' G1, appendV 5 40 G (.slice p.fb p.fn p.fk) (.slice (some ⟨hs, 0, none⟩) 1 1) = some (.slice b' (p.fn + 1) (p.fn + 1), G1) ∧ Fresh G1 h (pre ++ (c.vals p.fb p.fn p.fk p.tb p.tn p.tk ++ [.slice p.xb p.xn p.xk])) ∧ Keep (rootB G p.fb) G G1 ∧
   ∀ G2 pre', Keep (fun g => g = h) G1 G2 → Fresh G2 h (pre' ++ (c.vals b' (p.fn + 1) (p.fn + 1) p.tb p.tn p.tk ++ [.slice p.xb p.xn p.xk])) →
    Doc (upd ω G.next G1.next .fades) H0 G2 h pre' (c.addFade r) l { p with fb := b', fn := p.fn + 1, fk := p.fn + 1 } := by
 have hw := d.le.wf
 obtain ⟨b', G1, a1, a2, a3⟩ := d.fades.push hw (bytes := 40) (by omega) (news := r.map I) hsrc (by simpa using hr) (fun v hv => by obtain ⟨x, _, rfl⟩ := List.mem_map.1 hv; rfl) (by omega) (by omega)
 have hbox : ¬ rootB G p.fb h := fun hh => by have := d.fades.own h hh; rw [d.boxo] at this; cases this
 have hh := d.box.own.lt hw
 have hboxo : upd ω G.next G1.next .fades h = some .box := by unfold upd; rw [if_neg (by omega)]; exact d.boxo
 have f1 := d.box.keep hw a3 hbox
 refine ⟨b', G1, a1, f1, a3, fun G2 pre' k2 f2 => ?_⟩
 have low := upd_low (M := G1.next) d.low d.le.next (.fades)
 have hlow : ∀ g, rootB G p.fb g → H0.next ≤ g := fun g hg => d.low g _ (d.fades.own g hg)
 have le1 : Le H0 G1 := Keep.trans d.le a3 fun g hg hh => by have := hlow g hh; omega
 have d1 : Doc (upd ω G.next G1.next .fades) H0 G1 h pre (c.addFade r) l { p with fb := b', fn := p.fn + 1, fk := p.fn + 1 } → Doc (upd ω G.next G1.next .fades) H0 G2 h pre' (c.addFade r) l { p with fb := b', fn := p.fn + 1, fk := p.fn + 1 } := fun d1 => d1.rebox k2 f2 rfl rfl
 have hn2 : ∀ (k : Comp), k ≠ .box → ∀ g, g = h → upd ω G.next G1.next .fades g ≠ some k := fun k hk g hg e => by
  subst hg; rw [hboxo] at e; injection e with e; exact hk e.symm
 have wk := a3.wf
 exact ⟨Keep.trans le1 k2 fun g hg hh => by have := low h .box hboxo; omega, low, fun g k e => by have := upd_dom d.dom a3.next .fades g k e; have := k2.next; omega, f2, hboxo,
  by
   have : (recs (c.addFade r).fades).flatten = (recs c.fades).flatten ++ r.map I := by simp [Cfg.addFade, recs]
   rw [this]; exact a2.keep wk k2 (hn2 _ (by simp)),
  d.tsl, d.tcl, (d.terms.other (by simp) hw d.fades a3).keep wk k2 (hn2 _ (by simp)),
  fun i t g h1 h2 => ((d.bears i t g h1 h2).other (by simp) hw d.fades a3).keep wk k2 (hn2 _ (by simp)), fun i t g h1 h2 => ((d.bucks i t g h1 h2).other (by simp) hw d.fades a3).keep wk k2 (hn2 _ (by simp)), d.xsl,
  (d.pkts.other (by simp) hw d.fades a3).keep wk k2 (hn2 _ (by simp)), fun i x g h1 h2 => ((d.data i x g h1 h2).other (by simp) hw d.fades a3).keep wk k2 (hn2 _ (by simp))⟩
def TG.zero : TG := ⟨none, 0, 0, none, 0, 0⟩
theorem get_snoc {α : Type} {L : List α} {x y : α} {i : Nat} (h : (L ++ [x])[i]? = some y) : L[i]? = some y ∨ (i = L.length ∧ y = x) := by
 by_cases hi : i < L.length
 ·rw [List.getElem?_append_left hi] at h; exact .inl h
 ·rw [List.getElem?_append_right (by omega)] at h
  have hi2 := (List.getElem?_eq_some_iff.1 h).1
  simp only [List.length_cons, List.length_nil] at hi2
  rw [show i - L.length = 0 by omega] at h
  simp only [List.getElem?_cons_zero, Option.some.injEq] at h
  exact .inr ⟨by omega, h.symm⟩
theorem Doc.term (d : Doc ω H0 G h pre c l p) {t : Trm} (hb : t.bears = []) (hk : t.bucks = []) (hn : p.tn ≤ 1000000000) {hs : Nat} (hsrc : ∀ j, j < (t.cells none 0 0 none 0 0).length → G.load hs (0 + j) = (t.cells none 0 0 none 0 0)[j]?) :
  ∃ b' G1, appendV 14 144 G (.slice p.tb p.tn p.tk) (.slice (some ⟨hs, 0, none⟩) 1 1) = some (.slice b' (p.tn + 1) (p.tn + 1), G1) ∧ Fresh G1 h (pre ++ (c.vals p.fb p.fn p.fk p.tb p.tn p.tk ++ [.slice p.xb p.xn p.xk])) ∧ Keep (rootB G p.tb) G G1 ∧
   ∀ G2 pre', Keep (fun g => g = h) G1 G2 → Fresh G2 h (pre' ++ (c.vals p.fb p.fn p.fk b' (p.tn + 1) (p.tn + 1) ++ [.slice p.xb p.xn p.xk])) →
    Doc (upd ω G.next G1.next .terms) H0 G2 h pre' (c.addTerm t) l { p with tb := b', tn := p.tn + 1, tk := p.tn + 1, ts := p.ts ++ [TG.zero], tc := p.tc ++ [TG.zero] } := by
 have hw := d.le.wf
 obtain ⟨b', G1, a1, a2, a3⟩ := d.terms.push hw (bytes := 144) (by omega) (news := t.cells none 0 0 none 0 0) hsrc rfl (by simp [Trm.cells, oneCell]) (by omega) (by omega)
 have hbox : ¬ rootB G p.tb h := fun hh => by have := d.terms.own h hh; rw [d.boxo] at this; cases this
 have hh := d.box.own.lt hw
 have hboxo : upd ω G.next G1.next .terms h = some .box := by unfold upd; rw [if_neg (by omega)]; exact d.boxo
 have f1 := d.box.keep hw a3 hbox
 refine ⟨b', G1, a1, f1, a3, fun G2 pre' k2 f2 => ?_⟩
 have low := upd_low (M := G1.next) d.low d.le.next (.terms)
 have hlow : ∀ g, rootB G p.tb g → H0.next ≤ g := fun g hg => d.low g _ (d.terms.own g hg)
 have le1 : Le H0 G1 := Keep.trans d.le a3 fun g hg hh => by have := hlow g hh; omega
 have hn2 : ∀ (k : Comp), k ≠ .box → ∀ g, g = h → upd ω G.next G1.next .terms g ≠ some k := fun k hk g hg e => by
  subst hg; rw [hboxo] at e; injection e with e; exact hk e.symm
 have wk := a3.wf
 have nil : ∀ (k : Comp) (sz : Nat), Slo (upd ω G.next G1.next .terms) G2 k sz none 0 0 [] := fun k sz => ⟨.nil, fun _ => trivial, fun g hg => hg.elim, fun a ha => by cases ha⟩
 refine ⟨Keep.trans le1 k2 fun g hg hh => by have := low h .box hboxo; omega, low, fun g k e => by have := upd_dom d.dom a3.next .terms g k e; have := k2.next; omega, f2, hboxo,
  (d.fades.other (by simp) hw d.terms a3).keep wk k2 (hn2 _ (by simp)), by simp [Cfg.addTerm, d.tsl], by simp [Cfg.addTerm, d.tcl], ?_, fun i t' g h1 h2 => ?_, fun i t' g h1 h2 => ?_, d.xsl,
  (d.pkts.other (by simp) hw d.terms a3).keep wk k2 (hn2 _ (by simp)), fun i x g h1 h2 => ((d.data i x g h1 h2).other (by simp) hw d.terms a3).keep wk k2 (hn2 _ (by simp))⟩
 ·have : (tcells ((c.addTerm t).terms.zip (p.tc ++ [TG.zero]))).flatten = (tcells (c.terms.zip p.tc)).flatten ++ t.cells none 0 0 none 0 0 := by
   simp only [Cfg.addTerm]
   rw [List.zip_append (by rw [d.tcl])]
   simp [tcells, TG.zero]
  simp only
  rw [this]
  exact a2.keep wk k2 (hn2 _ (by simp))
 ·rcases get_snoc h1 with h1 | ⟨e1, e2⟩
  ·rcases get_snoc h2 with h2 | ⟨e1, e2⟩
   ·exact ((d.bears i t' g h1 h2).other (by simp) hw d.terms a3).keep wk k2 (hn2 _ (by simp))
   ·have := (List.getElem?_eq_some_iff.1 h1).1; rw [d.tsl] at e1; omega
  ·rcases get_snoc h2 with h2 | ⟨e3, e4⟩
   ·have := (List.getElem?_eq_some_iff.1 h2).1; rw [d.tsl] at this; omega
   ·subst e2; subst e4
    rw [hb]; exact nil _ _
 ·rcases get_snoc h1 with h1 | ⟨e1, e2⟩
  ·rcases get_snoc h2 with h2 | ⟨e1, e2⟩
   ·exact ((d.bucks i t' g h1 h2).other (by simp) hw d.terms a3).keep wk k2 (hn2 _ (by simp))
   ·have := (List.getElem?_eq_some_iff.1 h1).1; rw [d.tsl] at e1; omega
  ·rcases get_snoc h2 with h2 | ⟨e3, e4⟩
   ·have := (List.getElem?_eq_some_iff.1 h2).1; rw [d.tsl] at this; omega
   ·subst e2; subst e4
    rw [hk]; exact nil _ _
def ownR (H : AH) (ω : Nat → Option Comp) (k : Comp) : Option Addr → Nat → Option Comp
 | some ⟨h, _, _⟩ => fun g => if g = rootOf H h then some k else ω g
 | none => ω
theorem ownR_self {H : AH} {ω : Nat → Option Comp} {k : Comp} {b : Option Addr} {g : Nat} (h : rootB H b g) : ownR H ω k b g = some k := by
 cases b with
 | none => exact h.elim
 | some a => simp only [rootB] at h; simp only [ownR, h, if_true]
theorem ownR_other {H : AH} {ω : Nat → Option Comp} {k : Comp} {b : Option Addr} {g : Nat} (h : ¬ rootB H b g) : ownR H ω k b g = ω g := by
 cases b with
 | none => rfl
 | some a => simp only [rootB] at h; simp only [ownR, if_neg h]
theorem Doc.claim (d : Doc ω H0 G h pre c l p) {db : Option Addr} {dn dk : Nat} {cs : List Value} (hs : Sli G 1 db dn dk cs) (hfree : ∀ g, rootB G db g → ω g = none ∧ H0.next ≤ g) (k : Comp) : Doc (ownR G ω k db) H0 G h pre c l p := by
 have hne : ∀ g k', ω g = some k' → ownR G ω k db g = some k' := fun g k' e => by
  rw [ownR_other]; exact e
  intro hg; rw [(hfree g hg).1] at e; cases e
 have sl : ∀ {k' : Comp} {sz : Nat} {b : Option Addr} {n cc : Nat} {cs : List Value}, Slo ω G k' sz b n cc cs → Slo (ownR G ω k db) G k' sz b n cc cs := fun s => ⟨s.sli, s.tip, fun g hg => hne g _ (s.own g hg), s.spot⟩
 refine ⟨d.le, fun g k' e => ?_, fun g k' e => ?_, d.box, hne _ _ d.boxo, sl d.fades, d.tsl, d.tcl, sl d.terms, fun i t g h1 h2 => sl (d.bears i t g h1 h2), fun i t g h1 h2 => sl (d.bucks i t g h1 h2), d.xsl, sl d.pkts, fun i x g h1 h2 => sl (d.data i x g h1 h2)⟩
 ·by_cases hg : rootB G db g
  ·exact (hfree g hg).2
  ·rw [ownR_other hg] at e; exact d.low g k' e
 ·by_cases hg : rootB G db g
  ·exact rootB_lt d.le.wf hs hg
  ·rw [ownR_other hg] at e; exact d.dom g k' e
theorem Doc.packet (d : Doc ω H0 G h pre c l p) {x : Pkt} {db : Option Addr} {dn dk : Nat} (hd : Slo ω G (.data l.length) 1 db dn dk (byteVals x.data)) (hn : p.xn ≤ 1000000000) {hs : Nat} (hsrc : ∀ j, j < (x.cells db dn dk).length → G.load hs (0 + j) = (x.cells db dn dk)[j]?) :
  ∃ b' G1, appendV 5 56 G (.slice p.xb p.xn p.xk) (.slice (some ⟨hs, 0, none⟩) 1 1) = some (.slice b' (p.xn + 1) (p.xn + 1), G1) ∧ Fresh G1 h (pre ++ (c.vals p.fb p.fn p.fk p.tb p.tn p.tk ++ [.slice p.xb p.xn p.xk])) ∧ Keep (rootB G p.xb) G G1 ∧
   ∀ G2 pre', Keep (fun g => g = h) G1 G2 → Fresh G2 h (pre' ++ (c.vals p.fb p.fn p.fk p.tb p.tn p.tk ++ [.slice b' (p.xn + 1) (p.xn + 1)])) →
    Doc (upd ω G.next G1.next .pkts) H0 G2 h pre' c (l ++ [x]) { p with xb := b', xn := p.xn + 1, xk := p.xn + 1, xs := p.xs ++ [⟨db, dn, dk⟩] } := by
 have hw := d.le.wf
 obtain ⟨b', G1, a1, a2, a3⟩ := d.pkts.push hw (bytes := 56) (by omega) (news := x.cells db dn dk) hsrc rfl (by simp [Pkt.cells, oneCell]) (by omega) (by omega)
 have hbox : ¬ rootB G p.xb h := fun hh => by have := d.pkts.own h hh; rw [d.boxo] at this; cases this
 have hh := d.box.own.lt hw
 have hboxo : upd ω G.next G1.next .pkts h = some .box := by unfold upd; rw [if_neg (by omega)]; exact d.boxo
 have f1 := d.box.keep hw a3 hbox
 refine ⟨b', G1, a1, f1, a3, fun G2 pre' k2 f2 => ?_⟩
 have low := upd_low (M := G1.next) d.low d.le.next (.pkts)
 have hlow : ∀ g, rootB G p.xb g → H0.next ≤ g := fun g hg => d.low g _ (d.pkts.own g hg)
 have le1 : Le H0 G1 := Keep.trans d.le a3 fun g hg hh => by have := hlow g hh; omega
 have hn2 : ∀ (k : Comp), k ≠ .box → ∀ g, g = h → upd ω G.next G1.next .pkts g ≠ some k := fun k hk g hg e => by
  subst hg; rw [hboxo] at e; injection e with e; exact hk e.symm
 have wk := a3.wf
 refine ⟨Keep.trans le1 k2 fun g hg hh => by have := low h .box hboxo; omega, low, fun g k e => by have := upd_dom d.dom a3.next .pkts g k e; have := k2.next; omega, f2, hboxo,
  (d.fades.other (by simp) hw d.pkts a3).keep wk k2 (hn2 _ (by simp)), d.tsl, d.tcl, (d.terms.other (by simp) hw d.pkts a3).keep wk k2 (hn2 _ (by simp)),
  fun i t g h1 h2 => ((d.bears i t g h1 h2).other (by simp) hw d.pkts a3).keep wk k2 (hn2 _ (by simp)), fun i t g h1 h2 => ((d.bucks i t g h1 h2).other (by simp) hw d.pkts a3).keep wk k2 (hn2 _ (by simp)),
  by simp [d.xsl], ?_, fun i y g h1 h2 => ?_⟩
 ·have : (pcells ((l ++ [x]).zip (p.xs ++ [(⟨db, dn, dk⟩ : PG)]))).flatten = (pcells (l.zip p.xs)).flatten ++ x.cells db dn dk := by
   rw [List.zip_append (by rw [d.xsl])]
   simp [pcells]
  simp only
  rw [this]
  exact a2.keep wk k2 (hn2 _ (by simp))
 ·rcases get_snoc h1 with h1 | ⟨e1, e2⟩
  ·rcases get_snoc h2 with h2 | ⟨e1, e2⟩
   ·exact ((d.data i y g h1 h2).other (by simp) hw d.pkts a3).keep wk k2 (hn2 _ (by simp))
   ·have := (List.getElem?_eq_some_iff.1 h1).1; rw [d.xsl] at e1; omega
  ·rcases get_snoc h2 with h2 | ⟨e3, e4⟩
   ·have := (List.getElem?_eq_some_iff.1 h2).1; rw [d.xsl] at this; omega
   ·subst e2; subst e4; subst e1
    exact (hd.other (by simp) hw d.pkts a3).keep wk k2 (hn2 _ (by simp))
theorem Doc.bear (d : Doc ω H0 G h pre c l p) {i : Nat} {t : Trm} {tg : TG} (hi : c.terms[i]? = some t) (hg : p.ts[i]? = some tg) {r : List Int} (hr : r.length = 11) (hn : tg.bn ≤ 1000000000) {hs : Nat} (hsrc : ∀ j, j < (r.map I).length → G.load hs (0 + j) = (r.map I)[j]?) :
  ∃ b' G1, appendV 11 88 G (.slice tg.bb tg.bn tg.bk) (.slice (some ⟨hs, 0, none⟩) 1 1) = some (.slice b' (tg.bn + 1) (tg.bn + 1), G1) ∧ Keep (rootB G tg.bb) G G1 ∧
    Doc (upd ω G.next G1.next (.bears i)) H0 G1 h pre { c with terms := c.terms.set i { t with bears := t.bears ++ [r] } } l { p with ts := p.ts.set i { tg with bb := b', bn := tg.bn + 1, bk := tg.bn + 1 } } := by
 have hw := d.le.wf
 have db := d.bears i t tg hi hg
 have hil := (List.getElem?_eq_some_iff.1 hi).1
 have hgl := (List.getElem?_eq_some_iff.1 hg).1
 obtain ⟨b', G1, a1, a2, a3⟩ := db.push hw (bytes := 88) (by omega) (news := r.map I) hsrc (by simpa using hr) (fun v hv => by obtain ⟨x, _, rfl⟩ := List.mem_map.1 hv; rfl) (by omega) (by omega)
 have hbox : ¬ rootB G tg.bb h := fun hh => by have := db.own h hh; rw [d.boxo] at this; cases this
 have hh := d.box.own.lt hw
 have hboxo : upd ω G.next G1.next (.bears i) h = some .box := by unfold upd; rw [if_neg (by omega)]; exact d.boxo
 have f1 := d.box.keep hw a3 hbox
 have low := upd_low (M := G1.next) d.low d.le.next (.bears i)
 have hlow : ∀ g, rootB G tg.bb g → H0.next ≤ g := fun g hg => d.low g _ (db.own g hg)
 refine ⟨b', G1, a1, a3, Keep.trans d.le a3 fun g hg hh => by have := hlow g hh; omega, low, upd_dom d.dom a3.next _, f1, hboxo,
  d.fades.other (by simp) hw db a3, by simp [d.tsl], by simp [d.tcl], ?_, fun k t' g h1 h2 => ?_, fun k t' g h1 h2 => ?_, d.xsl, d.pkts.other (by simp) hw db a3, fun k x g h1 h2 => (d.data k x g h1 h2).other (by simp) hw db a3⟩
 ·have e : tcells ((c.terms.set i { t with bears := t.bears ++ [r] }).zip p.tc) = tcells (c.terms.zip p.tc) := by
   apply List.ext_getElem?
   intro k
   simp only [tcells, List.getElem?_map]
   by_cases hk : k = i
   ·subst hk
    cases ht : p.tc[k]? with
    | none => rw [List.getElem?_eq_none (by simp only [List.length_zip]; have := List.getElem?_eq_none_iff.1 ht; omega), List.getElem?_eq_none (by simp only [List.length_zip]; have := List.getElem?_eq_none_iff.1 ht; omega)]
    | some tg' =>
     have e1 : ((c.terms.set k { t with bears := t.bears ++ [r] }).zip p.tc)[k]? = some ({ t with bears := t.bears ++ [r] }, tg') := List.getElem?_zip_eq_some.2 ⟨by rw [List.getElem?_set_self hil], ht⟩
     have e2 : (c.terms.zip p.tc)[k]? = some (t, tg') := List.getElem?_zip_eq_some.2 ⟨hi, ht⟩
     rw [e1, e2]; rfl
   ·congr 1
    simp only [List.getElem?_zip_eq_some, List.zip, List.getElem?_zipWith]
    rw [List.getElem?_set_ne (fun e => hk e.symm)]
  simp only [e]
  exact d.terms.other (by simp) hw db a3
 ·by_cases hk : k = i
  ·subst hk
   simp only [List.getElem?_set_self hil, Option.some.injEq] at h1
   simp only [List.getElem?_set_self hgl, Option.some.injEq] at h2
   subst h1; subst h2
   have : (recs (t.bears ++ [r])).flatten = (recs t.bears).flatten ++ r.map I := by simp [recs]
   simp only [this]
   exact a2
  ·simp only [List.getElem?_set_ne (fun e => hk e.symm)] at h1 h2
   exact (d.bears k t' g h1 h2).other (fun e => by injection e with e; exact hk e) hw db a3
 ·by_cases hk : k = i
  ·subst hk
   simp only [List.getElem?_set_self hil, Option.some.injEq] at h1
   simp only [List.getElem?_set_self hgl, Option.some.injEq] at h2
   subst h1; subst h2
   exact (d.bucks k t tg hi hg).other (by simp) hw db a3
  ·simp only [List.getElem?_set_ne (fun e => hk e.symm)] at h1 h2
   exact (d.bucks k t' g h1 h2).other (by simp) hw db a3
theorem Doc.buck (d : Doc ω H0 G h pre c l p) {i : Nat} {t : Trm} {tg : TG} (hi : c.terms[i]? = some t) (hg : p.ts[i]? = some tg) {r : List Int} (hr : r.length = 4) (hn : tg.kn ≤ 1000000000) {hs : Nat} (hsrc : ∀ j, j < (r.map I).length → G.load hs (0 + j) = (r.map I)[j]?) :
  ∃ b' G1, appendV 4 32 G (.slice tg.kb tg.kn tg.kk) (.slice (some ⟨hs, 0, none⟩) 1 1) = some (.slice b' (tg.kn + 1) (tg.kn + 1), G1) ∧ Keep (rootB G tg.kb) G G1 ∧
    Doc (upd ω G.next G1.next (.bucks i)) H0 G1 h pre { c with terms := c.terms.set i { t with bucks := t.bucks ++ [r] } } l { p with ts := p.ts.set i { tg with kb := b', kn := tg.kn + 1, kk := tg.kn + 1 } } := by
 have hw := d.le.wf
 have db := d.bucks i t tg hi hg
 have hil := (List.getElem?_eq_some_iff.1 hi).1
 have hgl := (List.getElem?_eq_some_iff.1 hg).1
 obtain ⟨b', G1, a1, a2, a3⟩ := db.push hw (bytes := 32) (by omega) (news := r.map I) hsrc (by simpa using hr) (fun v hv => by obtain ⟨x, _, rfl⟩ := List.mem_map.1 hv; rfl) (by omega) (by omega)
 have hbox : ¬ rootB G tg.kb h := fun hh => by have := db.own h hh; rw [d.boxo] at this; cases this
 have hh := d.box.own.lt hw
 have hboxo : upd ω G.next G1.next (.bucks i) h = some .box := by unfold upd; rw [if_neg (by omega)]; exact d.boxo
 have f1 := d.box.keep hw a3 hbox
 have low := upd_low (M := G1.next) d.low d.le.next (.bucks i)
 have hlow : ∀ g, rootB G tg.kb g → H0.next ≤ g := fun g hg => d.low g _ (db.own g hg)
 refine ⟨b', G1, a1, a3, Keep.trans d.le a3 fun g hg hh => by have := hlow g hh; omega, low, upd_dom d.dom a3.next _, f1, hboxo,
  d.fades.other (by simp) hw db a3, by simp [d.tsl], by simp [d.tcl], ?_, fun k t' g h1 h2 => ?_, fun k t' g h1 h2 => ?_, d.xsl, d.pkts.other (by simp) hw db a3, fun k x g h1 h2 => (d.data k x g h1 h2).other (by simp) hw db a3⟩
 ·have e : tcells ((c.terms.set i { t with bucks := t.bucks ++ [r] }).zip p.tc) = tcells (c.terms.zip p.tc) := by
   apply List.ext_getElem?
   intro k
   simp only [tcells, List.getElem?_map]
   by_cases hk : k = i
   ·subst hk
    cases ht : p.tc[k]? with
    | none => rw [List.getElem?_eq_none (by simp only [List.length_zip]; have := List.getElem?_eq_none_iff.1 ht; omega), List.getElem?_eq_none (by simp only [List.length_zip]; have := List.getElem?_eq_none_iff.1 ht; omega)]
    | some tg' =>
     have e1 : ((c.terms.set k { t with bucks := t.bucks ++ [r] }).zip p.tc)[k]? = some ({ t with bucks := t.bucks ++ [r] }, tg') := List.getElem?_zip_eq_some.2 ⟨by rw [List.getElem?_set_self hil], ht⟩
     have e2 : (c.terms.zip p.tc)[k]? = some (t, tg') := List.getElem?_zip_eq_some.2 ⟨hi, ht⟩
     rw [e1, e2]; rfl
   ·congr 1
    simp only [List.getElem?_zip_eq_some, List.zip, List.getElem?_zipWith]
    rw [List.getElem?_set_ne (fun e => hk e.symm)]
  simp only [e]
  exact d.terms.other (by simp) hw db a3
 ·by_cases hk : k = i
  ·subst hk
   simp only [List.getElem?_set_self hil, Option.some.injEq] at h1
   simp only [List.getElem?_set_self hgl, Option.some.injEq] at h2
   subst h1; subst h2
   exact (d.bears k t tg hi hg).other (by simp) hw db a3
  ·simp only [List.getElem?_set_ne (fun e => hk e.symm)] at h1 h2
   exact (d.bears k t' g h1 h2).other (by simp) hw db a3
 ·by_cases hk : k = i
  ·subst hk
   simp only [List.getElem?_set_self hil, Option.some.injEq] at h1
   simp only [List.getElem?_set_self hgl, Option.some.injEq] at h2
   subst h1; subst h2
   have : (recs (t.bucks ++ [r])).flatten = (recs t.bucks).flatten ++ r.map I := by simp [recs]
   simp only [this]
   exact a2
  ·simp only [List.getElem?_set_ne (fun e => hk e.symm)] at h1 h2
   exact (d.bucks k t' g h1 h2).other (fun e => by injection e with e; exact hk e) hw db a3
theorem flat_set {sz : Nat} {j : Nat} {v : Value} (hj : j < sz) : ∀ {L : List (List Value)} {i : Nat} {r : List Value}, (∀ r ∈ L, r.length = sz) → L[i]? = some r → (L.set i (r.set j v)).flatten = L.flatten.set (i * sz + j) v
 | [], _, _, _, h => by simp at h
 | x :: L, 0, r, hL, h => by
  simp only [List.getElem?_cons_zero, Option.some.injEq] at h
  subst h
  have hx := hL x (by simp)
  rw [List.set_cons_zero, List.flatten_cons, List.flatten_cons, Nat.zero_mul, Nat.zero_add, List.set_append_left _ _ (by omega)]
 | x :: L, i + 1, r, hL, h => by
  have hx := hL x (by simp)
  rw [List.set_cons_succ, List.flatten_cons, List.flatten_cons, List.set_append_right _ _ (by rw [hx, Nat.succ_mul]; omega), hx, show (i + 1) * sz + j - sz = i * sz + j by rw [Nat.succ_mul]; omega]
  rw [flat_set hj (fun r hr => hL r (by simp [hr])) (by simpa using h)]
theorem Doc.cell (d : Doc ω H0 G h pre c l p) {i : Nat} {t : Trm} {tg tg' : TG} (hi : c.terms[i]? = some t) (hg : p.tc[i]? = some tg) {j : Nat} {v : Value} (hj : j < 14) (hv : oneCell v = true) (hset : (t.cells tg.bb tg.bn tg.bk tg.kb tg.kn tg.kk).set j v = t.cells tg'.bb tg'.bn tg'.bk tg'.kb tg'.kn tg'.kk) {a q : Nat} (ha : p.tb = some ⟨a, q, none⟩) :
  ∃ G1, G.storeN a (q + i * 14 + j) [v] = some G1 ∧ Keep (rootB G p.tb) G G1 ∧ G1.next = G.next ∧ Doc ω H0 G1 h pre c l { p with tc := p.tc.set i tg' } := by
 have hw := d.le.wf
 have hil := (List.getElem?_eq_some_iff.1 hi).1
 have hgl := (List.getElem?_eq_some_iff.1 hg).1
 have ht := d.terms
 have htip := ht.tip (by simp)
 have hsl := ht.sli
 rw [ha] at hsl htip
 have hz : (tcells (c.terms.zip p.tc))[i]? = some (t.cells tg.bb tg.bn tg.bk tg.kb tg.kn tg.kk) := by
  have : (c.terms.zip p.tc)[i]? = some (t, tg) := List.getElem?_zip_eq_some.2 ⟨hi, hg⟩
  simp only [tcells, List.getElem?_map, this, Option.map_some]
 have hall : ∀ r ∈ tcells (c.terms.zip p.tc), r.length = 14 := fun r hr => by obtain ⟨y, _, rfl⟩ := List.mem_map.1 hr; rfl
 have hlen : i * 14 + j < (tcells (c.terms.zip p.tc)).flatten.length := by
  rw [flat_len hall]
  have : i < (tcells (c.terms.zip p.tc)).length := (List.getElem?_eq_some_iff.1 hz).1
  have := Nat.mul_le_mul_right 14 (show i + 1 ≤ (tcells (c.terms.zip p.tc)).length by omega)
  omega
 obtain ⟨G1, s1, s2, s3, s4, s5, s6⟩ := sli_store hw hsl htip hlen hv
 have hk : Keep (rootB G p.tb) G G1 := by rw [ha]; exact s4
 have hn2 : ∀ (k : Comp), k ≠ .terms → ∀ g, rootB G p.tb g → ω g ≠ some k := fun k hkk g hg e => by
  have := ht.own g hg; rw [this] at e; injection e with e; exact hkk e.symm
 have hbox : ¬ rootB G p.tb h := fun hh => by have := ht.own h hh; rw [d.boxo] at this; cases this
 have hlow : ∀ g, rootB G p.tb g → H0.next ≤ g := fun g hg => d.low g _ (ht.own g hg)
 refine ⟨G1, by simp only [AH.storeN]; rw [Nat.add_assoc, s1], hk, s5, Keep.trans d.le hk fun g hg hh => by have := hlow g hh; omega, d.low, fun g k e => by rw [s5]; exact d.dom g k e, d.box.keep hw hk hbox, d.boxo, d.fades.keep hw hk (hn2 _ (by simp)), d.tsl, by simp [d.tcl], ?_,
  fun k t' g h1 h2 => (d.bears k t' g h1 h2).keep hw hk (hn2 _ (by simp)), fun k t' g h1 h2 => (d.bucks k t' g h1 h2).keep hw hk (hn2 _ (by simp)), d.xsl, d.pkts.keep hw hk (hn2 _ (by simp)), fun k x g h1 h2 => (d.data k x g h1 h2).keep hw hk (hn2 _ (by simp))⟩
 have e : (tcells (c.terms.zip (p.tc.set i tg'))).flatten = (tcells (c.terms.zip p.tc)).flatten.set (i * 14 + j) v := by
  rw [← flat_set hj hall hz, hset]
  congr 1
  apply List.ext_getElem?
  intro k
  by_cases hk : k = i
  ·subst hk
   have e1 : (c.terms.zip (p.tc.set k tg'))[k]? = some (t, tg') := List.getElem?_zip_eq_some.2 ⟨hi, by rw [List.getElem?_set_self hgl]⟩
   rw [List.getElem?_set_self (List.getElem?_eq_some_iff.1 hz).1]
   simp only [tcells, List.getElem?_map, e1, Option.map_some]
  ·rw [List.getElem?_set_ne (fun e => hk e.symm)]
   simp only [tcells, List.getElem?_map]
   congr 1
   simp only [List.zip, List.getElem?_zipWith]
   rw [List.getElem?_set_ne (fun e => hk e.symm)]
 simp only
 rw [e, ha]
 refine ⟨s2, fun _ => s3, fun g hg' => ?_, fun x hx => by injection hx with hx; subst hx; rfl⟩
 refine ht.own g ?_
 rw [ha]
 simp only [rootB] at hg' ⊢
 rw [hg', s6]
end
end AM
end Go.Proofs.YtemcmblcogljkaaGreatDoor

