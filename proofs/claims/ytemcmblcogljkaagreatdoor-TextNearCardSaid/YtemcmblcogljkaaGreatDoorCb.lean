/- Sights and rules. Fades. Terminals. -/
import Derived.Test.YtemcmblcogljkaaGreatDoorCa
set_option linter.all false
set_option linter.unusedSimpArgs false
set_option linter.unusedVariables false
namespace Go.Proofs.YtemcmblcogljkaaGreatDoor
namespace AM
open Go
section
variable {pm : Prims}
theorem load2 {H : AH} (hw : WF H) (s s' : Nat) (a b : List Value) (i : Nat) : ((H.new s a).new s' b).load H.next i = a[i]? := by
 rw [new_load_old (new_wf hw s a) s' b (by rw [new_next]; omega), new_load]
theorem make1 (G : AH) : makeV 1 8 [.int .i64 0] G (.int .i64 1) (.int .i64 1) = some (.slice (some ⟨G.next, 0, none⟩) 1 1, G.new 1 [I 0]) := rfl
theorem new_rd1 (H : AH) (x : Value) : Rd (H.new 1 [x]) 1 (some ⟨H.next, 0, none⟩) 1 [[x]] := by
 refine ⟨rfl, fun i r hi => ?_⟩
 cases i with
 | succ i => simp at hi
 | zero =>
  simp only [List.getElem?_cons_zero, Option.some.injEq] at hi
  subst hi
  refine ⟨_, _, rfl, fun k hk => ?_⟩
  obtain rfl : k = 0 := by omega
  exact ⟨new_load H 1 [x] 0, rfl⟩
theorem Rd.keep {F : Nat → Prop} {H H' : AH} (hw : WF H) (hk : Keep F H H') {sz : Nat} {b : Option Addr} {n : Nat} {L : List (List Value)} (hr : Rd H sz b n L) (hF : ∀ g, rootB H b g → ¬ F g) : Rd H' sz b n L := by
 refine ⟨hr.1, fun i r hi => ?_⟩
 obtain ⟨h, j, h1, h2⟩ := hr.2 i r hi
 refine ⟨h, j, h1, fun k hk' => ?_⟩
 obtain ⟨h3, h4⟩ := h2 k hk'
 refine ⟨?_, h4⟩
 obtain ⟨v, hv⟩ := Option.isSome_iff_exists.1 h4
 rw [← h3]
 refine Keep.load hw hk (load_lt hw (h3.trans hv)) (hF _ ?_) _
 rw [h1]; rfl
theorem c62 (hp : Only pm) {H : AH} {Q : Value → AH → Prop} (hw : WF H) (hQ : ∀ H' b b', Le H H' → Rd H' 1 b 1 [[I 0]] → Rd H' 1 b' 1 [[I 0]] → Q (.tuple ⟨[.agg ⟨[.slice b 1 1, .slice b' 1 1]⟩, I 0]⟩) H') : OK pm 62 ⟨[I 1]⟩ H Q := by
 apply f62_ok hp
 simp only [f62R, letH_eq, join2, ifB_J]
 rw [decide_eq_false (by omega), ifB_false, decide_eq_false (by omega), ifB_false]
 rw [make1, obG_some, make1, obG_some]
 have w1 := new_wf hw 0 [Value.slice none 0 0, Value.slice none 0 0]
 have w2 := new_wf w1 1 [I 0]
 have w3 := new_wf w2 1 [I 0]
 have l2 := new_le w1 1 [I 0]
 have l3 := new_le w2 1 [I 0]
 have o1 := new_own H 0 [Value.slice none 0 0, Value.slice none 0 0]
 have o3 := (o1.le w1 l2).le w2 l3
 have r0 : rootOf (((H.new 0 [.slice none 0 0, .slice none 0 0]).new 1 [I 0]).new 1 [I 0]) H.next = H.next := by
  rw [l3.root (by simp only [new_next]; omega), l2.root (by simp only [new_next]; omega), new_root]
 obtain ⟨G, g1, g2, g3, g4, g5⟩ := storeN_ok w3 o3 (i := 0) (vs := [.slice (some ⟨(H.new 0 [.slice none 0 0, .slice none 0 0]).next, 0, none⟩) 1 1, .slice (some ⟨((H.new 0 [.slice none 0 0, .slice none 0 0]).new 1 [I 0]).next, 0, none⟩) 1 1]) (by simp) (by simp [oneCell])
 rw [g1, obH_some]
 simp only [g5, Nat.zero_add, Nat.add_zero, List.length_cons, List.length_nil, Nat.reduceAdd, Nat.reduceLT, Nat.zero_le, Nat.le_refl, true_and, and_true, if_true, Nat.sub_zero, Nat.lt_irrefl, List.getElem?_cons_zero, List.getElem?_cons_succ, obL_some, Nat.reduceLeDiff]
 refine hQ G _ _ ?_ ?_ ?_
 ·refine Keep.trans ((new_le hw 0 _).trans (l2.trans l3)) g2 fun g hg hh => ?_
  rw [r0] at hh; omega
 ·refine (Rd.le w2 l3 (new_rd1 _ (I 0))).keep w3 g2 fun g hg hh => ?_
  simp only [rootB] at hg
  rw [l3.root (by simp only [new_next]; omega), new_root] at hg
  rw [r0] at hh
  simp only [new_next] at hg; omega
 ·refine (new_rd1 _ (I 0)).keep w3 g2 fun g hg hh => ?_
  simp only [rootB] at hg
  rw [new_root] at hg
  rw [r0] at hh
  simp only [new_next] at hg; omega
theorem c75 (hp : Only pm) {H : AH} {Q : Value → AH → Prop} (hw : WF H) (hQ : ∀ H' b b', Le H H' → Rd H' 1 b 1 [[I 0]] → Rd H' 1 b' 1 [[I 0]] → Q (.tuple ⟨[.agg ⟨[.slice b 1 1, .slice b' 1 1]⟩, I 0]⟩) H') : OK pm 75 ⟨[I 1]⟩ H Q := by
 apply f75_ok hp
 simp only [f75R, letH_eq, join2, ifB_J]
 rw [decide_eq_false (by omega), ifB_false, decide_eq_false (by omega), ifB_false]
 rw [make1, obG_some, make1, obG_some]
 have w1 := new_wf hw 0 [Value.slice none 0 0, Value.slice none 0 0]
 have w2 := new_wf w1 1 [I 0]
 have w3 := new_wf w2 1 [I 0]
 have l2 := new_le w1 1 [I 0]
 have l3 := new_le w2 1 [I 0]
 have o1 := new_own H 0 [Value.slice none 0 0, Value.slice none 0 0]
 have o3 := (o1.le w1 l2).le w2 l3
 have r0 : rootOf (((H.new 0 [.slice none 0 0, .slice none 0 0]).new 1 [I 0]).new 1 [I 0]) H.next = H.next := by
  rw [l3.root (by simp only [new_next]; omega), l2.root (by simp only [new_next]; omega), new_root]
 obtain ⟨G, g1, g2, g3, g4, g5⟩ := storeN_ok w3 o3 (i := 0) (vs := [.slice (some ⟨(H.new 0 [.slice none 0 0, .slice none 0 0]).next, 0, none⟩) 1 1, .slice (some ⟨((H.new 0 [.slice none 0 0, .slice none 0 0]).new 1 [I 0]).next, 0, none⟩) 1 1]) (by simp) (by simp [oneCell])
 rw [g1, obH_some]
 simp only [g5, Nat.zero_add, Nat.add_zero, List.length_cons, List.length_nil, Nat.reduceAdd, Nat.reduceLT, Nat.zero_le, Nat.le_refl, true_and, and_true, if_true, Nat.sub_zero, Nat.lt_irrefl, List.getElem?_cons_zero, List.getElem?_cons_succ, obL_some, Nat.reduceLeDiff]
 refine hQ G _ _ ?_ ?_ ?_
 ·refine Keep.trans ((new_le hw 0 _).trans (l2.trans l3)) g2 fun g hg hh => ?_
  rw [r0] at hh; omega
 ·refine (Rd.le w2 l3 (new_rd1 _ (I 0))).keep w3 g2 fun g hg hh => ?_
  simp only [rootB] at hg
  rw [l3.root (by simp only [new_next]; omega), new_root] at hg
  rw [r0] at hh
  simp only [new_next] at hg; omega
 ·refine (new_rd1 _ (I 0)).keep w3 g2 fun g hg hh => ?_
  simp only [rootB] at hg
  rw [new_root] at hg
  rw [r0] at hh
  simp only [new_next] at hg; omega
def errM (a b c : Int) : Int := if -15 ≤ a ∧ a ≤ 15 ∧ 0 ≤ b ∧ b ≤ 15 ∧ 1 ≤ c ∧ c ≤ 1000 then 0 else 3
theorem c66 (hp : Only pm) {a b c : Int} {b1 b2 : Option Addr} {H : AH} {Q : Value → AH → Prop} (hw : WF H) (h1 : Rd H 1 b1 1 [[I 0]]) (h2 : Rd H 1 b2 1 [[I 0]]) (hQ : ∀ H', Le H H' → Q (I (errM a b c)) H') : OK pm 66 ⟨[.agg ⟨[I a, I b, I c]⟩, .agg ⟨[.slice b1 1 1, .slice b2 1 1]⟩]⟩ H Q := by
 apply f66_ok hp
 have l1 := new_le hw 0 [I a, I b, I c]
 have l2 := new_le l1.wf 0 [.slice b1 1 1, .slice b2 1 1]
 have l := l1.trans l2
 simp only [f66R, letH_eq, load2 hw, new_load, Nat.zero_add, Nat.add_zero, List.getElem?_cons_zero, List.getElem?_cons_succ, obI_some, obL_some, ifB_J, join2_J, Bool.cond_true_left]
 refine ifB_intro (fun hc => ?_) (fun hc => ?_)
 ·refine cast (congrArg (fun x => Q (I x) _) ?_) (hQ _ l)
  simp only [Bool.or_eq_true, decide_eq_true_eq] at hc
  unfold errM; rw [if_neg (by omega)]
 ·simp only [Bool.or_eq_false_iff, decide_eq_false_iff_not] at hc
  have he : errM a b c = 0 := by unfold errM; rw [if_pos (by omega)]
  refine ifB_intro (fun hd => ?_) (fun _ => ?_)
  ·simp at hd
  ·apply f66L0_step
   simp only [f66B0, new_load, Nat.zero_add, List.getElem?_cons_zero, List.getElem?_cons_succ, obL_some]
   obtain ⟨p, j, e1, e2⟩ := (h1.le hw l).elem (k := 1) (i := 0) (r := [I 0]) rfl (kk := .i64)
   obtain ⟨p', j', e3, e4⟩ := (h2.le hw l).elem (k := 1) (i := 0) (r := [I 0]) rfl (kk := .i64)
   have e2 := e2 0 (by omega)
   have e4 := e4 0 (by omega)
   rw [Nat.add_zero] at e2 e4
   rw [decide_eq_true (by omega), ifB_true]
   simp only [show elemS 1 (.slice b1 1 1) (.int .i64 0) = _ from e1, show elemS 1 (.slice b2 1 1) (.int .i64 0) = _ from e3, obA_some, e2, e4, List.getElem?_cons_zero, obI_some, ifB_J, join2_J, Bool.cond_true_left]
   refine ifB_intro (fun hd => ?_) (fun _ => ?_)
   ·simp at hd
   ·rw [wrap_of (by omega) (by omega)]
    show f66L0 (OK pm) Q _ (0 + 1) _
    apply f66L0_step
    simp only [f66B0, new_load, Nat.zero_add, List.getElem?_cons_zero, List.getElem?_cons_succ, obL_some]
    rw [decide_eq_false (by omega), ifB_false]
    have := hQ _ l
    rwa [he] at this
theorem e131 (hp : Only pm) {a x : Int} {g i : Nat} {H : AH} (hg : H.load g i = some (I x)) (K : Value → AH → Prop) : OK pm 131 ⟨[I a, .pointer (some ⟨g, i, none⟩)]⟩ H K = K (.bool (decide (a < 0) || decide (a > x))) H := by
 refine OK.eq ?_ K
 apply f131_ok hp
 simp only [f131R, hg, obI_some, ifB_J, join2_J, Bool.cond_true_left, and_true]
theorem c108 (hp : Only pm) {x : Int} (hx : 0 ≤ x) {b : Option Addr} {H : AH} {Q : Value → AH → Prop} (hw : WF H) (hr : Rd H 1 b 1 [[I 0]]) (hQ : ∀ H', Le H H' → Q (.bool false) H') : OK pm 108 ⟨[.slice b 1 1, I x]⟩ H Q := by
 apply f108_ok hp
 simp only [f108R, letH_eq]
 have l := new_le hw 0 [I x]
 apply f130_ok hp
 simp only [f130R]
 apply f153_ok hp
 simp only [f153R]
 apply f153L0_step
 simp only [f153B0]
 obtain ⟨p, j, e1, e2⟩ := (hr.le hw l).elem (k := 1) (i := 0) (r := [I 0]) rfl (kk := .i64)
 have e2 := e2 0 (by omega)
 rw [Nat.add_zero] at e2
 rw [decide_eq_true (by omega), ifB_true, show elemS 1 (.slice b 1 1) (.int .i64 0) = _ from e1, obA_some, e2]
 simp only [List.getElem?_cons_zero, obI_some]
 rw [e131 hp (new_load H 0 [I x] 0), obB_some]
 refine ifB_intro (fun hd => ?_) (fun _ => ?_)
 ·simp at hd; omega
 ·rw [wrap_of (by omega) (by omega)]
  show f153L0 (OK pm) _ b 1 1 _ _ _ (0 + 1) _
  apply f153L0_step
  simp only [f153B0]
  rw [decide_eq_false (by omega), ifB_false, obI_some, obB_some]
  exact hQ _ l
theorem c79 (hp : Only pm) {a b c : Int} {b1 b2 : Option Addr} {H : AH} {Q : Value → AH → Prop} (hw : WF H) (h1 : Rd H 1 b1 1 [[I 0]]) (h2 : Rd H 1 b2 1 [[I 0]]) (hQ : ∀ H', Le H H' → Q (I (errM a b c)) H') : OK pm 79 ⟨[.agg ⟨[I a, I b, I c]⟩, .agg ⟨[.slice b1 1 1, .slice b2 1 1]⟩]⟩ H Q := by
 apply f79_ok hp
 have l1 := new_le hw 0 [I a, I b, I c]
 have l2 := new_le l1.wf 0 [.slice b1 1 1, .slice b2 1 1]
 have l := l1.trans l2
 simp only [f79R, letH_eq, load2 hw, new_load, Nat.zero_add, Nat.add_zero, List.getElem?_cons_zero, List.getElem?_cons_succ, obI_some, obL_some, ifB_J, join2_J, Bool.cond_true_left]
 refine ifB_intro (fun hc => ?_) (fun hc => ?_)
 ·refine cast (congrArg (fun x => Q (I x) _) ?_) (hQ _ l)
  simp only [Bool.or_eq_true, decide_eq_true_eq] at hc
  unfold errM; rw [if_neg (by omega)]
 ·simp only [Bool.or_eq_false_iff, decide_eq_false_iff_not] at hc
  have he : errM a b c = 0 := by unfold errM; rw [if_pos (by omega)]
  refine ifB_intro (fun hd => ?_) (fun _ => ?_)
  ·simp at hd
  ·simp only [join2]
   refine c108 hp (by omega) l.wf (h1.le hw l) fun G hg => ?_
   rw [obB_some, ifB_false]
   have e := hg.load l.wf (new_load (H.new 0 [I a, I b, I c]) 0 [.slice b1 1 1, .slice b2 1 1] 1)
   rw [e, obL_some]
   refine c108 hp (by omega) hg.wf ((h2.le hw l).le l.wf hg) fun G' hg' => ?_
   rw [obB_some, ifB_false]
   have := hQ _ ((l.trans hg).trans hg')
   rwa [he] at this
end
end AM
end Go.Proofs.YtemcmblcogljkaaGreatDoor

namespace Go.Proofs.YtemcmblcogljkaaGreatDoor
namespace AM
open Go
def firstE : List Int → Int
 | [] => 0
 | e :: r => if e = 0 then firstE r else e
theorem firstE_zero : ∀ {l : List Int}, (∀ e ∈ l, e = 0) → firstE l = 0
 | [], _ => rfl
 | e :: r, h => by rw [firstE, if_pos (h e (by simp)), firstE_zero fun x hx => h x (by simp [hx])]
theorem firstE_at : ∀ {l : List Int} {i : Nat} {e : Int}, (∀ x ∈ l.take i, x = 0) → l[i]? = some e → e ≠ 0 → firstE l = e
 | [], _, _, _, h, _ => by simp at h
 | x :: r, 0, e, _, h, hn => by simp at h; subst h; rw [firstE, if_neg hn]
 | x :: r, i + 1, e, ha, h, hn => by
  rw [firstE, if_pos (ha x (by simp))]
  exact firstE_at (i := i) (fun y hy => ha y (by simp [hy])) (by simpa using h) hn
def errF : List Int → Int
 | [t, c, f, g, n] => if ¬ (0 ≤ t ∧ t ≤ 3) then 64 else if ¬ (0 ≤ c ∧ c ≤ 2) then 63 else if 0 ≤ f ∧ f ≤ 1048576 ∧ 0 ≤ g ∧ g ≤ 127 ∧ 0 ≤ n ∧ n ≤ 1000 then 0 else 3
 | _ => 0
def errFs (l : List (List Int)) : Int := if l.length > 400 then 2 else firstE (l.map errF)
theorem five {r : List Int} (h : r.length = 5) : ∃ a b c d e, r = [a, b, c, d, e] := by
 match r, h with
 | [a, b, c, d, e], _ => exact ⟨a, b, c, d, e, rfl⟩
section
variable {pm : Prims}
theorem c67 (hp : Only pm) {l : List (List Int)} (hl : ∀ r ∈ l, r.length = 5) {b : Option Addr} {n k : Nat} {H : AH} {Q : Value → AH → Prop} (hw : WF H) (hr : Rd H 5 b n (recs l)) (hQ : ∀ H', Le H H' → Q (I (errFs l)) H') : OK pm 67 ⟨[.slice b n k]⟩ H Q := by
 have hnl : n = l.length := by have := hr.1; simpa [recs] using this
 apply f67_ok hp
 simp only [f67R]
 refine ifB_intro (fun hc => ?_) (fun hc => ?_)
 ·have := hQ H (Keep.refl hw)
  simp only [decide_eq_true_eq] at hc
  rwa [errFs, if_pos (by omega)] at this
 ·simp only [decide_eq_false_iff_not] at hc
  have he : errFs l = firstE (l.map errF) := by rw [errFs, if_neg (by omega)]
  rw [he] at hQ
  have key : ∀ d i G, i + d = n → WF G → Le H G → (∀ r ∈ l.take i, errF r = 0) → f67L0 (OK pm) Q b n k (i : Int) G := by
   intro d
   induction d with
   | zero =>
    intro i G hi hg hle hall
    apply f67L0_step
    simp only [f67B0]
    rw [decide_eq_false (by omega), ifB_false]
    have := hQ G hle
    rwa [firstE_zero] at this
    intro e hme
    obtain ⟨r, hr1, rfl⟩ := List.mem_map.1 hme
    exact hall r (by rwa [List.take_of_length_le (by omega)])
   | succ d ih =>
    intro i G hi hg hle hall
    obtain ⟨r, hir⟩ : ∃ r, l[i]? = some r := ⟨_, List.getElem?_eq_getElem (by omega)⟩
    obtain ⟨t, c, f, g, m, rfl⟩ := five (hl r (List.mem_of_getElem? hir))
    obtain ⟨h, j, e1, e2⟩ := (hr.le hw hle).elem (k := k) (recs_get hir) (kk := .i64)
    have bad : ∀ e G', errF [t, c, f, g, m] = e → e ≠ 0 → Le H G' → Q (I e) G' := by
     intro e G' h1 h2 h3
     have := hQ G' h3
     rwa [firstE_at (i := i) (e := e) (fun x hx => ?_) (by simp [hir, h1]) h2] at this
     rw [← List.map_take] at hx
     obtain ⟨r, hr1, rfl⟩ := List.mem_map.1 hx
     exact hall r hr1
    apply f67L0_step
    simp only [f67B0]
    rw [decide_eq_true (by omega), ifB_true, e1, obA_some]
    rw [e2 0 (by omega), e2 1 (by omega), e2 2 (by omega), e2 3 (by omega), e2 4 (by omega)]
    obtain ⟨G', g1, g2, g3, g4⟩ := over hg 0 (zs := [I 0, I 0, I 0, I 0, I 0]) (vs := [I t, I c, I f, I g, I m]) rfl (by simp [oneCell])
    simp only [List.map_cons, List.map_nil, List.getElem?_cons_zero, List.getElem?_cons_succ, obI_some, letH_eq]
    rw [g1, obH_some]
    simp only [Nat.zero_add, g3, List.getElem?_cons_zero, List.getElem?_cons_succ, obI_some, ifB_J, join2_J, Bool.cond_true_left]
    refine ifB_intro (fun h1 => bad 64 G' ?_ (by omega) (hle.trans g2)) fun h1 => ifB_intro (fun h2 => bad 63 G' ?_ (by omega) (hle.trans g2)) fun h2 => ifB_intro (fun h3 => bad 3 G' ?_ (by omega) (hle.trans g2)) fun h3 => ?_
    ·simp only [Bool.or_eq_true, decide_eq_true_eq] at h1
     rw [errF, if_pos (by omega)]
    ·simp only [Bool.or_eq_true, Bool.or_eq_false_iff, decide_eq_true_eq, decide_eq_false_iff_not] at h1 h2
     rw [errF, if_neg (by omega), if_pos (by omega)]
    ·simp only [Bool.or_eq_true, Bool.or_eq_false_iff, decide_eq_true_eq, decide_eq_false_iff_not] at h1 h2 h3
     rw [errF, if_neg (by omega), if_neg (by omega), if_neg (by omega)]
    ·simp only [Bool.or_eq_true, Bool.or_eq_false_iff, decide_eq_true_eq, decide_eq_false_iff_not] at h1 h2 h3
     rw [wrap_of (by omega) (by omega)]
     refine ih (i + 1) G' (by omega) g2.wf (hle.trans g2) fun r hr' => ?_
     rw [List.take_add_one, hir] at hr'
     rcases List.mem_append.1 hr' with hr' | hr'
     ·exact hall r hr'
     ·simp only [Option.toList_some, List.mem_singleton] at hr'
      subst hr'
      rw [errF, if_neg (by omega), if_neg (by omega), if_pos (by omega)]
  exact key n 0 H (by omega) hw (Keep.refl hw) fun r hr => by simp at hr
theorem c80 (hp : Only pm) {l : List (List Int)} (hl : ∀ r ∈ l, r.length = 5) {b : Option Addr} {n k : Nat} {H : AH} {Q : Value → AH → Prop} (hw : WF H) (hr : Rd H 5 b n (recs l)) (hQ : ∀ H', Le H H' → Q (I (errFs l)) H') : OK pm 80 ⟨[.slice b n k]⟩ H Q := by
 have hnl : n = l.length := by have := hr.1; simpa [recs] using this
 apply f80_ok hp
 simp only [f80R]
 refine ifB_intro (fun hc => ?_) (fun hc => ?_)
 ·have := hQ H (Keep.refl hw)
  simp only [decide_eq_true_eq] at hc
  rwa [errFs, if_pos (by omega)] at this
 ·simp only [decide_eq_false_iff_not] at hc
  have he : errFs l = firstE (l.map errF) := by rw [errFs, if_neg (by omega)]
  rw [he] at hQ
  have key : ∀ d i G, i + d = n → WF G → Le H G → (∀ r ∈ l.take i, errF r = 0) → f80L0 (OK pm) Q b n k (n : Int) (i : Int) G := by
   intro d
   induction d with
   | zero =>
    intro i G hi hg hle hall
    apply f80L0_step
    simp only [f80B0]
    rw [decide_eq_false (by omega), ifB_false]
    have := hQ G hle
    rwa [firstE_zero] at this
    intro e hme
    obtain ⟨r, hr1, rfl⟩ := List.mem_map.1 hme
    exact hall r (by rwa [List.take_of_length_le (by omega)])
   | succ d ih =>
    intro i G hi hg hle hall
    obtain ⟨r, hir⟩ : ∃ r, l[i]? = some r := ⟨_, List.getElem?_eq_getElem (by omega)⟩
    obtain ⟨t, c, f, g, m, rfl⟩ := five (hl r (List.mem_of_getElem? hir))
    obtain ⟨h, j, e1, e2⟩ := (hr.le hw hle).elem (k := k) (recs_get hir) (kk := .i64)
    have bad : ∀ e G', errF [t, c, f, g, m] = e → e ≠ 0 → Le H G' → Q (I e) G' := by
     intro e G' h1 h2 h3
     have := hQ G' h3
     rwa [firstE_at (i := i) (e := e) (fun x hx => ?_) (by simp [hir, h1]) h2] at this
     rw [← List.map_take] at hx
     obtain ⟨r, hr1, rfl⟩ := List.mem_map.1 hx
     exact hall r hr1
    apply f80L0_step
    simp only [f80B0]
    rw [decide_eq_true (by omega), ifB_true, e1, obA_some]
    rw [e2 0 (by omega), e2 1 (by omega), e2 2 (by omega), e2 3 (by omega), e2 4 (by omega)]
    obtain ⟨G', g1, g2, g3, g4⟩ := over hg 0 (zs := [I 0, I 0, I 0, I 0, I 0]) (vs := [I t, I c, I f, I g, I m]) rfl (by simp [oneCell])
    simp only [List.map_cons, List.map_nil, List.getElem?_cons_zero, List.getElem?_cons_succ, obI_some, letH_eq]
    rw [g1, obH_some]
    simp only [Nat.zero_add, g3, List.getElem?_cons_zero, List.getElem?_cons_succ, obI_some, obB_some, e109 hp, ifB_not, ifB_J, join2_J, Bool.cond_true_right, Bool.cond_true_left]
    refine ifB_intro (fun h1 => ifB_intro (fun h2 => ifB_intro (fun h3 => bad 3 G' ?_ (by omega) (hle.trans g2)) fun h3 => ?_) fun h2 => bad 63 G' ?_ (by omega) (hle.trans g2)) fun h1 => bad 64 G' ?_ (by omega) (hle.trans g2)
    all_goals simp only [within', Bool.or_eq_true, Bool.or_eq_false_iff, Bool.not_eq_true', Bool.not_eq_false', decide_eq_true_eq, decide_eq_false_iff_not, Bool.not_not] at *
    ·rw [errF, if_neg (by omega), if_neg (by omega), if_neg (by omega)]
    ·rw [wrap_of (by omega) (by omega)]
     refine ih (i + 1) G' (by omega) g2.wf (hle.trans g2) fun r hr' => ?_
     rw [List.take_add_one, hir] at hr'
     rcases List.mem_append.1 hr' with hr' | hr'
     ·exact hall r hr'
     ·simp only [Option.toList_some, List.mem_singleton] at hr'
      subst hr'
      rw [errF, if_neg (by omega), if_neg (by omega), if_pos (by omega)]
    ·rw [errF, if_neg (by omega), if_pos (by omega)]
    ·rw [errF, if_pos (by omega)]
  exact key n 0 H (by omega) hw (Keep.refl hw) fun r hr => by simp at hr
end
end AM
end Go.Proofs.YtemcmblcogljkaaGreatDoor

namespace Go.Proofs.YtemcmblcogljkaaGreatDoor
namespace AM
open Go
structure Trm where
 cell : Int
 cls : Int
 gf : Int
 gw : Int
 gb : Int
 rc : Int
 ro : Int
 rn : Int
 rl : Int
 rs : Int
 rk : Int
 bat : Int
 bears : List (List Int)
 bucks : List (List Int)
def Trm.shaped (t : Trm) : Prop := (∀ r ∈ t.bears, r.length = 11) ∧ (∀ r ∈ t.bucks, r.length = 4)
def Trm.cells (t : Trm) (bb : Option Addr) (bn bk : Nat) (kb : Option Addr) (kn kk : Nat) : List Value :=
 [I t.cell, I t.cls, .slice bb bn bk, .slice kb kn kk, I t.gf, I t.gw, I t.gb, I t.rc, I t.ro, I t.rn, I t.rl, I t.rs, I t.rk, I t.bat]
def errBl : List Int → Int
 | [m, c, w, b, wt, l0, l1, l2, l3, l4, l5] => errB m c w b wt (okL l0 l1 l2 l3 l4 l5)
 | _ => 0
theorem eleven {r : List Int} (h : r.length = 11) : ∃ a b c d e f g i j k l, r = [a, b, c, d, e, f, g, i, j, k, l] := by
 match r, h with
 | [a, b, c, d, e, f, g, i, j, k, l], _ => exact ⟨a, b, c, d, e, f, g, i, j, k, l, rfl⟩
def errT (cells : Int) (t : Trm) : Int :=
 if ¬ (0 ≤ t.cell ∧ t.cell < cells) then 63
 else if ¬ (1 ≤ t.bears.length ∧ t.bears.length ≤ 2 ∧ t.bucks.length = t.bears.length) then 2
 else if firstE (t.bears.map errBl) ≠ 0 then firstE (t.bears.map errBl)
 else if okKs t.bucks = true ∧ 0 ≤ t.cls ∧ t.cls ≤ 15 ∧ 0 ≤ t.bat ∧ t.bat ≤ 1048576 ∧ okG t.gf t.gw t.gb = true ∧ errR t.rc t.ro t.rn t.rl t.rs t.rk = 0 then 0 else 3
theorem new_rd3 (H : AH) (a b c : Value) : Rd (H.new 3 [a, b, c]) 3 (some ⟨H.next, 0, none⟩) 1 [[a, b, c]] := by
 refine ⟨rfl, fun i r hi => ?_⟩
 cases i with
 | succ i => simp at hi
 | zero =>
  simp only [List.getElem?_cons_zero, Option.some.injEq] at hi
  subst hi
  refine ⟨_, _, rfl, fun k hk => ⟨?_, ?_⟩⟩
  ·rw [show 0 + 0 * 3 + k = k by omega, new_load]
  ·rw [List.getElem?_eq_getElem (by simpa using hk)]; rfl
section
variable {pm : Prims}
theorem c110 (hp : Only pm) {m c w b wt l0 l1 l2 l3 l4 l5 : Int} {H : AH} {Q : Value → AH → Prop} (hw : WF H) (hQ : ∀ H', Le H H' → Q (I (errB m c w b wt (okL l0 l1 l2 l3 l4 l5))) H') : OK pm 110 ⟨[.agg ⟨[I m, I c, I w, I b, I wt, I l0, I l1, I l2, I l3, I l4, I l5]⟩]⟩ H Q := by
 apply f110_ok hp
 simp only [f110R, letH_eq, new_load, Nat.zero_add, Nat.reduceAdd, List.getElem?_cons_zero, List.getElem?_cons_succ, obI_some, obL_some, obB_some]
 refine c132 hp (new_wf hw _ _) fun H' hle => ?_
 rw [obI_some]
 exact hQ H' ((new_le hw _ _).trans hle)
theorem ifB_swap {b : Bool} {A B : Prop} (h : b = false → B) (h' : b = true → A) : ifB b A B := ifB_intro h' h
theorem c68 (hp : Only pm) {a0 a1 a2 a3 a4 a5 a6 a7 a8 a9 a10 a11 a12 a13 a14 a15 a16 a17 : Int} {fb tb bb kb : Option Addr} {fn fk tn tk bn bk kn kk : Nat} {t : Trm} (ht : t.shaped) {H : AH} {Q : Value → AH → Prop} (hw : WF H) (h1 : Rd H 11 bb bn (recs t.bears)) (h2 : Rd H 4 kb kn (recs t.bucks)) (hQ : ∀ H', Le H H' → Q (I (errT a1 t)) H') :
  OK pm 68 ⟨[.agg ⟨[I a0, I a1, I a2, I a3, I a4, I a5, I a6, I a7, I a8, I a9, I a10, I a11, I a12, I a13, I a14, I a15, I a16, I a17, .slice fb fn fk, .slice tb tn tk]⟩, .agg ⟨t.cells bb bn bk kb kn kk⟩]⟩ H Q := by
 have hbn : bn = t.bears.length := by have := h1.1; simpa [recs] using this
 have hkn : kn = t.bucks.length := by have := h2.1; simpa [recs] using this
 unfold Trm.cells
 apply f68_ok hp
 have l1 := new_le hw 0 [I a0, I a1, I a2, I a3, I a4, I a5, I a6, I a7, I a8, I a9, I a10, I a11, I a12, I a13, I a14, I a15, I a16, I a17, .slice fb fn fk, .slice tb tn tk]
 have w1 := l1.wf
 have l2 := new_le w1 0 (t.cells bb bn bk kb kn kk)
 have l := l1.trans l2
 have LA : ∀ G, Le ((H.new 0 [I a0, I a1, I a2, I a3, I a4, I a5, I a6, I a7, I a8, I a9, I a10, I a11, I a12, I a13, I a14, I a15, I a16, I a17, .slice fb fn fk, .slice tb tn tk]).new 0 (t.cells bb bn bk kb kn kk)) G → ∀ k, G.load (H.new 0 [I a0, I a1, I a2, I a3, I a4, I a5, I a6, I a7, I a8, I a9, I a10, I a11, I a12, I a13, I a14, I a15, I a16, I a17, .slice fb fn fk, .slice tb tn tk]).next k = (t.cells bb bn bk kb kn kk)[k]? := fun G hg k => by
  rw [Keep.load l.wf hg (by simp only [new_next]; omega) (fun hh => hh), new_load]
 generalize hH2 : (H.new 0 [I a0, I a1, I a2, I a3, I a4, I a5, I a6, I a7, I a8, I a9, I a10, I a11, I a12, I a13, I a14, I a15, I a16, I a17, .slice fb fn fk, .slice tb tn tk]).new 0 (t.cells bb bn bk kb kn kk) = H2 at l l2 LA
 have l0 : ∀ k, H2.load H.next k = [I a0, I a1, I a2, I a3, I a4, I a5, I a6, I a7, I a8, I a9, I a10, I a11, I a12, I a13, I a14, I a15, I a16, I a17, .slice fb fn fk, .slice tb tn tk][k]? := fun k => by rw [← hH2, load2 hw]
 have LR := LA H2 (Keep.refl l.wf)
 unfold Trm.cells at LA LR hH2
 simp only [f68R, letH_eq, hH2, l0, LR, Nat.zero_add, Nat.reduceAdd, List.getElem?_cons_zero, List.getElem?_cons_succ, obI_some, obL_some, obB_some, ifB_J, join2_J, Bool.cond_true_left]
 refine ifB_intro (fun hc => ?_) (fun hc => ?_)
 ·have := hQ _ l
  simp only [Bool.or_eq_true, Bool.or_eq_false_iff, Bool.not_eq_true', Bool.not_eq_false', decide_eq_true_eq, decide_eq_false_iff_not, bne_iff_ne, bne_eq_false_iff_eq, within'] at hc
  rwa [errT, if_pos (by omega)] at this
 ·simp only [Bool.or_eq_true, Bool.or_eq_false_iff, Bool.not_eq_true', Bool.not_eq_false', decide_eq_true_eq, decide_eq_false_iff_not, bne_iff_ne, bne_eq_false_iff_eq, within'] at hc
  refine ifB_intro (fun hs => ?_) (fun hs => ?_)
  ·have := hQ _ l
   simp only [Bool.or_eq_true, Bool.or_eq_false_iff, Bool.not_eq_true', Bool.not_eq_false', decide_eq_true_eq, decide_eq_false_iff_not, bne_iff_ne, bne_eq_false_iff_eq, within'] at hs
   rwa [errT, if_neg (by omega), if_pos (by omega)] at this
  ·simp only [Bool.or_eq_true, Bool.or_eq_false_iff, Bool.not_eq_true', Bool.not_eq_false', decide_eq_true_eq, decide_eq_false_iff_not, bne_iff_ne, bne_eq_false_iff_eq, within'] at hs
   have hE : errT a1 t = if firstE (t.bears.map errBl) ≠ 0 then firstE (t.bears.map errBl)
     else if okKs t.bucks = true ∧ 0 ≤ t.cls ∧ t.cls ≤ 15 ∧ 0 ≤ t.bat ∧ t.bat ≤ 1048576 ∧ okG t.gf t.gw t.gb = true ∧ errR t.rc t.ro t.rn t.rl t.rs t.rk = 0 then 0 else 3 := by
    rw [errT, if_neg (by omega), if_neg (by omega)]
   have key : ∀ d i G, i + d = bn → Le H2 G → (∀ r ∈ t.bears.take i, errBl r = 0) → f68L0 (OK pm) Q (H.new 0 [I a0, I a1, I a2, I a3, I a4, I a5, I a6, I a7, I a8, I a9, I a10, I a11, I a12, I a13, I a14, I a15, I a16, I a17, .slice fb fn fk, .slice tb tn tk]).next (i : Int) G := by
    intro d
    induction d with
    | zero =>
     intro i G hi hg hall
     have LG := LA G hg
     have hF : firstE (t.bears.map errBl) = 0 := by
      refine firstE_zero fun e hme => ?_
      obtain ⟨r, hr1, rfl⟩ := List.mem_map.1 hme
      exact hall r (by rwa [List.take_of_length_le (by omega)])
     rw [hF, if_neg (by omega)] at hE
     apply f68L0_step
     simp only [f68B0, LG, Nat.zero_add, Nat.reduceAdd, List.getElem?_cons_zero, List.getElem?_cons_succ, obI_some, obL_some, obB_some]
     rw [decide_eq_false (by omega), ifB_false]
     simp only [join2]
     have bad : ∀ G', Le H2 G' → ¬ (okKs t.bucks = true ∧ 0 ≤ t.cls ∧ t.cls ≤ 15 ∧ 0 ≤ t.bat ∧ t.bat ≤ 1048576 ∧ okG t.gf t.gw t.gb = true ∧ errR t.rc t.ro t.rn t.rl t.rs t.rk = 0) → ifB true (Q (I 3) G') (Q (I 0) G') := fun G' hg' hn => by
      have := hQ _ (l.trans hg')
      rw [hE, if_neg hn] at this
      exact this
     refine c98 hp ht.2 (by omega) hg.wf ((h2.le hw l).le l.wf hg) fun G1 g1 => ?_
     have LG1 := LA G1 (hg.trans g1)
     simp only [LG1, Nat.zero_add, Nat.reduceAdd, List.getElem?_cons_zero, List.getElem?_cons_succ, obI_some, obL_some, obB_some, ifB_not]
     refine ifB_swap (fun hk => bad G1 (hg.trans g1) (by simp [hk])) fun hk => ?_
     refine ifB_intro (fun h => bad G1 (hg.trans g1) (by simp only [Bool.or_eq_true, Bool.or_eq_false_iff, Bool.not_eq_true', Bool.not_eq_false', decide_eq_true_eq, decide_eq_false_iff_not, bne_iff_ne, bne_eq_false_iff_eq, within'] at h; omega)) fun ha => ?_
     refine ifB_intro (fun h => bad G1 (hg.trans g1) (by simp only [Bool.or_eq_true, Bool.or_eq_false_iff, Bool.not_eq_true', Bool.not_eq_false', decide_eq_true_eq, decide_eq_false_iff_not, bne_iff_ne, bne_eq_false_iff_eq, within'] at h; omega)) fun hb => ?_
     refine ifB_intro (fun h => bad G1 (hg.trans g1) (by simp only [Bool.or_eq_true, Bool.or_eq_false_iff, Bool.not_eq_true', Bool.not_eq_false', decide_eq_true_eq, decide_eq_false_iff_not, bne_iff_ne, bne_eq_false_iff_eq, within'] at h; omega)) fun hc' => ?_
     refine ifB_intro (fun h => bad G1 (hg.trans g1) (by simp only [Bool.or_eq_true, Bool.or_eq_false_iff, Bool.not_eq_true', Bool.not_eq_false', decide_eq_true_eq, decide_eq_false_iff_not, bne_iff_ne, bne_eq_false_iff_eq, within'] at h; omega)) fun hd => ?_
     simp only [letH_eq]
     have g2 := new_le g1.wf 3 [I t.gf, I t.gw, I t.gb]
     refine c99 hp g2.wf (new_rd3 _ _ _ _) fun G2 g3 => ?_
     have gg := ((hg.trans g1).trans g2).trans g3
     have LG2 := LA G2 gg
     simp only [LG2, Nat.zero_add, Nat.reduceAdd, List.getElem?_cons_zero, List.getElem?_cons_succ, obI_some, obL_some, obB_some, e100 hp]
     have gx := gg.trans (new_le g3.wf 0 [I t.rc, I t.ro, I t.rn, I t.rl, I t.rs, I t.rk])
     refine ifB_intro (fun h => bad G2 gg ?_) fun he => ?_
     ·intro hh
      rw [if_pos hh.2.2.2.2.2.1] at h
      simp at h
     ·have hG : okG t.gf t.gw t.gb = true := by
       cases hx : okG t.gf t.gw t.gb with
       | true => rfl
       | false => rw [hx] at he; simp at he
      refine ifB_intro (fun h => bad _ gx (by simp only [Bool.or_eq_true, Bool.or_eq_false_iff, Bool.not_eq_true', Bool.not_eq_false', decide_eq_true_eq, decide_eq_false_iff_not, bne_iff_ne, bne_eq_false_iff_eq, within'] at h; intro hh; exact h hh.2.2.2.2.2.2)) fun h => ?_
      have := hQ _ (l.trans gx)
      simp only [Bool.or_eq_true, Bool.or_eq_false_iff, Bool.not_eq_true', Bool.not_eq_false', decide_eq_true_eq, decide_eq_false_iff_not, bne_iff_ne, bne_eq_false_iff_eq, within'] at *
      rw [hE, if_pos ⟨hk, by omega, by omega, by omega, by omega, hG, h⟩] at this
      exact this
    | succ d ih =>
     intro i G hi hg hall
     have LG := LA G hg
     obtain ⟨r, hir⟩ : ∃ r, t.bears[i]? = some r := ⟨_, List.getElem?_eq_getElem (by omega)⟩
     obtain ⟨p0, p1, p2, p3, p4, p5, p6, p7, p8, p9, p10, rfl⟩ := eleven (ht.1 r (List.mem_of_getElem? hir))
     obtain ⟨h, j, e1, e2⟩ := ((h1.le hw l).le l.wf hg).elem (k := bk) (recs_get hir) (kk := .i64)
     apply f68L0_step
     simp only [f68B0, LG, Nat.zero_add, Nat.reduceAdd, List.getElem?_cons_zero, List.getElem?_cons_succ, obI_some, obL_some, obB_some]
     rw [decide_eq_true (by omega), ifB_true, e1, obA_some]
     rw [e2 0 (by omega), e2 1 (by omega), e2 2 (by omega), e2 3 (by omega), e2 4 (by omega), e2 5 (by omega), e2 6 (by omega), e2 7 (by omega), e2 8 (by omega), e2 9 (by omega), e2 10 (by omega)]
     simp only [List.map_cons, List.map_nil, List.getElem?_cons_zero, List.getElem?_cons_succ, obI_some, letH_eq]
     refine c97 hp hg.wf fun G1 g1 => ?_
     have gg := hg.trans g1
     rw [obI_some]
     refine ifB_intro (fun h => ?_) (fun h => ?_)
     ·have := hQ _ (l.trans gg)
      have hf : firstE (t.bears.map errBl) = errBl [p0, p1, p2, p3, p4, p5, p6, p7, p8, p9, p10] := by
       refine firstE_at (i := i) (fun x hx => ?_) (by simp [hir]) (by simpa [errBl] using h)
       rw [← List.map_take] at hx
       obtain ⟨r, hr1, rfl⟩ := List.mem_map.1 hx
       exact hall r hr1
      rw [hE, hf, if_pos (by simpa [errBl] using h)] at this
      exact this
     ·rw [wrap_of (by omega) (by omega)]
      refine ih (i + 1) G1 (by omega) gg fun r hr' => ?_
      rw [List.take_add_one, hir] at hr'
      rcases List.mem_append.1 hr' with hr' | hr'
      ·exact hall r hr'
      ·simp only [Option.toList_some, List.mem_singleton] at hr'
       subst hr'
       simpa [errBl] using h
   exact key bn 0 H2 (by omega) (Keep.refl l.wf) fun r hr => by simp at hr
theorem c81 (hp : Only pm) {a0 a1 a2 a3 a4 a5 a6 a7 a8 a9 a10 a11 a12 a13 a14 a15 a16 a17 : Int} {fb tb bb kb : Option Addr} {fn fk tn tk bn bk kn kk : Nat} {t : Trm} (ht : t.shaped) (hc1 : 1 ≤ a1) (hc3 : a1 ≤ 3) {H : AH} {Q : Value → AH → Prop} (hw : WF H) (h1 : Rd H 11 bb bn (recs t.bears)) (h2 : Rd H 4 kb kn (recs t.bucks)) (hQ : ∀ H', Le H H' → Q (I (errT a1 t)) H') :
  OK pm 81 ⟨[.agg ⟨[I a0, I a1, I a2, I a3, I a4, I a5, I a6, I a7, I a8, I a9, I a10, I a11, I a12, I a13, I a14, I a15, I a16, I a17, .slice fb fn fk, .slice tb tn tk]⟩, .agg ⟨t.cells bb bn bk kb kn kk⟩]⟩ H Q := by
 have hbn : bn = t.bears.length := by have := h1.1; simpa [recs] using this
 have hkn : kn = t.bucks.length := by have := h2.1; simpa [recs] using this
 unfold Trm.cells
 apply f81_ok hp
 have l1 := new_le hw 0 [I a0, I a1, I a2, I a3, I a4, I a5, I a6, I a7, I a8, I a9, I a10, I a11, I a12, I a13, I a14, I a15, I a16, I a17, .slice fb fn fk, .slice tb tn tk]
 have w1 := l1.wf
 have l2 := new_le w1 0 (t.cells bb bn bk kb kn kk)
 have l := l1.trans l2
 have LA : ∀ G, Le ((H.new 0 [I a0, I a1, I a2, I a3, I a4, I a5, I a6, I a7, I a8, I a9, I a10, I a11, I a12, I a13, I a14, I a15, I a16, I a17, .slice fb fn fk, .slice tb tn tk]).new 0 (t.cells bb bn bk kb kn kk)) G → ∀ k, G.load (H.new 0 [I a0, I a1, I a2, I a3, I a4, I a5, I a6, I a7, I a8, I a9, I a10, I a11, I a12, I a13, I a14, I a15, I a16, I a17, .slice fb fn fk, .slice tb tn tk]).next k = (t.cells bb bn bk kb kn kk)[k]? := fun G hg k => by
  rw [Keep.load l.wf hg (by simp only [new_next]; omega) (fun hh => hh), new_load]
 generalize hH2 : (H.new 0 [I a0, I a1, I a2, I a3, I a4, I a5, I a6, I a7, I a8, I a9, I a10, I a11, I a12, I a13, I a14, I a15, I a16, I a17, .slice fb fn fk, .slice tb tn tk]).new 0 (t.cells bb bn bk kb kn kk) = H2 at l l2 LA
 have l0 : ∀ k, H2.load H.next k = [I a0, I a1, I a2, I a3, I a4, I a5, I a6, I a7, I a8, I a9, I a10, I a11, I a12, I a13, I a14, I a15, I a16, I a17, .slice fb fn fk, .slice tb tn tk][k]? := fun k => by rw [← hH2, load2 hw]
 have LR := LA H2 (Keep.refl l.wf)
 unfold Trm.cells at LA LR hH2
 simp only [f81R, letH_eq, hH2, l0, LR, e74 hp, Nat.zero_add, Nat.reduceAdd, List.getElem?_cons_zero, List.getElem?_cons_succ, obI_some, obL_some, obB_some, ifB_not, ifB_J, join2_J, Bool.cond_true_left, Bool.cond_true_right]
 rw [wrap_of (by omega) (by omega)]
 refine ifB_swap (fun hc => ?_) (fun hc => ?_)
 ·have := hQ _ l
  simp only [Bool.or_eq_true, Bool.or_eq_false_iff, Bool.not_eq_true', Bool.not_eq_false', decide_eq_true_eq, decide_eq_false_iff_not, bne_iff_ne, bne_eq_false_iff_eq, within'] at hc
  rwa [errT, if_pos (by omega)] at this
 ·simp only [Bool.or_eq_true, Bool.or_eq_false_iff, Bool.not_eq_true', Bool.not_eq_false', decide_eq_true_eq, decide_eq_false_iff_not, bne_iff_ne, bne_eq_false_iff_eq, within'] at hc
  refine ifB_intro (fun hs => ?_) (fun hs => ?_)
  ·have := hQ _ l
   simp only [Bool.or_eq_true, Bool.or_eq_false_iff, Bool.not_eq_true', Bool.not_eq_false', decide_eq_true_eq, decide_eq_false_iff_not, bne_iff_ne, bne_eq_false_iff_eq, within'] at hs
   rwa [errT, if_neg (by omega), if_pos (by omega)] at this
  ·simp only [Bool.or_eq_true, Bool.or_eq_false_iff, Bool.not_eq_true', Bool.not_eq_false', decide_eq_true_eq, decide_eq_false_iff_not, bne_iff_ne, bne_eq_false_iff_eq, within'] at hs
   have hE : errT a1 t = if firstE (t.bears.map errBl) ≠ 0 then firstE (t.bears.map errBl)
     else if okKs t.bucks = true ∧ 0 ≤ t.cls ∧ t.cls ≤ 15 ∧ 0 ≤ t.bat ∧ t.bat ≤ 1048576 ∧ okG t.gf t.gw t.gb = true ∧ errR t.rc t.ro t.rn t.rl t.rs t.rk = 0 then 0 else 3 := by
    rw [errT, if_neg (by omega), if_neg (by omega)]
   have key : ∀ d i G, i + d = bn → Le H2 G → (∀ r ∈ t.bears.take i, errBl r = 0) → f81L0 (OK pm) Q (H.new 0 [I a0, I a1, I a2, I a3, I a4, I a5, I a6, I a7, I a8, I a9, I a10, I a11, I a12, I a13, I a14, I a15, I a16, I a17, .slice fb fn fk, .slice tb tn tk]).next bb bn bk (bn : Int) (i : Int) G := by
    intro d
    induction d with
    | zero =>
     intro i G hi hg hall
     have LG := LA G hg
     have hF : firstE (t.bears.map errBl) = 0 := by
      refine firstE_zero fun e hme => ?_
      obtain ⟨r, hr1, rfl⟩ := List.mem_map.1 hme
      exact hall r (by rwa [List.take_of_length_le (by omega)])
     rw [hF, if_neg (by omega)] at hE
     apply f81L0_step
     simp only [f81B0, LG, Nat.zero_add, Nat.reduceAdd, List.getElem?_cons_zero, List.getElem?_cons_succ, obI_some, obL_some, obB_some]
     rw [decide_eq_false (by omega), ifB_false]
     simp only [join2]
     have bad : ∀ G', Le H2 G' → ¬ (okKs t.bucks = true ∧ 0 ≤ t.cls ∧ t.cls ≤ 15 ∧ 0 ≤ t.bat ∧ t.bat ≤ 1048576 ∧ okG t.gf t.gw t.gb = true ∧ errR t.rc t.ro t.rn t.rl t.rs t.rk = 0) → ifB true (Q (I 3) G') (Q (I 0) G') := fun G' hg' hn => by
      have := hQ _ (l.trans hg')
      rw [hE, if_neg hn] at this
      exact this
     refine c111 hp ht.2 (by omega) hg.wf ((h2.le hw l).le l.wf hg) fun G1 g1 => ?_
     have LG1 := LA G1 (hg.trans g1)
     simp only [LG1, e74 hp, Nat.zero_add, Nat.reduceAdd, List.getElem?_cons_zero, List.getElem?_cons_succ, obI_some, obL_some, obB_some, ifB_not]
     refine ifB_swap (fun hk => bad G1 (hg.trans g1) (by simp [hk])) fun hk => ?_
     refine ifB_swap (fun h => bad G1 (hg.trans g1) (by simp only [Bool.or_eq_true, Bool.or_eq_false_iff, Bool.not_eq_true', Bool.not_eq_false', decide_eq_true_eq, decide_eq_false_iff_not, bne_iff_ne, bne_eq_false_iff_eq, within'] at h; omega)) fun ha => ?_
     refine ifB_swap (fun h => bad G1 (hg.trans g1) (by simp only [Bool.or_eq_true, Bool.or_eq_false_iff, Bool.not_eq_true', Bool.not_eq_false', decide_eq_true_eq, decide_eq_false_iff_not, bne_iff_ne, bne_eq_false_iff_eq, within'] at h; omega)) fun hb => ?_
     simp only [letH_eq]
     have g2 := new_le g1.wf 3 [I t.gf, I t.gw, I t.gb]
     refine c112 hp g2.wf (new_rd3 _ _ _ _) fun G2 g3 => ?_
     have gg := ((hg.trans g1).trans g2).trans g3
     have LG2 := LA G2 gg
     simp only [LG2, Nat.zero_add, Nat.reduceAdd, List.getElem?_cons_zero, List.getElem?_cons_succ, obI_some, obL_some, obB_some, e113 hp]
     have gx := gg.trans (new_le g3.wf 0 [I t.rc, I t.ro, I t.rn, I t.rl, I t.rs, I t.rk])
     refine ifB_intro (fun h => bad G2 gg ?_) fun he => ?_
     ·intro hh
      rw [if_pos hh.2.2.2.2.2.1] at h
      simp at h
     ·have hG : okG t.gf t.gw t.gb = true := by
       cases hx : okG t.gf t.gw t.gb with
       | true => rfl
       | false => rw [hx] at he; simp at he
      refine ifB_intro (fun h => bad _ gx (by simp only [Bool.or_eq_true, Bool.or_eq_false_iff, Bool.not_eq_true', Bool.not_eq_false', decide_eq_true_eq, decide_eq_false_iff_not, bne_iff_ne, bne_eq_false_iff_eq, within'] at h; intro hh; exact h hh.2.2.2.2.2.2)) fun h => ?_
      have := hQ _ (l.trans gx)
      simp only [Bool.or_eq_true, Bool.or_eq_false_iff, Bool.not_eq_true', Bool.not_eq_false', decide_eq_true_eq, decide_eq_false_iff_not, bne_iff_ne, bne_eq_false_iff_eq, within'] at *
      rw [hE, if_pos ⟨hk, by omega, by omega, by omega, by omega, hG, h⟩] at this
      exact this
    | succ d ih =>
     intro i G hi hg hall
     have LG := LA G hg
     obtain ⟨r, hir⟩ : ∃ r, t.bears[i]? = some r := ⟨_, List.getElem?_eq_getElem (by omega)⟩
     obtain ⟨p0, p1, p2, p3, p4, p5, p6, p7, p8, p9, p10, rfl⟩ := eleven (ht.1 r (List.mem_of_getElem? hir))
     obtain ⟨h, j, e1, e2⟩ := ((h1.le hw l).le l.wf hg).elem (k := bk) (recs_get hir) (kk := .i64)
     apply f81L0_step
     simp only [f81B0, LG, Nat.zero_add, Nat.reduceAdd, List.getElem?_cons_zero, List.getElem?_cons_succ, obI_some, obL_some, obB_some]
     rw [decide_eq_true (by omega), ifB_true, e1, obA_some]
     rw [e2 0 (by omega), e2 1 (by omega), e2 2 (by omega), e2 3 (by omega), e2 4 (by omega), e2 5 (by omega), e2 6 (by omega), e2 7 (by omega), e2 8 (by omega), e2 9 (by omega), e2 10 (by omega)]
     simp only [List.map_cons, List.map_nil, List.getElem?_cons_zero, List.getElem?_cons_succ, obI_some, letH_eq]
     obtain ⟨G', o1, o2, o3, o4⟩ := over hg.wf 0 (zs := [I 0, I 0, I 0, I 0, I 0, I 0, I 0, I 0, I 0, I 0, I 0]) (vs := [I p0, I p1, I p2, I p3, I p4, I p5, I p6, I p7, I p8, I p9, I p10]) rfl (by simp [oneCell])
     rw [o1, obH_some]
     simp only [Nat.zero_add, o3, List.getElem?_cons_zero, List.getElem?_cons_succ, obI_some]
     refine c110 hp o2.wf fun G1 g1 => ?_
     have gg := (hg.trans o2).trans g1
     rw [obI_some]
     refine ifB_intro (fun h => ?_) (fun h => ?_)
     ·have := hQ _ (l.trans gg)
      have hf : firstE (t.bears.map errBl) = errBl [p0, p1, p2, p3, p4, p5, p6, p7, p8, p9, p10] := by
       refine firstE_at (i := i) (fun x hx => ?_) (by simp [hir]) (by simpa [errBl] using h)
       rw [← List.map_take] at hx
       obtain ⟨r, hr1, rfl⟩ := List.mem_map.1 hx
       exact hall r hr1
      rw [hE, hf, if_pos (by simpa [errBl] using h)] at this
      exact this
     ·rw [wrap_of (by omega) (by omega)]
      refine ih (i + 1) G1 (by omega) gg fun r hr' => ?_
      rw [List.take_add_one, hir] at hr'
      rcases List.mem_append.1 hr' with hr' | hr'
      ·exact hall r hr'
      ·simp only [Option.toList_some, List.mem_singleton] at hr'
       subst hr'
       simpa [errBl] using h
   exact key bn 0 H2 (by omega) (Keep.refl l.wf) fun r hr => by simp at hr
end
end AM
end Go.Proofs.YtemcmblcogljkaaGreatDoor

