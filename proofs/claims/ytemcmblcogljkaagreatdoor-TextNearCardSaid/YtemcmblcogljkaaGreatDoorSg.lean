/- The abstract machine: regions that draw their order, the end. The abstract machine: code and calls stand for the model's. -/
import Derived.Test.YtemcmblcogljkaaGreatDoorSf
import Derived.Test.YtemcmblcogljkaaGreatDoorSd
import Derived.LoopN
set_option linter.all false
set_option linter.unusedSimpArgs false
set_option linter.unusedVariables false
namespace Go.Proofs.YtemcmblcogljkaaGreatDoor
namespace AM
open Go
section
variable {P : Program} {pr : Nat → Prop} {w0 : World} {call : Callee} {n : Nat} {ops : Array Oper} {r : Tra}
variable {ρ0 ρ ρ' : Rho} {H0 : AH} {ws w w' : World} {ds : List Deferred} {D : Array Bool} {k k' : Nat} {a : Act} {Q : Exit → Act → World → Prop}
theorem effL_lt {j q : Nat} (h : (effL P r 0 ops.toList)[q]? = some j) : j < ops.size := by
 obtain ⟨o, _, h2, _⟩ := effL_mem.1 (List.mem_of_getElem? h)
 have := (List.getElem?_eq_some_iff.1 h2).1
 simpa using this
theorem effL_mono {p q i j : Nat} (hi : (effL P r 0 ops.toList)[p]? = some i) (hj : (effL P r 0 ops.toList)[q]? = some j) (h : p < q) : i < j := by
 have hs := effL_sorted (P := P) (r := r) (l := ops.toList) (i := 0)
 obtain ⟨hp, rfl⟩ := List.getElem?_eq_some_iff.1 hi
 obtain ⟨hq, rfl⟩ := List.getElem?_eq_some_iff.1 hj
 exact List.pairwise_iff_getElem.1 hs p q hp hq h
theorem effL_append : ∀ (a b : List Oper) (i : Nat), effL P r i (a ++ b) = effL P r i a ++ effL P r (i + a.length) b
 | [], b, i => by simp [effL]
 | x :: a, b, i => by
  simp only [List.cons_append, effL, effL_append a b, List.append_assoc, List.length_cons]
  rw [show i + 1 + a.length = i + (a.length + 1) by omega]
theorem newOf_congr {t u : Tr Value} {o : Oper} (h : ∀ d, Operand.tmp d ∈ o.op.operands.toList → t.get d = u.get d) : newOf P t o = newOf P u o := by
 unfold newOf
 cases hop : o.op with
 | buildSlice ty len ps =>
  have : evps t ps.toList = evps u ps.toList := evps_congr (by simpa [Agree, hop, Op.operands] using h)
  simp only [this]
 | makeSlice ty x y =>
  have h1 : ev t x = ev u x := ev_congr fun i e => h i (by simp [hop, Op.operands, e])
  have h2 : ev t y = ev u y := ev_congr fun i e => h i (by simp [hop, Op.operands, e])
  simp only [h1, h2]
 | _ => rfl
theorem hp_at (hr : Run P call n ops r) (hnn : ∀ p q, ops[p]? = some q → r.W p = true → kindOf P q ≠ 2) {i : Nat} (hi : i ≤ ops.size) (hk : ∀ q j, (effL P r 0 ops.toList)[q]? = some j → (q < k ↔ j < i)) : hp P ops r k = r.G i := by
 unfold hp lim
 cases hq : (effL P r 0 ops.toList)[k]? with
 | some j =>
  simp only
  have hji : ¬ j < i := fun h => by have := (hk k j hq).2 h; omega
  have hj := effL_lt hq
  have := G_const hr.step (i := i) (j - i) (by omega) hnn fun q h1 h2 hm => by
   obtain ⟨p, hp⟩ := List.mem_iff_getElem?.1 hm
   rcases Nat.lt_trichotomy p k with e | e | e
   ·have := (hk p q hp).1 e; omega
   ·subst e; rw [hq] at hp; injection hp with hp; omega
   ·have := effL_mono hq hp e; omega
  rw [show i + (j - i) = j by omega] at this
  exact this
 | none =>
  simp only
  have hlen := List.getElem?_eq_none_iff.1 hq
  have := G_const hr.step (i := i) (ops.size - i) (by omega) hnn fun q h1 h2 hm => by
   obtain ⟨p, hp⟩ := List.mem_iff_getElem?.1 hm
   have hpl := (List.getElem?_eq_some_iff.1 hp).1
   have := (hk p q hp).1 (by omega)
   omega
  rw [show i + (ops.size - i) = ops.size by omega] at this
  exact this
theorem ahead_lt : ∀ {l : List Nat} {i q j : Nat}, l.Pairwise (· < ·) → l[q]? = some j → (q < ahead i (l.map fun j => (j, r.G j)) ↔ j < i)
 | [], i, q, j, _, h => by simp at h
 | x :: l, i, q, j, hs, h => by
  rw [List.pairwise_cons] at hs
  simp only [List.map_cons, ahead]
  by_cases hx : x < i
  ·have e : Nat.blt x i = true := by simp [Nat.blt_eq, hx]
   rw [e]
   simp only
   cases q with
   | zero => simp only [List.getElem?_cons_zero, Option.some.injEq] at h; subst h; simp [hx]
   | succ q =>
    have := ahead_lt (i := i) hs.2 (by simpa using h)
    rw [← this]
    omega
  ·have e : Nat.blt x i = false := by
    cases hb : Nat.blt x i with
    | false => rfl
    | true => rw [Nat.blt_eq] at hb; exact absurd hb hx
   rw [e]
   simp only
   cases q with
   | zero => simp only [List.getElem?_cons_zero, Option.some.injEq] at h; subst h; simp; omega
   | succ q =>
    have := hs.1 j (List.mem_of_getElem? (by simpa using h))
    simp
    omega
theorem Inv.step (hm : CalleeOK P pr w0 call) (hr : Run P call n ops r) (hr0 : Rel pr w0 ρ0 H0 ws) (hi : Inv P pr w0 n ops r ρ0 H0 ws ds D k ρ a w) {i : Nat} {o : Oper} (ho : ops[i]? = some o) (hn : ¬ inD D i) (he : ∀ e ∈ o.after.toList, Region.binds .any e = true → inD D e.on) {K : Act → World → Prop}
  (hK : ∀ k' ρ' a' w', Inv P pr w0 n ops r ρ0 H0 ws ds (D.setIfInBounds i true) k' ρ' a' w' → K a' w') : wpOp P ops Q i K a w := by
 have hiN : i < ops.size := (Array.getElem?_eq_some_iff.1 ho).1
 -- the writers of what it looks at
 have hcond : ∀ d, d ∈ looks ops o → ∀ q p, ops[q]? = some p → p.dst = some d → (inD D q ↔ q < i) := by
  intro d hd q p hq hpd
  by_cases e : q = i
  ·subst e; exact ⟨fun h => absurd h hn, fun h => by omega⟩
  ·have hb := hr.ord i o q p d ho hq hpd (.inl hd) (Ne.symm e)
   constructor
   ·intro h
    rcases Nat.lt_or_ge q i with hlt | hge
    ·exact hlt
    ·exfalso
     rw [show Nat.max i q = q by simp [Nat.max_def]; omega, show Nat.min i q = i by simp [Nat.min_def]; omega] at hb
     exact hn (wait_for hr hi.closed q p hq (hi.closed q p hq h) i hb)
   ·intro h
    rw [show Nat.max i q = i by simp [Nat.max_def]; omega, show Nat.min i q = q by simp [Nat.min_def]; omega] at hb
    exact wait_for hr hi.closed i o ho he q hb
 -- a frame of what it looks at
 let u := keepT (r.T i) (looks ops o) .leaf
 have hu : TR ρ (hp P ops r k) w n u a.tmps := by
  refine ⟨hi.tsz, fun d v hv => ?_⟩
  rcases keepT_some hv with h | h
  ·exact hi.tmps d i (by omega) (hcond d h.1) v h.2
  ·rw [Tr.get_leaf] at h; cases h
 have hagree : ∀ d, d ∈ looks ops o → u.get d = (r.T i).get d := fun d hd => keepT_mem (.inr ⟨hd, Tr.get_leaf d⟩)
 obtain ⟨s1, s2, s3, s4⟩ := hr.step i o ho
 have hwants : Region.wanted o (yielded ops a.tmps) = r.W i := wants_sound hu ((wants_congr hagree).trans s1)
 have hop : ∀ H, aOp P call u o H = aOp P call (r.T i) o H := fun H => aOp_congr H fun d hd => hagree d (operand_looks hd)
 unfold wpOp
 rw [ho]
 simp only
 rw [hwants]
 have hsub : ∀ j, ¬ inD (D.setIfInBounds i true) j → ¬ inD D j := fun j h h2 => h ((inD_set (by rw [hi.size]; exact hiN)).2 (.inr h2))
 -- that k stays
 have same : ∀ {ρ' w' v'}, (r.W i = false ∨ kindOf P o = 0 ∨ kindOf P o = 1) → Ext ρ (hp P ops r k) w ρ' (hp P ops r k) w' → Rel pr w0 ρ' (hp P ops r k) w' → VR ρ' (hp P ops r k) w' (r.V i) v' → K (a.put o.dst v') w' := by
  intro ρ' w' v' hno hx hrel hv
  refine hK k ρ' _ w' (hi.next hr hr0 ho hn he (Nat.le_refl _) hi.le (fun q j hq => ?_) (fun _ _ hv => hx.vr hi.here.rel.lt hv) (hi.here.on hr0 hsub (fun _ _ _ _ h => h) hx hrel) hv)
  constructor
  ·rintro (rfl | h)
   ·exfalso
    obtain ⟨p, _, h2, h3, h4, h5, _⟩ := effL_mem.1 (List.mem_of_getElem? hq)
    rw [Nat.sub_zero] at h2
    have : p = o := by rw [Array.getElem?_toList, ho] at h2; exact (Option.some.inj h2).symm
    subst this
    rcases hno with h | h | h
    ·rw [h3] at h; cases h
    ·exact h4 h
    ·exact h5 h
   ·exact h
  ·exact .inr
 cases hw : r.W i with
 | false =>
  simp only [Bool.false_eq_true, if_false]
  have hv := (s3 hw).1
  exact same (.inl hw) (Ext.refl _ _ _) hi.here.rel (by rw [hv]; exact flat_refl undef rfl)
 | true =>
  simp only [if_true]
  refine .inl ?_
  have s5 := s4 hw
  by_cases k0 : kindOf P o = 0
  ·obtain ⟨_, h2⟩ := aOp_light k0 s5
   have h3 := (hop _).trans (h2 (hp P ops r k))
   exact aOp_good hm hi.here.rel hu h3 K Q fun ρ' w' v' x1 x2 x3 => same (.inr (.inl k0)) x1 x2 x3
  ·by_cases k1 : kindOf P o = 1
   ·-- it reads
    have h3 : aOp P call (r.T i) o (hp P ops r k) = some (r.V i, hp P ops r k) := by
     by_cases hk : (∀ p q, ops[p]? = some q → r.W p = true → kindOf P q ≠ 2) ∧ k = ahead i ((effL P r 0 ops.toList).map fun j => (j, r.G j))
     ·have e : hp P ops r k = r.G i := hp_at hr hk.1 (by omega) fun q j hq => by rw [hk.2]; exact ahead_lt effL_sorted hq
      have e2 := aOp_read k1 s5
      rw [e]
      rw [e2] at s5
      exact s5
     ·have hmay : mayCome (Region.before ops) i k ((effL P r 0 ops.toList).map fun j => (j, r.G j)) = true := by
       refine mayCome_of (fun q e hq hlt => ?_) fun q e hq hge => ?_
       ·rw [List.getElem?_map] at hq
        cases hj : (effL P r 0 ops.toList)[q]? with
        | none => rw [hj] at hq; cases hq
        | some j =>
         rw [hj] at hq
         simp only [Option.map_some, Option.some.injEq] at hq
         subst hq
         have hD := (hi.eff q j hj).2 hlt
         have hjo : ops[j]? = some (ops[j]'(effL_lt hj)) := Array.getElem?_eq_getElem (effL_lt hj)
         cases hb : ((Region.before ops).getD j 0).testBit i with
         | false => rfl
         | true => exact absurd (wait_for hr hi.closed j _ hjo (hi.closed j _ hjo hD) i hb) hn
       ·rw [List.getElem?_map] at hq
        cases hj : (effL P r 0 ops.toList)[q]? with
        | none => rw [hj] at hq; cases hq
        | some j =>
         rw [hj] at hq
         simp only [Option.map_some, Option.some.injEq] at hq
         subst hq
         cases hb : ((Region.before ops).getD i 0).testBit j with
         | false => rfl
         | true =>
          have hD := wait_for hr hi.closed i o ho he j hb
          have := (hi.eff q j hj).1 hD
          omega
      have hst := hr.steady i o ho hw k1 k hi.le hmay fun h1 h2 => hk ⟨h1, h2⟩
      unfold steady1 at hst
      split at hst
      ·rename_i x G hx
       have e1 := same_eq hst
       have e2 := aOp_read k1 hx
       rw [hp_eq]
       rw [hx, e1, e2]
      ·cases hst
    have h4 := (hop _).trans h3
    exact aOp_good hm hi.here.rel hu h4 K Q fun ρ' w' v' x1 x2 x3 => same (.inr (.inr k1)) x1 x2 x3
   ·by_cases k2 : kindOf P o = 2
    ·-- new memory
     have hlim : i < lim P ops r k := by
      unfold lim
      cases hq : (effL P r 0 ops.toList)[k]? with
      | none => exact hiN
      | some j =>
       simp only
       rcases Nat.lt_or_ge i j with h | h
       ·exact h
       ·exfalso
        have hjm := List.mem_of_getElem? hq
        obtain ⟨p, _, q2, q3, q4, q5, q6⟩ := effL_mem.1 hjm
        have hji : j < i := by
         rcases Nat.lt_or_ge j i with h1 | h1
         ·exact h1
         ·have e : j = i := by omega
          subst e
          rw [Nat.sub_zero, Array.getElem?_toList, ho] at q2
          injection q2 with q2
          subst q2
          exact absurd k2 q6
        have hsplit : effL P r 0 ops.toList = effL P r 0 (ops.toList.take i) ++ effL P r (0 + (ops.toList.take i).length) (ops.toList.drop i) := by
         rw [← effL_append, List.take_append_drop]
        have hjt : j ∈ effL P r 0 (ops.toList.take i) := effL_mem.2 ⟨p, Nat.zero_le _, by rw [Nat.sub_zero] at q2 ⊢; rw [List.getElem?_take, if_pos hji]; exact q2, q3, q4, q5, q6⟩
        cases hl : (effL P r 0 (ops.toList.take i)).getLast? with
        | none => rw [List.getLast?_eq_none_iff] at hl; rw [hl] at hjt; cases hjt
        | some e =>
         have hb := hr.news i o ho hw k2 e hl
         have hD := wait_for hr hi.closed i o ho he e hb
         have hem : e ∈ effL P r 0 ops.toList := by rw [hsplit]; exact List.mem_append.2 (.inl (List.mem_of_getLast? hl))
         obtain ⟨q', hq'⟩ := List.mem_iff_getElem?.1 hem
         have hlt := (hi.eff q' e hq').1 hD
         have hej : e < j := effL_mono hq' hq hlt
         have hje : j ≤ e := by
          obtain ⟨ys, hys⟩ := List.getLast?_eq_some_iff.1 hl
          have hs := effL_sorted (P := P) (r := r) (l := ops.toList.take i) (i := 0)
          rw [hys] at hs hjt
          rcases List.mem_append.1 hjt with h1 | h1
          ·have := (List.pairwise_append.1 hs).2.2 j h1 e (by simp)
           omega
          ·simp at h1; omega
         omega
     have s6 := s5
     rw [aOp_new k2] at s6
     split at s6
     ·rename_i sz cs mk hnew
      simp only [Option.some.injEq, Prod.mk.injEq] at s6
      have hnu : newOf P u o = some (sz, cs, mk) := (newOf_congr fun d hd => hagree d (operand_looks hd)).trans hnew
      obtain ⟨cs', e, v', g1, g2, g3⟩ := aNew_good hu hnu
      have hpu : Pushed w { w with heap := w.heap.push (.cells ⟨cs'⟩ e) } (.cells ⟨cs'⟩ e) := Pushed.mk' w _ w.drawn
      obtain ⟨m1, m2, m3⟩ := hi.here.came (D' := D.setIfInBounds i true) (fun j h => ⟨hsub j h, fun e => h ((inD_set (by rw [hi.size]; exact hiN)).2 (.inl e))⟩) ⟨o, mk, ho, hw, k2, hnew⟩ hlim hn g1 hpu
      have hvv : VR (upR ρ (r.G i).next (w.heap.size, 0)) (hp P ops r k) { w with heap := w.heap.push (.cells ⟨cs'⟩ e) } (r.V i) v' := by
       rw [← s6.1]
       exact g3 _ _ _ _ (upR_same _ _ _) m3 hpu.at_
      refine g2.wp (hK k _ _ _ (hi.next hr hr0 ho hn he (Nat.le_refl _) hi.le (fun q j hq => ?_) m2 m1 hvv))
      constructor
      ·rintro (rfl | h)
       ·exfalso
        obtain ⟨p, _, h2, h3, h4, h5, h6⟩ := effL_mem.1 (List.mem_of_getElem? hq)
        rw [Nat.sub_zero] at h2
        have : p = o := by rw [Array.getElem?_toList, ho] at h2; exact (Option.some.inj h2).symm
        subst this
        exact h6 k2
       ·exact h
      ·exact .inr
     ·cases s6
    ·-- it changes memory
     have hmem : i ∈ effL P r 0 ops.toList := effL_mem.2 ⟨o, Nat.zero_le _, by simpa using ho, hw, k0, k1, k2⟩
     obtain ⟨q, hq⟩ := List.mem_iff_getElem?.1 hmem
     have hql := (List.getElem?_eq_some_iff.1 hq).1
     have hge : k ≤ q := by
      rcases Nat.lt_or_ge q k with h | h
      ·exact absurd ((hi.eff q i hq).2 h) hn
      ·exact h
     have hqk : q = k := by
      rcases Nat.eq_or_lt_of_le hge with h | h
      ·exact h.symm
      ·exfalso
       have hq1 : (effL P r 0 ops.toList)[q - 1]? = some ((effL P r 0 ops.toList)[q - 1]'(by omega)) := List.getElem?_eq_getElem (by omega)
       have hb := hr.chain (q - 1) _ i hq1 (by rw [show q - 1 + 1 = q by omega]; exact hq)
       have hD := wait_for hr hi.closed i o ho he _ hb
       have := (hi.eff (q - 1) _ hq1).1 hD
       omega
     subst hqk
     have hli : lim P ops r q = i := by unfold lim; rw [hq]
     have h4 : aOp P call u o (hp P ops r q) = some (r.V i, r.G (i + 1)) := by rw [hop]; unfold hp; rw [hli]; exact s5
     refine aOp_good hm hi.here.rel hu h4 K Q fun ρ' w' v' x1 x2 x3 => ?_
     have at1 := hi.here.on (D' := D.setIfInBounds i true) hr0 hsub (m' := i + 1) (fun p sz cs hb hlt => by
      rw [hli]
      rcases Nat.lt_or_ge p i with h | h
      ·exact h
      ·have e : p = i := by omega
       subst e
       obtain ⟨o', _, y1, _, y3, _⟩ := hb
       rw [ho] at y1; injection y1 with y1; subst y1
       exact absurd y3 k2) x1 x2
     have hl1 : i + 1 ≤ lim P ops r (q + 1) ∧ lim P ops r (q + 1) ≤ ops.size := by
      unfold lim
      cases hq1 : (effL P r 0 ops.toList)[q + 1]? with
      | none => simp only; omega
      | some j => have := effL_mono hq hq1 (by omega); have := effL_lt hq1; simp only; omega
     obtain ⟨at2, vr2⟩ := at1.steps hr0 hr.step (lim P ops r (q + 1) - (i + 1)) (by omega) fun p h1 h2 hpm => by
      obtain ⟨x, hx⟩ := List.mem_iff_getElem?.1 hpm
      rw [show i + 1 + (lim P ops r (q + 1) - (i + 1)) = lim P ops r (q + 1) by omega] at h2
      rcases Nat.lt_trichotomy x q with e | e | e
      ·have := effL_mono hx hq e; omega
      ·subst e; rw [hq] at hx; injection hx with hx; omega
      ·rcases Nat.eq_or_lt_of_le (Nat.succ_le_of_lt e) with e1 | e1
       ·have e2 : x = q + 1 := e1.symm
        subst e2
        unfold lim at h2
        rw [hx] at h2
        simp at h2
       ·have hq1 : (effL P r 0 ops.toList)[q + 1]? = some ((effL P r 0 ops.toList)[q + 1]'(by have := (List.getElem?_eq_some_iff.1 hx).1; omega)) := List.getElem?_eq_getElem _
        have := effL_mono hq1 hx e1
        unfold lim at h2
        rw [hq1] at h2
        simp only at h2
        omega
     rw [show i + 1 + (lim P ops r (q + 1) - (i + 1)) = lim P ops r (q + 1) by omega] at at2 vr2
     refine hK (q + 1) ρ' _ w' (hi.next hr hr0 ho hn he (by omega) (by omega) (fun p j hp => ?_) (fun v v' hv => vr2 _ _ (x1.vr hi.here.rel.lt hv)) at2 (vr2 _ _ x3))
     constructor
     ·rintro (rfl | h)
      ·rcases Nat.lt_trichotomy p q with e | e | e
       ·omega
       ·omega
       ·have := effL_mono hq hp e; omega
      ·omega
     ·intro h
      rcases Nat.lt_or_ge p q with e | e
      ·exact .inr e
      ·have e2 : p = q := by omega
       subst e2
       rw [hq] at hp
       injection hp with hp
       exact .inl hp.symm
theorem any_of_inv (hm : CalleeOK P pr w0 call) (hr : Run P call n ops r) (hr0 : Rel pr w0 ρ0 H0 ws)
  (hQ : ∀ ρ' a' w', Ext ρ0 H0 ws ρ' (r.G ops.size) w' → Rel pr w0 ρ' (r.G ops.size) w' → TR ρ' (r.G ops.size) w' n (r.T ops.size) a'.tmps → a'.defers = ds → Q .normal a' w') :
  ∀ (fuel : Nat) (D : Array Bool) (k : Nat) (ρ : Rho) (a : Act) (w : World), left ops.size D ≤ fuel → Inv P pr w0 n ops r ρ0 H0 ws ds D k ρ a w → wpAny P .any ops Q fuel D a w := by
 have fin : ∀ (D : Array Bool) (k : Nat) (ρ : Rho) (a : Act) (w : World), Inv P pr w0 n ops r ρ0 H0 ws ds D k ρ a w → (∀ i, i < ops.size → inD D i) → Q .normal a w := by
  intro D k ρ a w hi hall
  have hk : lim P ops r k = ops.size := by
   unfold lim
   cases hq : (effL P r 0 ops.toList)[k]? with
   | none => rfl
   | some j => exact absurd ((hi.eff k j hq).1 (hall j (effL_lt hq))) (by omega)
  have h1 := hi.here.ext
  have h2 := hi.here.rel
  rw [hk] at h1 h2
  refine hQ ρ a w h1 h2 ⟨hi.tsz, fun d v hv => ?_⟩ hi.defs
  have := hi.tmps d ops.size (Nat.le_refl _) (fun i o ho _ => ⟨fun _ => (Array.getElem?_eq_some_iff.1 ho).1, fun h => hall i h⟩) v hv
  unfold hp at this
  rw [hk] at this
  exact this
 have ready : ∀ {D : Array Bool} {i : Nat}, D.size = ops.size → i ∈ Region.ready .any ops D → ∃ o, ops[i]? = some o ∧ D.getD i true = false ∧ ¬ inD D i ∧ ∀ e ∈ o.after.toList, Region.binds .any e = true → inD D e.on := by
  intro D i hD h
  unfold Region.ready at h
  rw [List.mem_filter] at h
  obtain ⟨h1, h2⟩ := h
  have hiN : i < ops.size := by simpa using h1
  have ho : ops[i]? = some ops[i] := Array.getElem?_eq_getElem hiN
  rw [ho] at h2
  simp only [Option.map_some, Option.getD_some, Bool.and_eq_true, Bool.not_eq_true'] at h2
  refine ⟨_, ho, h2.1, ?_, fun e he hbd => ?_⟩
  ·have h3 := h2.1
   unfold inD
   rw [Array.getD_eq_getD_getElem?] at h3 ⊢
   rw [Array.getElem?_eq_getElem (by omega)] at h3 ⊢
   simp only [Option.getD_some] at h3 ⊢
   rw [h3]; simp
  ·have h3 := Array.all_eq_true'.1 h2.2 e (by simpa using he)
   simp only [Bool.or_eq_true, Bool.not_eq_true'] at h3
   rcases h3 with h3 | h3
   ·rw [hbd] at h3; cases h3
   ·exact h3
 have all_of_none : ∀ {D : Array Bool}, D.size = ops.size → Region.ready .any ops D = [] → ∀ i, i < ops.size → inD D i := by
  intro D hD hnil i
  induction i using Nat.strongRecOn with
  | _ i ih =>
   intro hiN
   have ho : ops[i]? = some ops[i] := Array.getElem?_eq_getElem hiN
   have hni : i ∉ Region.ready .any ops D := by rw [hnil]; simp
   unfold Region.ready at hni
   rw [List.mem_filter] at hni
   cases hb : D.getD i true with
   | true =>
    unfold inD
    rw [Array.getD_eq_getD_getElem?] at hb ⊢
    rw [Array.getElem?_eq_getElem (by omega)] at hb ⊢
    simpa using hb
   | false =>
    exfalso
    apply hni
    refine ⟨by simpa using hiN, ?_⟩
    rw [ho]
    simp only [Option.map_some, Option.getD_some, hb, Bool.not_false, Bool.true_and]
    rw [Array.all_eq_true']
    intro e he
    have hd := hr.down i _ ho e (by simpa using he)
    cases hbd : Region.binds .any e with
    | false => simp
    | true =>
     have hlt := hd hbd
     have := ih e.on hlt (by omega)
     unfold inD at this
     rw [this]; simp
 intro fuel
 induction fuel with
 | zero =>
  intro D k ρ a w hl hi
  have hno : Region.ready .any ops D = [] := by
   cases hq : Region.ready .any ops D with
   | nil => rfl
   | cons i l =>
    exfalso
    obtain ⟨o, ho, hb, _⟩ := ready hi.size (i := i) (by rw [hq]; simp)
    have := left_set (Array.getElem?_eq_some_iff.1 ho).1 hi.size hb
    omega
  exact ⟨hno, fin D k ρ a w hi (all_of_none hi.size hno)⟩
 | succ fuel ih =>
  intro D k ρ a w hl hi
  refine ⟨fun hno => fin D k ρ a w hi (all_of_none hi.size hno), fun i him => ?_⟩
  obtain ⟨o, ho, hb, hn, he⟩ := ready hi.size him
  refine Inv.step hm hr hr0 hi ho hn he fun k' ρ' a' w' hi' => ih _ k' ρ' a' w' ?_ hi'
  have := left_set (Array.getElem?_eq_some_iff.1 ho).1 hi.size hb
  omega
theorem aRegion1_any {t : Tr Value} {H : AH} {s' : Tr Value × AH} (hcall : CalleeOK P pr w0 call) (hr : Rel pr w0 ρ H w) (ht : TR ρ H w n t a.tmps)
  (h : aRegion1 P call n ops t H = some s') (hQ : ∀ ρ' a' w', Ext ρ H w ρ' s'.2 w' → Rel pr w0 ρ' s'.2 w' → TR ρ' s'.2 w' n s'.1 a'.tmps → a'.defers = a.defers → Q .normal a' w') :
  wpAny P .any ops Q ops.size (Array.replicate ops.size false) a { w with drawn := w.drawn + 1 } := by
 obtain ⟨t', H'⟩ := s'
 simp only [aRegion1] at h
 split at h
 ·cases h
 ·rename_i hc
  simp only [Bool.and_eq_true] at hc
  split at h
  ·cases h
  ·rename_i t1 H1 m hd
   split at h
   ·rename_i hcs
    simp only [Bool.and_eq_true] at hcs
    simp only [Option.some.injEq, Prod.mk.injEq] at h
    obtain ⟨rfl, rfl⟩ := h
    obtain ⟨r, q1, q2, q3, q4, q5, q6⟩ := trace_of hd
    simp only [Nat.zero_add, Array.length_toList] at q3 q4
    simp only [List.reverse_nil, List.nil_append] at q6
    have hE : effs m = (effL P r 0 ops.toList).map fun j => (j, r.G j) := by rw [q6]; exact effs_mets
    have hrun : Run P call n ops r :=
     {step := fun j o ho => by have := q5 j o (by simpa using ho); rwa [Nat.zero_add] at this
      down := fun i o ho e he hbd => by have := edgesDown_spec hc.1 i o (by simpa using ho) e he hbd; rwa [Nat.zero_add] at this
      ord := fun i o j p d ho hp hd hl hne => by have := ordOk_spec hc.2 i o (by simpa using ho) j p d hp hd hl (by omega); rwa [Nat.zero_add] at this
      chain := fun q i j hi hj => by
       have := chained_spec hcs.1.1 q (i, r.G i) (j, r.G j) (by rw [hE, List.getElem?_map, hi]; rfl) (by rw [hE, List.getElem?_map, hj]; rfl)
       exact this
      news := fun p o ho hw hk e he => by
       have h1 := hcs.1.2
       rw [q6] at h1
       have := newsOk_mets h1 p o (by simpa using ho) (by simpa using hw) hk e (by rw [he]; rfl)
       simpa using this
      steady := fun j o ho hw hk k hle hmay hne => by
       have hmem : (j, o, r.T j, r.V j) ∈ reads m := by
        rw [q6]
        have := reads_mets (P := P) (r := r) (l := ops.toList) (i := 0) j o (by simpa using ho) (by simpa using hw) hk
        simpa using this
       have h1 := steadyAll_spec hcs.2 j o _ _ hmem
       rw [hE] at h1
       have := steady_spec h1 k (by simp; omega) hmay fun hnn => hne fun p q hp hpw => by
        rw [q6] at hnn
        exact anyNew_mets hnn p q (by simpa using hp) (by simpa using hpw)
       rw [← q4] at this
       exact this }
    have hs := hr.same (w' := { w with drawn := w.drawn + 1 }) rfl rfl rfl rfl
    have hnoD : ∀ i, ¬ inD (Array.replicate ops.size false) i := fun i hh => by
     unfold inD at hh
     rw [Array.getD_eq_getD_getElem?, Array.getElem?_replicate] at hh
     split at hh <;> simp at hh
    have at0 : At P pr w0 ops r ρ H w (Array.replicate ops.size false) 0 ρ { w with drawn := w.drawn + 1 } :=
     ⟨by rw [q2]; exact hs.2, by rw [q2]; exact hs.1, fun p sz cs _ hlt => by omega, fun p q sz cs sz' cs' _ _ _ hlt => by omega⟩
    have hlim : lim P ops r 0 ≤ ops.size := by
     unfold lim
     cases hq : (effL P r 0 ops.toList)[0]? with
     | none => exact Nat.le_refl _
     | some j => exact Nat.le_of_lt (effL_lt hq)
    obtain ⟨at1, vr1⟩ := at0.steps hr hrun.step (lim P ops r 0) (by omega) fun p _ h2 hpm => by
     obtain ⟨x, hx⟩ := List.mem_iff_getElem?.1 hpm
     rw [Nat.zero_add] at h2
     cases x with
     | zero => unfold lim at h2; rw [hx] at h2; simp at h2
     | succ x =>
      have hq1 : (effL P r 0 ops.toList)[0]? = some ((effL P r 0 ops.toList)[0]'(by have := (List.getElem?_eq_some_iff.1 hx).1; omega)) := List.getElem?_eq_getElem _
      have := effL_mono hq1 hx (Nat.succ_pos x)
      unfold lim at h2
      rw [hq1] at h2
      simp only at h2
      omega
    rw [Nat.zero_add] at at1 vr1
    refine any_of_inv (ρ0 := ρ) (H0 := H) (ws := w) (ds := a.defers) hcall hrun hr (fun ρ' a' w' x1 x2 x3 x4 => ?_) ops.size _ 0 ρ a _ ?_ ?_
    ·rw [q4] at x1 x2 x3; rw [q3] at x3; exact hQ ρ' a' w' x1 x2 x3 x4
    ·unfold left
     exact Nat.le_trans (List.length_filter_le _ _) (by simp)
    ·refine ⟨by simp, fun i o _ hh => absurd hh (hnoD i), Nat.zero_le _, fun q j _ => ⟨fun hh => absurd hh (hnoD j), fun hh => by omega⟩, at1, ht.size, fun d j hj hcond v hv => ?_, rfl⟩
     have : (r.T j).get d = (r.T 0).get d := by
      have := T_const hrun.step (i := 0) d j (by omega) fun q o _ hq ho hd => by
       have := (hcond q o ho hd).2 (by omega)
       exact hnoD q this
      simpa using this
     rw [this, q1] at hv
     obtain ⟨v', y1, y2⟩ := ht.get d v hv
     refine ⟨v', y1, vr1 _ _ ?_⟩
     rw [q2]
     exact hs.1.vr hr.lt y2
   ·cases h
theorem aRegion_sound {id : Nat} {hint : Option (List Nat)} {draw : Bool} {t : Tr Value} {H : AH} {s' : Tr Value × AH} (hmx : P.follows .mixedOrders = true) (hcall : CalleeOK P pr w0 call) (hr : Rel pr w0 ρ H w) (ht : TR ρ H w n t a.tmps)
  (h : aRegion P call n hint ops draw t H = some s') (hQ : ∀ ρ' a' w', Ext ρ H w ρ' s'.2 w' → Rel pr w0 ρ' s'.2 w' → TR ρ' s'.2 w' n s'.1 a'.tmps → a'.defers = a.defers → Q .normal a' w') : (Code.region id ops draw).wp P Q a w := by
 cases draw with
 | false =>
  obtain ⟨t', H'⟩ := s'
  refine wp_region ?_
  simp only [aRegion] at h
  have := aOps_sound (Q := Q) hcall ops.toList 0 t t' H H' ρ a w (fun j => by simp) h hr ht hQ
  rw [List.range_eq_range']
  simpa using this
 | true =>
  refine wp_region_any hmx ?_
  cases hint with
  | none =>
   simp only [aRegion] at h
   exact aRegion1_any hcall hr ht h hQ
  | some l =>
   simp only [aRegion] at h
   split at h
   ·rename_i hp
    simp only [Bool.and_eq_true] at hp
    have := aRegion1_any hcall hr ht h hQ
    rw [permOps_size hp.1] at this
    refine wpAny_ren hp.1 hp.2 _ _ _ a _ (by simp) (by simp) (fun i hi => ?_) this
    have hpl : placeIn i l < ops.size := by
     obtain ⟨k1, k2, _⟩ := isPerm_spec hp.1
     have := (List.getElem?_eq_some_iff.1 (k2 i hi)).1; omega
    simp [Array.getElem?_replicate, hi, hpl]
   ·cases h
end
end AM
end Go.Proofs.YtemcmblcogljkaaGreatDoor

namespace Go.Proofs.YtemcmblcogljkaaGreatDoor
namespace AM
open Go
section
variable {P : Program} {pr : Nat → Prop} {w0 : World} {ρ ρ' : Rho} {H H' : AH} {w w' : World} {call : Callee}
def AX.toExit : AX → Exit
 | .normal => .normal
 | .exit id => .exit id
 | .ret => .ret
theorem cutS_tr {n : Nat} {ks : Keeps} {c : Code} {s : St} {tmps : Array Value} (h : TR ρ s.2 w n s.1 tmps) : TR ρ (cutS ks c s).2 w n (cutS ks c s).1 tmps ∧ (cutS ks c s).2 = s.2 := by
 unfold cutS
 split
 ·split
  ·refine ⟨⟨h.size, fun i v hv => ?_⟩, rfl⟩
   rcases keepT_some hv with hv | hv
   ·exact h.get i v hv.2
   ·rw [Tr.get_leaf] at hv; cases hv
  ·exact ⟨h, rfl⟩
 ·exact ⟨h, rfl⟩
theorem cutR_tr {n : Nat} {ks : Keeps} {id : Nat} {s : St} {tmps : Array Value} (h : TR ρ s.2 w n s.1 tmps) : TR ρ (cutR ks id s).2 w n (cutR ks id s).1 tmps ∧ (cutR ks id s).2 = s.2 := by
 unfold cutR
 split
 ·refine ⟨⟨h.size, fun i v hv => ?_⟩, rfl⟩
  rcases keepT_some hv with hv | hv
  ·exact h.get i v hv.2
  ·rw [Tr.get_leaf] at hv; cases hv
 ·exact ⟨h, rfl⟩
def Owed (pr : Nat → Prop) (w0 : World) (ρ : Rho) (H : AH) (w : World) (n : Nat) (ds : List Deferred) (s' : St) (K : Act → World → Prop) : Prop :=
 ∀ ρ' a' w', Ext ρ H w ρ' s'.2 w' → Rel pr w0 ρ' s'.2 w' → TR ρ' s'.2 w' n s'.1 a'.tmps → a'.defers = ds → K a' w'
theorem exec_sound {ks : Keeps} {fuel n : Nat} (hm : P.follows .mixedOrders = true) (hcall : CalleeOK P pr w0 call) : ∀ (c : Code) (s s' : St) (x : AX), exec P call ks fuel n c s = some (x, s') → ∀ (ρ : Rho) (a : Act) (w : World) (Q : Exit → Act → World → Prop),
  Rel pr w0 ρ s.2 w → TR ρ s.2 w n s.1 a.tmps → Owed pr w0 ρ s.2 w n a.defers s' (Q x.toExit) → c.wp P Q a w
 | .skip, s, s', x, h, ρ, a, w, Q, hr, ht, hQ => by
  simp only [exec, Option.some.injEq, Prod.mk.injEq] at h
  obtain ⟨rfl, rfl⟩ := h
  exact wp_skip (hQ ρ a w (Ext.refl _ _ _) hr ht rfl)
 | .region id ops draw, s, s', x, h, ρ, a, w, Q, hr, ht, hQ => by
  simp only [exec] at h
  split at h
  ·rename_i s1 hs
   simp only [Option.some.injEq, Prod.mk.injEq] at h
   obtain ⟨rfl, rfl⟩ := h
   refine aRegion_sound hm hcall hr ht hs fun ρ' a' w' h1 h2 h3 h4 => ?_
   obtain ⟨c1, c2⟩ := cutR_tr (ks := ks) (id := id) h3
   exact hQ ρ' a' w' (by rw [c2]; exact h1) (by rw [c2]; exact h2) c1 h4
  ·cases h
 | .seq c1 c2, s, s', x, h, ρ, a, w, Q, hr, ht, hQ => by
  simp only [exec] at h
  split at h
  ·rename_i s1 hs
   refine wp_seq (exec_sound hm hcall c1 s s1 .normal hs ρ a w _ hr ht fun ρ' a' w' h1 h2 h3 h4 => ?_)
   exact exec_sound hm hcall c2 s1 s' x h ρ' a' w' Q h2 h3 fun ρ'' a'' w'' k1 k2 k3 k4 => hQ ρ'' a'' w'' (h1.trans h2 hr k1) k2 k3 (k4.trans h4)
  ·rename_i hne
   refine wp_seq (exec_sound hm hcall c1 s s' x h ρ a w _ hr ht fun ρ' a' w' h1 h2 h3 h4 => ?_)
   cases x with
   | normal => exact absurd h (hne s')
   | exit id => exact hQ ρ' a' w' h1 h2 h3 h4
   | ret => exact hQ ρ' a' w' h1 h2 h3 h4
 | .cond c x1 y1, s, s', x, h, ρ, a, w, Q, hr, ht, hQ => by
  simp only [exec] at h
  split at h
  ·rename_i hc
   have hc1 := ev_sound ht hc
   generalize hce : a.eval c = ce at hc1
   cases hc1
   exact wp_cond_true hce (exec_sound hm hcall x1 s s' x h ρ a w Q hr ht hQ)
  ·rename_i hc
   have hc1 := ev_sound ht hc
   generalize hce : a.eval c = ce at hc1
   cases hc1
   exact wp_cond_false hce (exec_sound hm hcall y1 s s' x h ρ a w Q hr ht hQ)
  ·cases h
 | .block id c, s, s', x, h, ρ, a, w, Q, hr, ht, hQ => by
  simp only [exec] at h
  split at h
  ·rename_i j s1 hs
   refine wp_block (exec_sound hm hcall c s s1 (.exit j) hs ρ a w _ hr ht fun ρ' a' w' h1 h2 h3 h4 => ?_)
   split at h
   ·rename_i hj
    have hj' := Nat.eq_of_beq_eq_true hj
    simp only [Option.some.injEq, Prod.mk.injEq] at h
    obtain ⟨rfl, rfl⟩ := h
    simp only [AX.toExit, Exit.inBlock, hj', if_true]
    obtain ⟨c1, c2⟩ := cutR_tr (ks := ks) (id := id + 1000) h3
    exact hQ ρ' a' w' (by rw [c2]; exact h1) (by rw [c2]; exact h2) c1 h4
   ·rename_i hj
    simp only [Option.some.injEq, Prod.mk.injEq] at h
    obtain ⟨rfl, rfl⟩ := h
    have hj' : ¬ j = id := fun e => by subst e; simp at hj
    simp only [AX.toExit, Exit.inBlock, hj', if_false]
    exact hQ ρ' a' w' h1 h2 h3 h4
  ·rename_i s1 hs
   refine wp_block (exec_sound hm hcall c s s1 .normal hs ρ a w _ hr ht fun ρ' a' w' h1 h2 h3 h4 => ?_)
   simp only [Option.some.injEq, Prod.mk.injEq] at h
   obtain ⟨rfl, rfl⟩ := h
   obtain ⟨c1, c2⟩ := cutR_tr (ks := ks) (id := id + 1000) h3
   exact hQ ρ' a' w' (by rw [c2]; exact h1) (by rw [c2]; exact h2) c1 h4
  ·rename_i hne hnn
   refine wp_block (exec_sound hm hcall c s s' x h ρ a w _ hr ht fun ρ' a' w' h1 h2 h3 h4 => ?_)
   cases x with
   | normal => exact absurd h (hnn s')
   | exit j => exact absurd h (hne j s')
   | ret => exact hQ ρ' a' w' h1 h2 h3 h4
 | .loop c, s, s', x, h, ρ, a, w, Q, hr, ht, hQ => by
  simp only [exec] at h
  have key : ∀ (k : Nat) (s : St) (ρ : Rho) (a : Act) (w : World), aIter (fun s => exec P call ks fuel n c (cutS ks c s)) k s = some (x, s') → Rel pr w0 ρ s.2 w → TR ρ s.2 w n s.1 a.tmps → Owed pr w0 ρ s.2 w n a.defers s' (Q x.toExit) → Code.rounds P c Q k a w := by
   intro k
   induction k with
   | zero => intro s ρ a w h; cases h
   | succ k ih =>
    intro s ρ a w h hr ht hQ
    simp only [aIter] at h
    obtain ⟨hc1, hc2⟩ := cutS_tr (ks := ks) (c := c) ht
    split at h
    ·cases h
    ·rename_i s1 hs
     refine exec_sound hm hcall c _ s1 .normal hs ρ a w _ (by rw [hc2]; exact hr) hc1 fun ρ' a' w' h1 h2 h3 h4 => ?_
     rw [hc2] at h1
     exact ih s1 ρ' a' w' h h2 h3 fun ρ'' a'' w'' k1 k2 k3 k4 => hQ ρ'' a'' w'' (h1.trans h2 hr k1) k2 k3 (k4.trans h4)
    ·rename_i r hne hs
     simp only [Option.some.injEq] at h
     subst h
     refine exec_sound hm hcall c _ s' x hs ρ a w _ (by rw [hc2]; exact hr) hc1 fun ρ' a' w' h1 h2 h3 h4 => ?_
     rw [hc2] at h1
     cases x with
     | normal => exact absurd rfl (hne s')
     | exit j => exact hQ ρ' a' w' h1 h2 h3 h4
     | ret => exact hQ ρ' a' w' h1 h2 h3 h4
  exact wp_loop_rounds fuel (key fuel s ρ a w h hr ht hQ)
 | .exit id, s, s', x, h, ρ, a, w, Q, hr, ht, hQ => by
  simp only [exec, Option.some.injEq, Prod.mk.injEq] at h
  obtain ⟨rfl, rfl⟩ := h
  exact wp_exit (hQ ρ a w (Ext.refl _ _ _) hr ht rfl)
 | .ret, s, s', x, h, ρ, a, w, Q, hr, ht, hQ => by
  simp only [exec, Option.some.injEq, Prod.mk.injEq] at h
  obtain ⟨rfl, rfl⟩ := h
  exact wp_ret (hQ ρ a w (Ext.refl _ _ _) hr ht rfl)
 | .rangeFunc .., s, s', x, h, _, _, _, _, _, _, _ => by simp [exec] at h
 | .scope _, s, s', x, h, _, _, _, _, _, _, _ => by simp [exec] at h
 | .label _, s, s', x, h, _, _, _, _, _, _, _ => by simp [exec] at h
 | .goto _, s, s', x, h, _, _, _, _, _, _, _ => by simp [exec] at h
 | .refuse _, s, s', x, h, _, _, _, _, _, _, _ => by simp [exec] at h
theorem res_sound {n : Nat} {t : Tr Value} {tmps : Array Value} (hr : Rel pr w0 ρ H w) (ht : TR ρ H w n t tmps) {r : ResultVar} {v : Value} (h : resV t H P r = some v) :
  ∃ v', (match r with | .tmp t => pure (tmps.getD t undef) | .cell a t => do loadVar t (← asAddr (tmps.getD a undef)) : Sem Value).run P w = .ok v' w ∧ VR ρ H w v v' := by
 have hget : ∀ i u, t.get i = some u → VR ρ H w u (tmps.getD i undef) := fun i u hu => by
  obtain ⟨u', h1, h2⟩ := ht.get i u hu
  rw [Array.getD_eq_getD_getElem?, h1]; exact h2
 cases r with
 | tmp i => exact ⟨_, rfl, hget i v h⟩
 | cell a ty =>
  simp only [resV] at h
  split at h
  ·rename_i av ha hk
   have hv := hget a av ha
   obtain ⟨v', k1, k2⟩ := load_run (P := P) hr hk hv (by split at h <;> (rename_i he; rw [he]; exact h))
   refine ⟨v', ?_, k2⟩
   have : ∃ p, tmps.getD a undef = .pointer (some p) := by
    generalize tmps.getD a undef = x at hv k1
    cases hv <;> first | exact ⟨_, rfl⟩ | (simp [Instr.loadAt, Instr.sureAddr] at k1)
   obtain ⟨p, hp⟩ := this
   rw [hp] at k1
   simp only [hp]
   simpa [Instr.loadAt, Instr.sureAddr, asAddr] using k1
  ·cases h
theorem ress_sound {n : Nat} {t : Tr Value} {tmps : Array Value} (hr : Rel pr w0 ρ H w) (ht : TR ρ H w n t tmps) : ∀ {rs : List ResultVar} {l : List Value}, resVs t H P rs = some l →
  ∃ l', (rs.mapM fun r => (match r with | .tmp t => pure (tmps.getD t undef) | .cell a t => do loadVar t (← asAddr (tmps.getD a undef)) : Sem Value)).run P w = .ok l' w ∧ VRs ρ H w l l'
 | [], l, h => by simp only [resVs, Option.some.injEq] at h; subst h; exact ⟨[], rfl, .nil⟩
 | r :: rs, l, h => by
  simp only [resVs] at h
  split at h
  ·cases h
  ·rename_i v hv
   split at h
   ·cases h
   ·rename_i vs hvs
    injection h with h
    subst h
    obtain ⟨v', k1, k2⟩ := res_sound hr ht hv
    obtain ⟨l', k3, k4⟩ := ress_sound hr ht hvs
    refine ⟨v' :: l', ?_, .cons k2 k4⟩
    rw [List.mapM_cons, Sem.run_bind, k1]
    simp only [Result.andThen_ok]
    rw [Sem.run_bind, k3]
    rfl
theorem tupled_vr {l l' : List Value} (h : VRs ρ H w l l') : VR ρ H w (tupled l) (if hh : (⟨l'⟩ : Array Value).size = 1 then (⟨l'⟩ : Array Value)[0] else .tuple ⟨l'⟩) := by
 match l, l', h with
 | [], [], _ => exact .tuple [] [] rfl fun i v v' h => by simp at h
 | [v], [v'], h => exact h.head
 | a :: b :: r, a' :: b' :: r', h => exact .tuple _ _ h.1 h.2
theorem run_sound {ks : Keeps} {fuel : Nat} {f : FuncId} {fn : Func} (hm : P.follows .mixedOrders = true) (hcall : CalleeOK P pr w0 call) (hf : P.funcs[f]? = some fn) {args args' : Array Value} {v : Value} (h : run P call ks fuel fn args H = some (v, H'))
  (hr : Rel pr w0 ρ H w) (ha : VRs ρ H w args.toList args'.toList) : Calls P f args' w fun e w' => ∃ ρ' v', e = .returned v' ∧ Ext ρ H w ρ' H' w' ∧ Rel pr w0 ρ' H' w' ∧ VR ρ' H' w' v v' := by
 unfold run at h
 split at h
 ·cases h
 rename_i c hb
 split at h
 ·cases h
 rename_i hle
 have hle' := Nat.le_of_ble_eq_true hle
 have hsz : args'.size = args.size := by have := ha.1; simp at this; omega
 have ht : TR ρ H w fn.ntmps (argsT args) (args' ++ Array.replicate (fn.ntmps - args'.size) undef) := by
  refine ⟨by simp; omega, fun i u hu => ?_⟩
  unfold argsT at hu
  rw [Tr.get_putAll] at hu
  split at hu
  ·rename_i hi
   simp only [Nat.zero_add, Array.length_toList] at hi
   obtain ⟨u', k1, k2⟩ := ha.get hu
   refine ⟨u', ?_, k2⟩
   rw [Array.getElem?_append_left (by omega)]
   simpa using k1
  ·rw [Tr.get_leaf] at hu; cases hu
 have post : ∀ (t : Tr Value) (H1 : AH) (l : List Value), resVs t H1 P fn.results.toList = some l → ∀ (ρ' : Rho) (a' : Act) (w' : World), Ext ρ H w ρ' H1 w' → Rel pr w0 ρ' H1 w' → TR ρ' H1 w' fn.ntmps t a'.tmps →
   ∃ v', (results fn a'.tmps).run P w' = .ok v' w' ∧ VR ρ' H1 w' (tupled l) v' := by
  intro t H1 l hl ρ' a' w' _ h2 h3
  obtain ⟨l', k1, k2⟩ := ress_sound h2 h3 hl
  refine ⟨_, ?_, tupled_vr k2⟩
  unfold results
  rw [Sem.run_bind, Array.mapM_eq_mapM_toList, Sem.run_map]
  erw [k1]
  simp only [Result.andThen_ok]
  rfl
 split at h
 ·rename_i t H1 he
  split at h
  ·rename_i l hl
   simp only [Option.some.injEq, Prod.mk.injEq] at h
   obtain ⟨rfl, rfl⟩ := h
   refine calls_of_wp hf hb (exec_sound hm hcall c _ _ _ he ρ _ w _ hr ht fun ρ' a' w' h1 h2 h3 h4 => ?_)
   obtain ⟨v', k1, k2⟩ := post t _ l hl ρ' a' w' h1 h2 h3
   exact ⟨h4, v', k1, ρ', v', rfl, h1, h2, k2⟩
  ·cases h
 ·rename_i t H1 he
  split at h
  ·rename_i l hl
   simp only [Option.some.injEq, Prod.mk.injEq] at h
   obtain ⟨rfl, rfl⟩ := h
   refine calls_of_wp hf hb (exec_sound hm hcall c _ _ _ he ρ _ w _ hr ht fun ρ' a' w' h1 h2 h3 h4 => ?_)
   obtain ⟨v', k1, k2⟩ := post t _ l hl ρ' a' w' h1 h2 h3
   exact ⟨h4, v', k1, ρ', v', rfl, h1, h2, k2⟩
  ·cases h
 ·cases h
structure Plain (P : Program) : Prop where
 mixed : P.follows .mixedOrders = true
 names : ∀ (f : FuncId) (fn : Func), P.funcs[f]? = some fn → (fn.name == "runtime.NumGoroutine") = false
theorem callFunc_run (hP : Plain P) {f : FuncId} {fn : Func} (hf : P.funcs[f]? = some fn) (hb : fn.body.isNone = false) (args : Array Value) (w : World) : (callFunc f args).run P w = .ok (.enter f args) w := by
 have hn := hP.names f fn hf
 simp only [callFunc, Sem.run_bind, run_program, Result.andThen_ok, hf, hn, hb, Bool.false_eq_true, if_false]
 rfl
theorem callF_sound (hP : Plain P) {prims : Prims} {ks : FuncId → Keeps} (hprim : CalleeOK P pr w0 fun f args H => match prims f with | some p => p args H | none => none) : ∀ k, CalleeOK P pr w0 (callF P prims ks k)
 | 0 => fun f args H v H' h => by cases h
 | k + 1 => fun f args H v H' h => by
  unfold callF at h
  split at h
  ·rename_i p hp
   exact hprim f args H v H' (by simp only [hp]; exact h)
  ·split at h
   ·cases h
   ·rename_i fn hf
    have hb : fn.body.isNone = false := by
     cases hb : fn.body with
     | none => simp only [run, hb] at h; cases h
     | some c => rfl
    refine ⟨fun args' w => callFunc_run hP hf hb args' w, fun ρ w args' hr ha => ?_⟩
    exact run_sound hP.mixed (callF_sound hP hprim k) hf h hr ha
end
end AM
end Go.Proofs.YtemcmblcogljkaaGreatDoor

