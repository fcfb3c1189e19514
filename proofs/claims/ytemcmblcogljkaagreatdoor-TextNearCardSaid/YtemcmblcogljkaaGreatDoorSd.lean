/- The abstract machine: regions. The abstract machine: a region's operations in another order of writing. The abstract machine: new rows that come late. -/
import Derived.Test.YtemcmblcogljkaaGreatDoorSc
import Derived.Orders
set_option linter.all false
set_option linter.unusedSimpArgs false
set_option linter.unusedVariables false
namespace Go.Proofs.YtemcmblcogljkaaGreatDoor
namespace AM
open Go
section
variable {P : Program} {pr : Nat → Prop} {w0 : World} {ρ ρ' : Rho} {H H' : AH} {w w' : World} {call : Callee}
theorem wants_sound {n : Nat} {ops : Array Oper} {t : Tr Value} {tmps : Array Value} {o : Oper} {b : Bool} (ht : TR ρ H w n t tmps) (h : wants ops t o = some b) : Region.wanted o (yielded ops tmps) = b := by
 unfold wants at h
 unfold Region.wanted
 split at h
 ·rename_i hg
  rw [hg]
  injection h with h
 ·rename_i j want hg
  rw [hg]
  simp only
  split at h
  ·cases h
  ·rename_i d hd
   unfold yielded
   rw [hd]
   simp only [Option.bind_some]
   split at h
   ·rename_i b0 hb
    obtain ⟨v', h1, h2⟩ := ht.get d _ hb
    cases h2
    rw [h1]
    exact Option.some.inj h
   ·rename_i vs hb
    obtain ⟨v', h1, h2⟩ := ht.get d _ hb
    cases h2
    rw [h1]
    exact Option.some.inj h
   ·cases h
theorem aOps_sound {n : Nat} {ops : Array Oper} {Q : Exit → Act → World → Prop} (hcall : CalleeOK P pr w0 call) : ∀ (r : List Oper) (k : Nat) (t t' : Tr Value) (H H' : AH) (ρ : Rho) (a : Act) (w : World), (∀ j, r[j]? = ops[k + j]?) → aOps P call n ops r t H = some (t', H') →
  Rel pr w0 ρ H w → TR ρ H w n t a.tmps → (∀ ρ' a' w', Ext ρ H w ρ' H' w' → Rel pr w0 ρ' H' w' → TR ρ' H' w' n t' a'.tmps → a'.defers = a.defers → Q .normal a' w') → wpOps P ops Q (List.range' k r.length) a w
 | [], k, t, t', H, H', ρ, a, w, _, h, hr, ht, hQ => by
  simp only [aOps, Option.some.injEq, Prod.mk.injEq] at h
  obtain ⟨rfl, rfl⟩ := h
  exact hQ ρ a w (Ext.refl _ _ _) hr ht rfl
 | o :: r, k, t, t', H, H', ρ, a, w, hops, h, hr, ht, hQ => by
  have ho : ops[k]? = some o := by simpa using (hops 0).symm
  have hrest : ∀ j, r[j]? = ops[k + 1 + j]? := fun j => by
   have := hops (j + 1)
   rw [show k + 1 + j = k + (j + 1) by omega, ← this]
   rfl
  have hdef : ∀ v', (a.put o.dst v').defers = a.defers := fun v' => by unfold Act.put; split <;> rfl
  rw [List.length_cons, List.range'_succ]
  simp only [wpOps, ho]
  simp only [aOps] at h
  split at h
  ·cases h
  ·rename_i hw
   rw [wants_sound ht hw]
   split at h
   ·cases h
   ·rename_i t1 hp
    simp only [Bool.false_eq_true, if_false]
    exact aOps_sound hcall r (k + 1) t1 t' H H' ρ _ w hrest h hr (ht.put hp (flat_refl undef rfl) a.defers) fun ρ' a' w' h1 h2 h3 h4 => hQ ρ' a' w' h1 h2 h3 (h4.trans (hdef _))
  ·rename_i hw
   rw [wants_sound ht hw]
   split at h
   ·cases h
   ·rename_i v H1 hop
    split at h
    ·cases h
    ·rename_i t1 hp
     simp only [if_true]
     refine .inl (aOp_good hcall hr ht hop _ _ fun ρ' w' v' k1 k2 k3 => ?_)
     exact aOps_sound hcall r (k + 1) t1 t' H1 H' ρ' _ w' hrest h k2 ((ht.ext k1 hr.lt).put hp k3 a.defers) fun ρ'' a' w'' h1 h2 h3 h4 => hQ ρ'' a' w'' (k1.trans k2 hr h1) h2 h3 (h4.trans (hdef _))
end
end AM
end Go.Proofs.YtemcmblcogljkaaGreatDoor

namespace Go.Proofs.YtemcmblcogljkaaGreatDoor
namespace AM
open Go
theorem isPerm_spec {n : Nat} {l : List Nat} (h : isPerm n l = true) : l.length = n ∧ (∀ i, i < n → l[placeIn i l]? = some i) ∧ (∀ (p i : Nat), l[p]? = some i → i < n ∧ placeIn i l = p) := by
 simp only [isPerm, Bool.and_eq_true, List.all_eq_true, List.mem_range, beq_iff_eq] at h
 have hlen := Nat.eq_of_beq_eq_true h.1.1
 refine ⟨hlen, h.1.2, fun p i hp => ?_⟩
 have hpl := (List.getElem?_eq_some_iff.1 hp).1
 have := h.2 p (by omega)
 rw [hp] at this
 simp only [Bool.and_eq_true, Nat.blt_eq] at this
 exact ⟨this.1, Nat.eq_of_beq_eq_true this.2⟩
theorem permOps_get {l : List Nat} {ops : Array Oper} (hl : ∀ (p i : Nat), l[p]? = some i → i < ops.size) (p : Nat) : (permOps l ops)[p]? = (l[p]?).bind fun j => (ops[j]?).map (renOp fun i => placeIn i l) := by
 have key : ∀ (f : Nat → Option Oper) (m : List Nat), (∀ i ∈ m, ∃ o, f i = some o) → ∀ q : Nat, (m.filterMap f)[q]? = (m[q]?).bind f := by
  intro f m
  induction m with
  | nil => intro _ q; simp
  | cons x m ih =>
   intro h q
   obtain ⟨o, ho⟩ := h x (by simp)
   rw [List.filterMap_cons_some ho]
   cases q with
   | zero => simp [ho]
   | succ q => simpa using ih (fun i hi => h i (by simp [hi])) q
 unfold permOps
 simp only [List.getElem?_toArray]
 exact key _ l (fun i hi => by
  obtain ⟨q, hq⟩ := List.mem_iff_getElem?.1 hi
  have := hl q i hq
  exact ⟨_, by rw [Array.getElem?_eq_getElem this]; rfl⟩) p
theorem permOps_size {l : List Nat} {ops : Array Oper} (h : isPerm ops.size l = true) : (permOps l ops).size = ops.size := by
 obtain ⟨h1, h2, h3⟩ := isPerm_spec h
 have hg := permOps_get (l := l) (ops := ops) fun p i hp => (h3 p i hp).1
 apply Nat.le_antisymm
 ·rcases Nat.lt_or_ge ops.size (permOps l ops).size with hlt | hge
  ·have := hg ops.size
   rw [Array.getElem?_eq_getElem hlt, List.getElem?_eq_none (by omega)] at this
   cases this
  ·exact hge
 ·rcases Nat.lt_or_ge (permOps l ops).size ops.size with hlt | hge
  ·have := hg (permOps l ops).size
   rw [Array.getElem?_eq_none (Nat.le_refl _), List.getElem?_eq_getElem (by omega)] at this
   have h4 := (h3 (permOps l ops).size _ (List.getElem?_eq_getElem (by omega))).1
   simp only [Option.bind_some, Array.getElem?_eq_getElem h4, Option.map_some] at this
   cases this
  ·exact hge
section
variable {P : Program} {Q : Exit → Act → World → Prop} {ops : Array Oper} {l : List Nat}
theorem permOps_at (h : isPerm ops.size l = true) {i : Nat} (hi : i < ops.size) : (permOps l ops)[placeIn i l]? = (ops[i]?).map (renOp fun i => placeIn i l) := by
 obtain ⟨h1, h2, h3⟩ := isPerm_spec h
 rw [permOps_get fun p i hp => (h3 p i hp).1, h2 i hi]
 rfl
theorem renOp_wp (τ : Nat → Nat) (o : Oper) (a : Act) (w : World) (K : Act → World → Prop) : (renOp τ o).wp P a w K Q = o.wp P a w K Q := rfl
theorem renOp_asks (τ : Nat → Nat) (o : Oper) (a : Act) (w : World) : (renOp τ o).asks P a w = o.asks P a w := rfl
theorem wanted_ren (h : isPerm ops.size l = true) {o : Oper} (hg : match o.guard with | some (j, _) => j < ops.size | none => True) (tmps : Array Value) :
  Region.wanted (renOp (fun i => placeIn i l) o) (yielded (permOps l ops) tmps) = Region.wanted o (yielded ops tmps) := by
 unfold Region.wanted renOp
 cases hgu : o.guard with
 | none => simp
 | some g =>
  obtain ⟨j, b⟩ := g
  rw [hgu] at hg
  simp only [Option.map_some]
  unfold yielded
  rw [permOps_at h hg]
  cases ops[j]? <;> rfl
theorem wpOp_ren (h : isPerm ops.size l = true) (hr : refsOk ops = true) {i : Nat} (hi : i < ops.size) {K K' : Act → World → Prop} (hK : ∀ a w, K a w → K' a w) {a : Act} {w : World}
  (hw : wpOp P (permOps l ops) Q (placeIn i l) K a w) : wpOp P ops Q i K' a w := by
 have ho : ops[i]? = some ops[i] := Array.getElem?_eq_getElem hi
 have href := List.all_eq_true.1 hr ops[i] (by simp)
 simp only [Bool.and_eq_true] at href
 have hg : match ops[i].guard with | some (j, _) => j < ops.size | none => True := by
  have := href.2
  split at this <;> simp_all [Nat.blt_eq]
 unfold wpOp at hw ⊢
 rw [permOps_at h hi, ho] at hw
 simp only [Option.map_some] at hw
 rw [ho]
 simp only
 rw [wanted_ren h hg] at hw
 split
 ·rename_i hc
  rw [if_pos hc, renOp_wp, renOp_asks] at hw
  exact hw.imp (Oper.wp_mono hK) id
 ·rename_i hc
  rw [if_neg hc] at hw
  exact hK _ _ hw
theorem ready_ren (h : isPerm ops.size l = true) (hr : refsOk ops = true) {D D' : Array Bool} (hs : D.size = ops.size) (hs' : D'.size = ops.size) (hD : ∀ i, i < ops.size → D[i]? = D'[placeIn i l]?) (i : Nat) :
  i ∈ Region.ready .any ops D ↔ i < ops.size ∧ placeIn i l ∈ Region.ready .any (permOps l ops) D' := by
 obtain ⟨h1, h2, h3⟩ := isPerm_spec h
 unfold Region.ready
 simp only [List.mem_filter, List.mem_range]
 constructor
 ·rintro ⟨hi, hb⟩
  have hpl : placeIn i l < ops.size := by
   have := (List.getElem?_eq_some_iff.1 (h2 i hi)).1; omega
  refine ⟨hi, by rw [permOps_size h]; exact hpl, ?_⟩
  rw [permOps_at h hi, Array.getElem?_eq_getElem hi]
  rw [Array.getElem?_eq_getElem hi] at hb
  simp only [Option.map_some, Option.getD_some, Bool.and_eq_true, Array.all_eq_true', Bool.or_eq_true, Bool.not_eq_true'] at hb ⊢
  refine ⟨?_, fun e he => ?_⟩
  ·have := hb.1
   rw [Array.getD_eq_getD_getElem?] at this ⊢
   rw [← hD i hi]; exact this
  ·simp only [renOp, Array.mem_map] at he
   obtain ⟨e0, he0, rfl⟩ := he
   have h4 := hb.2 e0 he0
   rcases h4 with h4 | h4
   ·exact .inl h4
   ·right
    have hlt : e0.on < ops.size := by
     rw [Array.getD_eq_getD_getElem?] at h4
     rcases Nat.lt_or_ge e0.on ops.size with h5 | h5
     ·exact h5
     ·rw [Array.getElem?_eq_none (by omega)] at h4; simp at h4
    rw [Array.getD_eq_getD_getElem?] at h4 ⊢
    simp only
    rw [← hD _ hlt]; exact h4
 ·rintro ⟨hi, hp, hb⟩
  refine ⟨hi, ?_⟩
  rw [permOps_at h hi, Array.getElem?_eq_getElem hi] at hb
  rw [Array.getElem?_eq_getElem hi]
  simp only [Option.map_some, Option.getD_some, Bool.and_eq_true, Array.all_eq_true', Bool.or_eq_true, Bool.not_eq_true'] at hb ⊢
  refine ⟨?_, fun e he => ?_⟩
  ·have := hb.1
   rw [Array.getD_eq_getD_getElem?] at this ⊢
   rw [hD i hi]; exact this
  ·have h4 := hb.2 { e with on := placeIn e.on l } (by simp only [renOp, Array.mem_map]; exact ⟨e, he, rfl⟩)
   rcases h4 with h4 | h4
   ·exact .inl h4
   ·right
    have hlt : e.on < ops.size := by
     have href := List.all_eq_true.1 hr ops[i] (by simp)
     simp only [Bool.and_eq_true] at href
     have := List.all_eq_true.1 href.1 e (by simpa using he)
     simpa [Nat.blt_eq] using this
    rw [Array.getD_eq_getD_getElem?] at h4 ⊢
    rw [hD _ hlt]; exact h4
theorem wpAny_ren (h : isPerm ops.size l = true) (hr : refsOk ops = true) : ∀ (fuel : Nat) (D D' : Array Bool) (a : Act) (w : World), D.size = ops.size → D'.size = ops.size → (∀ i, i < ops.size → D[i]? = D'[placeIn i l]?) →
  wpAny P .any (permOps l ops) Q fuel D' a w → wpAny P .any ops Q fuel D a w := by
 obtain ⟨h1, h2, h3⟩ := isPerm_spec h
 have nil : ∀ {D D' : Array Bool}, D.size = ops.size → D'.size = ops.size → (∀ i, i < ops.size → D[i]? = D'[placeIn i l]?) → (Region.ready .any ops D = [] ↔ Region.ready .any (permOps l ops) D' = []) := by
  intro D D' hs hs' hD
  constructor
  ·intro hn
   cases hq : Region.ready .any (permOps l ops) D' with
   | nil => rfl
   | cons p r =>
    exfalso
    have hp : p ∈ Region.ready .any (permOps l ops) D' := by rw [hq]; simp
    have hpl : p < ops.size := by
     have := hp
     unfold Region.ready at this
     rw [List.mem_filter, permOps_size h] at this
     simpa using this.1
    have hl : l[p]? = some (l[p]'(by omega)) := List.getElem?_eq_getElem (by omega)
    obtain ⟨k1, k2⟩ := h3 p _ hl
    have := (ready_ren h hr hs hs' hD (l[p]'(by omega))).2 ⟨k1, by rw [k2]; exact hp⟩
    rw [hn] at this
    simp at this
  ·intro hn
   cases hq : Region.ready .any ops D with
   | nil => rfl
   | cons i r =>
    exfalso
    have := ((ready_ren h hr hs hs' hD i).1 (by rw [hq]; simp)).2
    rw [hn] at this
    simp at this
 intro fuel
 induction fuel with
 | zero =>
  intro D D' a w hs hs' hD hw
  exact ⟨(nil hs hs' hD).2 hw.1, hw.2⟩
 | succ fuel ih =>
  intro D D' a w hs hs' hD hw
  refine ⟨fun hn => hw.1 ((nil hs hs' hD).1 hn), fun i hi => ?_⟩
  obtain ⟨hlt, hp⟩ := (ready_ren h hr hs hs' hD i).1 hi
  refine wpOp_ren h hr hlt (fun a' w' hk => ih _ (D'.setIfInBounds (placeIn i l) true) a' w' (by simp [hs]) (by simp [hs']) (fun j hj => ?_) hk) (hw.2 _ hp)
  have hpj : placeIn j l < ops.size := by have := (List.getElem?_eq_some_iff.1 (h2 j hj)).1; omega
  by_cases e : i = j
  ·subst e
   rw [Array.getElem?_setIfInBounds_self_of_lt (by omega), Array.getElem?_setIfInBounds_self_of_lt (by omega)]
  ·have e2 : placeIn i l ≠ placeIn j l := fun e2 => by
    have a1 := h2 i hlt
    rw [e2, h2 j hj] at a1
    injection a1 with a1
    exact e a1.symm
   rw [Array.getElem?_setIfInBounds_ne e, Array.getElem?_setIfInBounds_ne e2]
   exact hD j hj
end
end AM
end Go.Proofs.YtemcmblcogljkaaGreatDoor

namespace Go.Proofs.YtemcmblcogljkaaGreatDoor
namespace AM
open Go
section
variable {P : Program} {pr : Nat → Prop} {w0 : World} {ρ ρ' ρ1 : Rho} {H H' H1 G G' : AH} {w w' ws : World} {call : Callee}
theorem Rel.skip (hr : Rel pr w0 ρ H w) (sz : Nat) (cells : List Value) : Rel pr w0 ρ (H.new sz cells) w ∧ Ext ρ H w ρ (H.new sz cells) w := by
 have hrow : ∀ g, g < H.next → (H.new sz cells).rows.get g = H.rows.get g := fun g hg => Tr.get_put_other _ _ (by omega)
 have hfam : ∀ g, g < H.next → (H.new sz cells).fams.get g = H.fams.get g := fun g hg => Tr.get_put_other _ _ (by omega)
 have hext : Ext ρ H w ρ (H.new sz cells) w :=
  {sub := fun _ _ h => h
   new := fun h c s h1 h2 => by rw [h2] at h1; cases h1
   newr := fun h x r h1 h2 => by rw [h2] at h1; cases h1
   next := Nat.le_succ _
   rows := hrow
   ro := fun q f hf hq => ⟨f, (hfam q hq).trans hf, rfl⟩
   afr := fun q hq _ => hfam q hq
   size := Nat.le_refl _
   blk := fun c a e1 f1 hc => ⟨a, f1, hc, rfl⟩
   frm := fun c hc _ => rfl }
 refine ⟨⟨fun h x hx => Nat.lt_succ_of_lt (hr.lt h x hx), ?_, ?_, ?_, hr.old, hr.prlt, hr.low, hr.os, hr.tape, hr.output⟩, hext⟩
 ·intro h c s hx
  obtain ⟨r, f, a, e1, f1, h1, h2, h3, h4, h5, h6, h7, h8, h9, h10⟩ := hr.row h c s hx
  exact ⟨r, f, a, e1, f1, (hrow h (hr.lt h _ hx)).trans h1, (hfam _ h9).trans h2, h3, h4, h5, h6, h7, Nat.lt_succ_of_lt h8, Nat.lt_succ_of_lt h9, h10⟩
 ·intro h c s i v hx hl
  obtain ⟨r, f, st, l1, l2, l3, l4, l5, l6⟩ := load_some hl
  rw [hrow h (hr.lt h _ hx)] at l1
  obtain ⟨r0, f0, a, e1, f1, h1, h2, h3, h4, h5, h6, h7, h8, h9, h10⟩ := hr.row h c s hx
  rw [l1] at h1; injection h1 with h1; subst h1
  rw [hfam _ h9] at l2
  obtain ⟨v', k1, k2⟩ := hr.cell h c s i v hx (load_of l1 l2 l3 l4 l5 l6)
  exact ⟨v', k1, hext.vr hr.lt k2⟩
 ·intro g1 g2 c s1 s2 r1 r2 m1 m2 m3 m4
  rw [hrow _ (hr.lt _ _ m1)] at m3
  rw [hrow _ (hr.lt _ _ m2)] at m4
  rcases hr.apart g1 g2 c s1 s2 r1 r2 m1 m2 m3 m4 with h8 | ⟨⟨f1, n1, n2⟩, f2, n3, n4⟩
  ·exact .inl h8
  ·obtain ⟨_, r1', k1, k2, _⟩ := hr.base g1 _ m1
   rw [m3] at k1; injection k1 with k1; subst k1
   obtain ⟨_, r2', k3, k4, _⟩ := hr.base g2 _ m2
   rw [m4] at k3; injection k3 with k3; subst k3
   exact .inr ⟨⟨f1, (hfam _ k2).trans n1, n2⟩, f2, (hfam _ k4).trans n3, n4⟩
structure Waits (ρ : Rho) (H : AH) (h sz : Nat) (cells : List Value) : Prop where
 lt : h < H.next
 no : ρ h = none
 row : H.rows.get h = some ⟨h, 0, cells.length, sz⟩
 fam : H.fams.get h = some ⟨false, h, Tr.leaf.putAll 0 (cells.map fun v => (v, h))⟩
 apart : ∀ g x r, ρ g = some x → H.rows.get g = some r → r.root ≠ h
theorem Waits.ext {h sz : Nat} {cells : List Value} (hw : Waits ρ H h sz cells) (hr : Rel pr w0 ρ H w) (hx : Ext ρ H w ρ' H' w') : Waits ρ' H' h sz cells := by
 refine ⟨Nat.lt_of_lt_of_le hw.lt hx.next, ?_, (hx.rows h hw.lt).trans hw.row, (hx.afr h hw.lt hw.apart).trans hw.fam, ?_⟩
 ·cases hh : ρ' h with
  | none => rfl
  | some x =>
   obtain ⟨c, s⟩ := x
   have := (hx.new h c s hh hw.no).1
   have := hw.lt
   omega
 ·intro g x r h1 h2 e
  cases hg : ρ g with
  | none =>
   rcases hx.newr g x r h1 hg h2 with b | ⟨g', y, r0, e1, e2, e3⟩
   ·have := hw.lt; omega
   ·exact hw.apart g' y r0 e1 e2 (e3.trans e)
  | some y =>
   have e1 := hx.sub g y hg
   rw [hx.rows g (hr.lt g y hg)] at h2
   exact hw.apart g y r hg h2 e
theorem Waits.born (hr : Rel pr w0 ρ H w) (sz : Nat) (cells : List Value) : Waits ρ (H.new sz cells) H.next sz cells := by
 refine ⟨Nat.lt_succ_self _, ?_, Tr.get_put_same _ _ _, Tr.get_put_same _ _ _, fun g x r h1 h2 e => ?_⟩
 ·cases hh : ρ H.next with
  | none => rfl
  | some x => have := hr.lt _ _ hh; omega
 ·have hlt := hr.lt g x h1
  have : (H.new sz cells).rows.get g = H.rows.get g := Tr.get_put_other _ _ (by omega)
  rw [this] at h2
  obtain ⟨_, r', k1, k2, _⟩ := hr.base g x h1
  rw [h2] at k1; injection k1 with k1; subst k1
  omega
theorem Rel.adopt (hr : Rel pr w0 ρ H w) {h0 sz : Nat} {cells cells' : List Value} (hwt : Waits ρ H h0 sz cells) (hv : VRs ρ H w cells cells') {arr : Array Value} {e : TypeId} {fr : Nat × Nat} (hp : Pushed w w' (.cells arr e fr))
  (harr : ∀ (j : Nat) (u : Value), cells'[j]? = some u → arr[j]? = some u) (hfr : ∀ j, j < arr.size → ¬ (fr.1 ≤ j ∧ j < fr.2)) :
  (∀ v v', VR ρ H w v v' → VR (upR ρ h0 (w.heap.size, 0)) H w' v v') ∧ Rel pr w0 (upR ρ h0 (w.heap.size, 0)) H w' := by
 have hlen : cells.length ≤ arr.size := by
  rcases Nat.lt_or_ge arr.size cells.length with h | h
  ·exfalso
   have h1 : arr.size < cells'.length := by rw [← hv.1]; exact h
   have h2 := harr arr.size _ (List.getElem?_eq_getElem h1)
   rw [Array.getElem?_eq_none (Nat.le_refl _)] at h2
   cases h2
  ·exact h
 have hsub : ∀ h x, ρ h = some x → upR ρ h0 (w.heap.size, 0) h = some x := fun h x hx => by
  rw [upR_other _ _ (fun e => by rw [e, hwt.no] at hx; cases hx)]; exact hx
 have hroom : ∀ c off n, Room w c off n → Room w' c off n := fun c off n ⟨a, e, f, h1, h2⟩ => ⟨a, e, f, (hp.other c (Array.getElem?_eq_some_iff.1 h1).1).trans h1, h2⟩
 have hvr : ∀ v v', VR ρ H w v v' → VR (upR ρ h0 (w.heap.size, 0)) H w' v v' := fun v v' h => h.mono hsub (fun _ _ _ _ h => h) hroom
 refine ⟨hvr, ?_⟩
 constructor
 ·intro h x hx
  by_cases eh : h = h0
  ·subst eh; exact hwt.lt
  ·rw [upR_other _ _ eh] at hx; exact hr.lt h x hx
 ·intro h c s hx
  by_cases eh : h = h0
  ·subst eh
   rw [upR_same] at hx
   simp only [Option.some.injEq, Prod.mk.injEq] at hx
   obtain ⟨rfl, rfl⟩ := hx
   refine ⟨_, _, arr, e, fr, hwt.row, hwt.fam, hp.at_, Nat.le_refl _, Nat.zero_le _, hlen, Nat.le_refl _, hwt.lt, hwt.lt, fun _ => ⟨hfr, fun hpr => ?_⟩⟩
   have h1 := hr.prlt _ hpr
   have h2 := hr.low
   omega
  ·rw [upR_other _ _ eh] at hx
   obtain ⟨r, f, a, e1, f1, h1, h2, h3, h4⟩ := hr.row h c s hx
   exact ⟨r, f, a, e1, f1, h1, h2, (hp.other c (Array.getElem?_eq_some_iff.1 h3).1).trans h3, h4⟩
 ·intro h c s i v hx hl
  obtain ⟨r, f, st, l1, l2, l3, l4, l5, l6⟩ := load_some hl
  by_cases eh : h = h0
  ·subst eh
   rw [upR_same] at hx
   simp only [Option.some.injEq, Prod.mk.injEq] at hx
   obtain ⟨rfl, rfl⟩ := hx
   rw [hwt.row] at l1
   injection l1 with l1
   subst l1
   rw [hwt.fam] at l2
   injection l2 with l2
   subst l2
   simp only [Tr.get_putAll, List.length_map, Nat.zero_add, Nat.sub_zero, Nat.zero_le, true_and, List.getElem?_map] at l3
   rw [if_pos l5] at l3
   cases hc : cells[i]? with
   | none => rw [hc] at l3; cases l3
   | some u =>
    rw [hc] at l3
    simp only [Option.map_some, Option.some.injEq, Prod.mk.injEq] at l3
    obtain ⟨rfl, _⟩ := l3
    obtain ⟨u', k1, k2⟩ := hv.get hc
    refine ⟨u', ?_, hvr _ _ k2⟩
    rw [cell_of_heap hp.at_]
    exact harr i u' k1
  ·rw [upR_other _ _ eh] at hx
   obtain ⟨v', k1, k2⟩ := hr.cell h c s i v hx hl
   refine ⟨v', ?_, hvr _ _ k2⟩
   rw [← k1]
   simp only [World.cell?]
   rw [hp.other c (hr.blk_lt hx)]
 ·intro g1 g2 c s1 s2 r1 r2 m1 m2 m3 m4
  by_cases e1 : g1 = h0
  ·by_cases e2 : g2 = h0
   ·subst e1; subst e2
    rw [m3] at m4; injection m4 with m4; subst m4
    rw [m1] at m2
    simp only [Option.some.injEq, Prod.mk.injEq] at m2
    exact .inl ⟨rfl, m2.2⟩
   ·subst e1
    rw [upR_same] at m1
    rw [upR_other _ _ e2] at m2
    have := hr.blk_lt m2
    simp only [Option.some.injEq, Prod.mk.injEq] at m1
    omega
  ·rw [upR_other _ _ e1] at m1
   by_cases e2 : g2 = h0
   ·subst e2
    rw [upR_same] at m2
    have := hr.blk_lt m1
    simp only [Option.some.injEq, Prod.mk.injEq] at m2
    omega
   ·rw [upR_other _ _ e2] at m2
    exact hr.apart g1 g2 c s1 s2 r1 r2 m1 m2 m3 m4
 ·intro d hd
  have h1 := hr.prlt d hd
  rw [hp.other d (Nat.lt_of_lt_of_le h1 hr.low)]
  exact hr.old d hd
 ·exact hr.prlt
 ·rw [hp.size]; have := hr.low; omega
 ·rw [hp.os]; exact hr.os
 ·rw [hp.tape]; exact hr.tape
 ·rw [hp.output]; exact hr.output
theorem Ext.adopt {ρ0 : Rho} {H0 : AH} (hx : Ext ρ0 H0 ws ρ H w) {h0 sz : Nat} {cells : List Value} (hwt : Waits ρ H h0 sz cells) (hge : H0.next ≤ h0) {o : Obj} (hp : Pushed w w' o) : Ext ρ0 H0 ws (upR ρ h0 (w.heap.size, 0)) H w' where
 sub h x h1 := by
  have h2 := hx.sub h x h1
  rw [upR_other _ _ (fun e => by rw [e, hwt.no] at h2; cases h2)]; exact h2
 new h c s h1 h2 := by
  by_cases eh : h = h0
  ·subst eh
   rw [upR_same] at h1
   simp only [Option.some.injEq, Prod.mk.injEq] at h1
   exact ⟨hge, .inl (by have := hx.size; omega)⟩
  ·rw [upR_other _ _ eh] at h1
   exact hx.new h c s h1 h2
 newr h x r h1 h2 h3 := by
  by_cases eh : h = h0
  ·subst eh
   rw [hwt.row] at h3
   injection h3 with h3
   subst h3
   exact .inl hge
  ·rw [upR_other _ _ eh] at h1
   exact hx.newr h x r h1 h2 h3
 next := hx.next
 rows := hx.rows
 ro := hx.ro
 afr := hx.afr
 size := by rw [hp.size]; have := hx.size; omega
 blk c arr e fr hc := by
  obtain ⟨a, f, h1, h2⟩ := hx.blk c arr e fr hc
  exact ⟨a, f, (hp.other c (Array.getElem?_eq_some_iff.1 h1).1).trans h1, h2⟩
 frm c hc hn := by
  rw [hp.other c (Nat.lt_of_lt_of_le hc hx.size)]
  exact hx.frm c hc hn
end
end AM
end Go.Proofs.YtemcmblcogljkaaGreatDoor

