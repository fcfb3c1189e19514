/- The abstract machine: its operations beside the model's, fourth part: append, copy, make, conversions. The abstract machine: its operations beside the model's, fifth part, and all of them together. The abstract machine: every operation of its own stands for the model's. -/
import Derived.Test.YtemcmblcogljkaaGreatDoorSb
import Derived.Laws.BitsLemmas
import Derived.Laws.BytesString
set_option linter.all false
set_option linter.unusedSimpArgs false
set_option linter.unusedVariables false
namespace Go.Proofs.YtemcmblcogljkaaGreatDoor
namespace AM
open Go
section
variable {P : Program} {pr : Nat → Prop} {w0 : World} {ρ ρ' : Rho} {H H' : AH} {w w' : World}
theorem storeCells_upd {c : Nat} {e : TypeId} {fr : Nat × Nat} (o : Nat) : ∀ (l : List Value) (k : Nat) (arr : Array Value) (w : World), w.heap[c]? = some (Obj.cells arr e fr) → (∀ j, j < arr.size → ¬ (fr.1 ≤ j ∧ j < fr.2)) → o + k + l.length ≤ arr.size → l.all oneCell = true →
  ∃ w' arr', (storeCells ⟨c, o, none⟩ l k).run P w = .ok () w' ∧ Upd w w' c ∧ w'.drawn = w.drawn ∧ w'.heap[c]? = some (Obj.cells arr' e fr) ∧ arr'.size = arr.size ∧ ∀ j, arr'[j]? = if o + k ≤ j ∧ j < o + k + l.length then l[j - (o + k)]? else arr[j]?
 | [], k, arr, w, hc, hf, hl, ho => ⟨w, arr, rfl, Upd.refl _ _, rfl, hc, rfl, fun j => by rw [if_neg (by simp)]⟩
 | v :: l, k, arr, w, hc, hf, hl, ho => by
  simp only [List.length_cons] at hl
  simp only [List.all_cons, Bool.and_eq_true] at ho
  have h1 : w.cell? ⟨c, o + k, none⟩ = some arr[o + k] := by rw [cell_of_heap hc]; exact Array.getElem?_eq_getElem (by omega)
  have h2 := frozen_of_heap hc (o + k) (hf _ (by omega))
  have h3 := setCell_heap hc (o + k) v
  obtain ⟨w', arr', k1, k2, kd, k3, k4, k5⟩ := storeCells_upd o l (k + 1) _ _ h3 (by simpa using hf) (by simp; omega) ho.2
  refine ⟨w', arr', ?_, (setCell_upd w c (o + k) v).trans k2, kd, k3, by simpa using k4, fun j => ?_⟩
  ·simp only [storeCells, Sem.run_bind, add_plain]
   rw [run_store' ho.1 h1 h2]
   exact k1
  ·rw [k5 j, List.length_cons]
   by_cases hj : o + (k + 1) ≤ j ∧ j < o + (k + 1) + l.length
   ·rw [if_pos hj, if_pos (by omega), show j - (o + k) = (j - (o + (k + 1))) + 1 by omega]
    rfl
   ·rw [if_neg hj]
    by_cases e : j = o + k
    ·subst e
     rw [if_pos (by omega), Nat.sub_self, List.getElem?_cons_zero]
     have hlt : o + k < arr.size := by omega
     simp [hlt]
    ·rw [if_neg (by omega), Array.getElem?_setIfInBounds_ne (Ne.symm e)]
theorem src_run (hr : Rel pr w0 ρ H w) {sz n : Nat} {x x' : Value} {news : List Value} (hx : VR ρ H w x x') (hn : lenOf' x = some n ∨ ∃ m, lenOf' x = some m ∧ n ≤ m) (h : srcV H sz n x = some news) :
  ∃ l', (∀ w1 : World, w1.heap = w.heap → (Builtin.firstCells sz n x').run P w1 = .ok ⟨l'⟩ w1) ∧ VRs ρ H w news l' := by
 cases hx with
 | slcNil =>
  simp only [srcV, Option.some.injEq] at h
  subst h
  exact ⟨[], fun _ _ => rfl, .nil⟩
 | slc g i len cap c s a' cap' h1 h2 h3 h4 h5 h6 =>
  simp only [srcV] at h
  have hle : n ≤ len := by
   rcases hn with hn | ⟨m, hn, hm⟩ <;> simp only [lenOf', Option.some.injEq] at hn <;> omega
  rcases Nat.eq_zero_or_pos (n * sz) with e | e
  ·rw [e] at h
   simp only [AH.loadN, Option.some.injEq] at h
   subst h
   refine ⟨[], fun _ _ => ?_, .nil⟩
   simp [Builtin.firstCells, loadCells, loadCellsFrom, e]
  ·have hp : 0 < n := by
    rcases Nat.eq_zero_or_pos n with e0 | e0
    ·rw [e0] at e; simp at e
    ·exact e0
   have ha := h5 (by omega)
   subst ha
   obtain ⟨l', k1, k2, _⟩ := run_loadCells (P := P) hr h1 h2 h
   exact ⟨l', fun w1 hw1 => by simpa [Builtin.firstCells] using k1 w1 hw1, k2⟩
 | string s =>
  simp only [srcV, Option.some.injEq] at h
  subst h
  refine ⟨(s.data.toList.take n).map fun b => .int .u8 b.toNat, ?_, ?_⟩
  ·intro w1 _
   simp only [Builtin.firstCells, Sem.run_pure]
   congr 1
   apply Array.ext'
   simp [ByteArray.data_extract]
  ·exact flatL_refl _ (by
    generalize s.data.toList.take n = m
    induction m with
    | nil => rfl
    | cons b m ih => simp [flatL, AM.flat, ih])
 | _ => simp [srcV] at h
theorem lenOf_run {x x' : Value} {n : Nat} (hx : VR ρ H w x x') (h : lenOf' x = some n) : (Builtin.lenOf x').run P w = .ok n w := by
 cases hx <;> simp only [lenOf', Option.some.injEq, reduceCtorEq] at h <;> subst h <;> rfl
theorem growBy_le (need : Nat) (hn : 256 ≤ need) : ∀ (k c : Nat), c ≤ 2 * need → Builtin.growBy need k c ≤ 2 * need
 | 0, c, h => h
 | k + 1, c, h => by
  unfold Builtin.growBy
  split
  ·exact h
  ·exact growBy_le need hn k _ (by omega)
theorem nextcap_le {need old : Nat} (h : old < need) : Builtin.nextslicecap need old ≤ 2 * need := by
 unfold Builtin.nextslicecap
 split
 ·omega
 ·split
  ·omega
  ·exact growBy_le need (by omega) _ _ (by omega)
theorem cap_ge (need old : Nat) (e : TypeId) (t : Nat) : need ≤ (Question.appendCap need old e).cut t := Nat.le_add_right _ _
theorem cap_free (need old : Nat) (e : TypeId) : (Question.appendCap need old e).forced = false := rfl
theorem zeroCells_size (z : Array Value) (n : Nat) : (Builtin.zeroCells z n).size = n * z.size := by simp [Builtin.zeroCells]
theorem append_run (hr : Rel pr w0 ρ H w) {sT xT e ty : TypeId} {d : TypeDesc} {i : TypeInfo} {z : Value} (hs : P.underlying sT = some (.slice e)) (hx : P.underlying xT = some d) (hd : ∀ k, d ≠ .int k)
  (hi : P.info? e = some i) (hz : i.zero = some z) (hzs : z.cells.size = i.size) {s s' x x' v : Value} (hvs : VR ρ H w s s') (hvx : VR ρ H w x x') (h : appendV i.size i.bytes H s x = some (v, H')) :
  ∃ ρ' w' v', (Builtin.append_ #[sT, xT] ty #[s', x']).run P w = .ok v' w' ∧ Ext ρ H w ρ' H' w' ∧ Rel pr w0 ρ' H' w' ∧ VR ρ' H' w' v v' := by
 have hus := fun w => run_underlying hs w
 have hux := fun w => run_underlying hx w
 have hsz : ∀ w : World, (Go.sizeOf e).run P w = .ok i.size w := fun w => by simp [Go.sizeOf, typeInfo, hi]
 have hti : ∀ w : World, (typeInfo e).run P w = .ok i w := fun w => by simp [typeInfo, hi]
 have hzv : ∀ w : World, (zeroValue e).run P w = .ok z w := fun w => by simp [zeroValue, typeInfo, hi, hz]
 have hm : (match d with | .int _ => true | _ => false) = false := by cases d <;> first | exact absurd rfl (hd _) | rfl
 unfold appendV at h
 split at h
 rotate_left
 ·cases h
 rename_i base len cap n hlen
 have hlenr : ∀ w1 : World, (Builtin.lenOf x').run P w1 = .ok n w1 := fun w1 => by
  have := lenOf_run (P := P) hvx hlen
  cases hvx <;> simp only [lenOf', Option.some.injEq, reduceCtorEq] at hlen <;> subst hlen <;> rfl
 split at h
 ·cases h
 rename_i news hnews
 obtain ⟨new, hf, hf2⟩ := src_run (P := P) hr hvx (.inl hlen) hnews
 have hf1 := hf w rfl
 split at h
 ·-- nothing is appended
  rename_i hn0
  have hn0' : n = 0 := Nat.eq_of_beq_eq_true hn0
  subst hn0'
  simp only [Option.some.injEq, Prod.mk.injEq] at h
  obtain ⟨rfl, rfl⟩ := h
  have hnil : new = [] := by
   cases hvx with
   | slcNil => simp only [Builtin.firstCells, Sem.run_pure, Result.ok.injEq, and_true] at hf1; have := congrArg Array.toList hf1; simpa using this.symm
   | slc g i' len' cap' c s'' a' cap'' h1 h2 h3 h4 h5 h6 => simp only [Builtin.firstCells, Nat.zero_mul, loadCells, loadCellsFrom, Sem.run_pure, Result.ok.injEq, and_true] at hf1; have := congrArg Array.toList hf1; simpa using this.symm
   | string s'' => simp only [Builtin.firstCells, Sem.run_pure, Result.ok.injEq, and_true] at hf1; have := congrArg Array.toList hf1; simp at this; exact this.symm ▸ rfl
   | _ => simp [lenOf'] at hlen
  subst hnil
  refine ⟨ρ, w, s', ?_, Ext.refl _ _ _, hr, hvs⟩
  cases hvs with
  | slcNil => simp [Builtin.append_, hus, hux, hsz, hlenr, hf1]
  | slc g i' _ _ c s'' a' cap' h1 h2 h3 h4 h5 h6 =>
   have hle : len ≤ cap' := by omega
   simp [Builtin.append_, hus, hux, hsz, hlenr, hf1, hle, storeCells]
 ·rename_i hn0
  have hnpos : 0 < n := by
   rcases Nat.eq_zero_or_pos n with e0 | e0
   ·subst e0; simp at hn0
   ·exact e0
  split at h
  ·cases h
  rename_i hbs
  simp only [Bool.and_eq_true, Nat.ble_eq, Nat.blt_eq] at hbs
  obtain ⟨⟨⟨⟨hb1, hb2⟩, hb3⟩, hb4⟩, hb5⟩ := hbs
  have hb4' : news.length = n * i.size := Nat.eq_of_beq_eq_true hb4
  have hnl : new.length = n * i.size := by rw [← hf2.1]; exact hb4'
  have honew : new.all oneCell = true := by
   rw [List.all_eq_true] at hb5 ⊢
   intro u hu
   obtain ⟨j, hj, rfl⟩ := List.getElem_of_mem hu
   have hj' : j < news.length := by rw [hf2.1]; exact hj
   rw [(hf2.2 j _ _ (List.getElem?_eq_getElem hj') (List.getElem?_eq_getElem hj)).oneCell]
   exact hb5 _ (List.getElem_mem hj')
  have hbig : ¬ (((len + n : Nat) : Int) > IntKind.i64.max) := by
   have e : IntKind.i64.max = 9223372036854775807 := rfl
   omega
  have hcaps : ∀ old, old < len + n → ¬ (Builtin.nextslicecap (len + n) old * i.bytes > 2 ^ 48) := by
   intro old ho
   have h1 := nextcap_le ho
   have h2 : Builtin.nextslicecap (len + n) old * i.bytes ≤ 2 * (len + n) * i.bytes := Nat.mul_le_mul_right _ h1
   have h3 : 2 * (len + n) * i.bytes = (len + n) * i.bytes * 2 := by rw [Nat.mul_comm 2, Nat.mul_right_comm]
   have e : (2 : Nat) ^ 48 = 281474976710656 := rfl
   omega
  -- the growing arm, by what was there
  have hgrows : ∀ (b : Option Addr) (cap' : Nat) (olds : List Value), s' = .slice b len cap' → cap' < len + n → (∀ w1 : World, w1.heap = w.heap → (Builtin.firstCells i.size len s').run P w1 = .ok ⟨olds⟩ w1) →
    (∀ w1 : World, w1.heap = w.heap → (Builtin.firstCells i.size n x').run P w1 = .ok ⟨new⟩ w1) →
    ∃ m, len + n ≤ m ∧ (Builtin.append_ #[sT, xT] ty #[s', x']).run P w = .ok (.slice (some ⟨w.heap.size, 0, none⟩) (len + n) m)
     (w.drew.alloc (.cells ((⟨olds⟩ : Array Value) ++ ((⟨new⟩ : Array Value) ++ Builtin.zeroCells z.cells (m - (len + n)))) e)) := by
   intro b cap' olds hs' hlt ho hn
   refine ⟨_, cap_ge (len + n) cap' e (w.tape w.drawn (Question.appendCap (len + n) cap' e)), ?_⟩
   subst hs'
   have hno1 : ¬ len + n ≤ cap' := by omega
   have ho1 := ho w.drew rfl
   have hn1 := hn w.drew rfl
   have hcp := hcaps cap' hlt
   have hbig' : ¬ ((9223372036854775807 : Int) < (len : Int) + (n : Int)) := by omega
   simp [Builtin.append_, hus, hux, hsz, hti, hzv, hlenr, hno1, hcp, ho1, hn1, newRow, hbig', cap_free]
  have hpush : ∀ o : Obj, Pushed w (w.drew.alloc o) o := fun o => Pushed.mk' w o (w.drawn + 1)
  cases base with
  | none =>
   simp only at h
   split at h
   ·rename_i hbb
    simp only [Option.some.injEq, Prod.mk.injEq] at h
    obtain ⟨rfl, rfl⟩ := h
    cases hvs
    obtain ⟨m, hm1, hm2⟩ := hgrows none 0 [] rfl (by omega) (fun _ _ => rfl) hf
    simp only [Nat.zero_add] at hm1 hm2
    obtain ⟨g1, g2⟩ := hr.new i.size hf2 (hpush (.cells ((#[] : Array Value) ++ ((⟨new⟩ : Array Value) ++ Builtin.zeroCells z.cells (m - n))) e))
     (fun j u hu => by
      have hj := (List.getElem?_eq_some_iff.1 hu).1
      rw [Array.empty_append, Array.getElem?_append_left (by simpa using hj)]
      simpa using hu) (fun j _ hj => by simp at hj)
    refine ⟨_, _, _, hm2, g1, g2, ?_⟩
    refine slice_new (sz := i.size) (hpush _).at_ ?_ (Nat.le_refl _) hm1
    simp only [Array.size_append, zeroCells_size, hzs, hnl, List.size_toArray, List.length_nil, Nat.zero_add]
    rw [← Nat.add_mul]
    exact Nat.mul_le_mul_right _ (by omega)
   ·cases h
  | some a =>
   obtain ⟨g, i0, sp⟩ := a
   cases sp with
   | some _ => cases h
   | none =>
    simp only at h
    split at h
    ·cases h
    rename_i r hrow
    split at h
    ·cases h
    rename_i hrsz
    have hrsz' : r.sz = i.size := Nat.eq_of_beq_eq_true hrsz
    split at h
    ·cases h
    rename_i H1 hg
    simp only [Option.some.injEq, Prod.mk.injEq] at h
    obtain ⟨rfl, rfl⟩ := h
    cases hvs with
    | slc _ _ _ _ c s a' cap' h1 h2 h3 h4 h5 h6 =>
     obtain ⟨r0, f0, arr, e0, fr, b1, b2, b3, b4, b5, b6, b7, b8, b9, b10⟩ := hr.row g c s h1
     rw [hrow] at b1; injection b1 with b1; subst b1
     obtain ⟨r1, f1, l1, c1, c2, c3, c4, c5, c6, c7, c8⟩ := grow_some hg
     rw [hrow] at c1; injection c1 with c1; subst c1
     rw [b2] at c2; injection c2 with c2; subst c2
     obtain ⟨d1, d2⟩ := b10 c4
     have hroom : Room w c (i0 - s) (cap' * i.size) := by
      rcases h6 r hrow with e1 | e1
      ·omega
      ·rw [← hrsz']; exact e1
     have hrow' : H1.rows.get H.next = some ⟨r.root, i0, i0 + len * i.size + news.length, r.sz⟩ := by rw [c8]; exact Tr.get_put_same _ _ _
     by_cases hfit : len + n ≤ cap'
     ·-- in its place
      have ha := h5 (by omega)
      subst ha
      obtain ⟨arr2, e2, fr2, q1, q2⟩ := hroom
      rw [b3] at q1
      injection q1 with q1
      injection q1 with x1 x2 x3
      subst x1; subst x2; subst x3
      have hmul : (len + n) * i.size ≤ cap' * i.size := Nat.mul_le_mul_right _ hfit
      rw [Nat.add_mul] at hmul
      obtain ⟨w', arr1, k1, k2, kd, k3, k4, k5⟩ := storeCells_upd (P := P) (i0 - s + len * i.size) new 0 arr w b3 d1 (by omega) honew
      have hgw := hr.grow h1 hg hf2 c s arr1 e0 fr k3 h2 (by omega) (fun j hj => d1 j (by omega))
       (.inl ⟨rfl, rfl, k2, arr, b3, k4.symm, fun j hj => by rw [k5 j, if_neg (by omega)]⟩)
       (fun j hj => by rw [k5, if_neg (by omega), cell_of_heap b3])
       (fun j u hu => by
        have hj := (List.getElem?_eq_some_iff.1 hu).1
        rw [k5, if_pos (by omega)]
        rw [show i0 + len * i.size + j - s - (i0 - s + len * i.size + 0) = j by omega]
        exact hu)
      refine ⟨_, w', .slice (some ⟨c, i0 - s, none⟩) (len + n) cap', ?_, hgw.1, hgw.2, ?_⟩
      ·simp [Builtin.append_, hus, hux, hsz, hlenr, hf1, hfit, add_plain, k1]
      ·refine .slc H.next i0 _ _ c s _ _ (upR_same _ _ _) h2 (Nat.le_refl _) hfit (fun _ => rfl) fun r2 hr2 => .inr ?_
       rw [hrow'] at hr2; injection hr2 with hr2; subst hr2
       refine ⟨arr1, e0, fr, k3, ?_⟩
       simp only [hrsz']
       omega
     ·-- in a new one
      have hold : ∃ olds, (∀ w1 : World, w1.heap = w.heap → (Builtin.firstCells i.size len (.slice (some a') len cap')).run P w1 = .ok ⟨olds⟩ w1) ∧ olds.length = len * i.size ∧ ∀ j, j < len * i.size → olds[j]? = w.cell? ⟨c, i0 + j - s, none⟩ := by
       rcases Nat.eq_zero_or_pos (len * i.size) with e1 | e1
       ·exact ⟨[], fun _ _ => by simp [Builtin.firstCells, e1, loadCells, loadCellsFrom], by simp [e1], fun j hj => by omega⟩
       ·have hlp : 0 < len := by
         rcases Nat.eq_zero_or_pos len with e2 | e2
         ·rw [e2] at e1; simp at e1
         ·exact e2
        have ha := h5 (by omega)
        subst ha
        obtain ⟨l', k1, k2, k3⟩ := run_loadCells (P := P) hr h1 h2 c3
        refine ⟨l', fun w1 hw1 => by simpa [Builtin.firstCells] using k1 w1 hw1, ?_, k3⟩
        rw [← k2.1]
        exact (loadN_get c3).1
      obtain ⟨olds, ho1, ho2, ho3⟩ := hold
      obtain ⟨m, hm1, hm2⟩ := hgrows (some a') cap' olds rfl (by omega) ho1 hf
      have hp := hpush (.cells ((⟨olds⟩ : Array Value) ++ ((⟨new⟩ : Array Value) ++ Builtin.zeroCells z.cells (m - (len + n)))) e)
      have hsize : ((⟨olds⟩ : Array Value) ++ ((⟨new⟩ : Array Value) ++ Builtin.zeroCells z.cells (m - (len + n)))).size = m * i.size := by
       simp only [Array.size_append, zeroCells_size, hzs, List.size_toArray, ho2, hnl]
       rw [← Nat.add_mul, ← Nat.add_mul]
       congr 1
       omega
      have hml : (len + n) * i.size ≤ m * i.size := Nat.mul_le_mul_right _ hm1
      rw [Nat.add_mul] at hml
      have hgw := hr.grow h1 hg hf2 w.heap.size i0 _ e (0, 0) hp.at_ (Nat.le_refl _) (by rw [hsize]; omega) (fun j _ hj => by simp at hj) (.inr ⟨rfl, rfl, hp⟩)
       (fun j hj => by
        rw [show i0 + j - i0 = j by omega, ← ho3 j hj]
        rw [Array.getElem?_append_left (by simp [ho2]; exact hj)]
        simp)
       (fun j u hu => by
        have hj := (List.getElem?_eq_some_iff.1 hu).1
        rw [show i0 + len * i.size + j - i0 = len * i.size + j by omega]
        rw [Array.getElem?_append_right (by simp [ho2]), Array.getElem?_append_left (by simp [ho2]; omega)]
        simp [ho2, hu])
      refine ⟨_, _, _, hm2, hgw.1, hgw.2, ?_⟩
      refine .slc H.next i0 _ _ w.heap.size i0 _ _ (upR_same _ _ _) (Nat.le_refl _) (Nat.le_refl _) hm1 (fun _ => by simp) fun r2 hr2 => .inr ?_
      rw [hrow'] at hr2; injection hr2 with hr2; subst hr2
      refine ⟨_, e, (0, 0), hp.at_, ?_⟩
      rw [hsize]
      simp [hrsz']
end
end AM
end Go.Proofs.YtemcmblcogljkaaGreatDoor

namespace Go.Proofs.YtemcmblcogljkaaGreatDoor
namespace AM
open Go
section
variable {P : Program} {pr : Nat → Prop} {w0 : World} {ρ ρ' : Rho} {H H' : AH} {w w' : World}
theorem copy_run (hr : Rel pr w0 ρ H w) {dT xT e ty : TypeId} {i : TypeInfo} (hs : P.underlying dT = some (.slice e)) (hi : P.info? e = some i) {d d' x x' v : Value} (hvd : VR ρ H w d d') (hvx : VR ρ H w x x') (h : copyV i.size H d x = some (v, H')) :
  ∃ w' v', (Builtin.copy_ #[dT, xT] ty #[d', x']).run P w = .ok v' w' ∧ Ext ρ H w ρ H' w' ∧ Rel pr w0 ρ H' w' ∧ VR ρ H' w' v v' := by
 have hus := fun w => run_underlying hs w
 have hsz : ∀ w : World, (Go.sizeOf e).run P w = .ok i.size w := fun w => by simp [Go.sizeOf, typeInfo, hi]
 unfold copyV at h
 split at h
 rotate_left
 ·cases h
 rename_i base len cap n hlen
 have hlenr := lenOf_run (P := P) hvx hlen
 split at h
 ·cases h
 rename_i news hnews
 obtain ⟨new, hf, hf2⟩ := src_run (P := P) hr hvx (.inr ⟨n, hlen, Nat.min_le_left _ _⟩) hnews
 have hf1 := hf w rfl
 split at h
 ·simp only [Option.some.injEq, Prod.mk.injEq] at h
  obtain ⟨rfl, rfl⟩ := h
  cases hvd
  refine ⟨w, .int .i64 (Nat.min n 0 : Nat), ?_, Ext.refl _ _ _, hr, .int _ _⟩
  simp only [Nat.min_zero] at hf1
  simp [Builtin.copy_, hus, hsz, hlenr, hf1, goInt]
 ·rename_i g i0
  split at h
  ·cases h
  ·rename_i H1 hst
   simp only [Option.some.injEq, Prod.mk.injEq] at h
   obtain ⟨rfl, rfl⟩ := h
   cases hvd with
   | slc _ _ _ _ c s a' cap' h1 h2 h3 h4 h5 h6 =>
    rcases Nat.eq_zero_or_pos cap' with e0 | e0
    ·have hl0 : len = 0 := by omega
     subst hl0
     have hnil : news = [] := by
      have : Nat.min n 0 = 0 := Nat.min_zero n
      rw [this] at hnews
      cases x with
      | slice a l c =>
       cases a with
       | none => simp only [srcV, Option.some.injEq] at hnews; exact hnews.symm
       | some a => obtain ⟨b, o, sp⟩ := a; cases sp <;> simp only [srcV, Nat.zero_mul, AH.loadN, Option.some.injEq, reduceCtorEq] at hnews; exact hnews.symm
      | string s => simp only [srcV, List.take_zero, List.map_nil, Option.some.injEq] at hnews; exact hnews.symm
      | _ => simp [srcV] at hnews
     subst hnil
     have hnew := hf2.nil_inv
     subst hnew
     simp only [AH.storeN, Option.some.injEq] at hst
     subst hst
     refine ⟨w, .int .i64 (Nat.min n 0 : Nat), ?_, Ext.refl _ _ _, hr, .int _ _⟩
     simp only [Nat.min_zero] at hf1
     simp [Builtin.copy_, hus, hsz, hlenr, hf1, goInt, storeCells]
    ·have ha := h5 e0
     subst ha
     obtain ⟨w', k1, k2, k3⟩ := run_storeCells (P := P) h1 news new i0 0 H H1 w hr h2 (by simpa using hst) hf2
     refine ⟨w', _, ?_, k2, k3, .int _ _⟩
     simp [Builtin.copy_, hus, hsz, hlenr, hf1, goInt, k1]
 ·cases h
theorem make_run (hr : Rel pr w0 ρ H w) {t e : TypeId} {i : TypeInfo} {z : Array Value} (hs : P.underlying t = some (.slice e)) (hi : P.info? e = some i) (hz : zeroCells' P e = some z) (hzs : z.size = i.size) {l l' c c' v : Value} (hl : VR ρ H w l l') (hc : VR ρ H w c c')
  (h : makeV i.size i.bytes z.toList H l c = some (v, H')) : ∃ ρ' w' v', (Instr.makeSlice t l' c').run P w = .ok v' w' ∧ Ext ρ H w ρ' H' w' ∧ Rel pr w0 ρ' H' w' ∧ VR ρ' H' w' v v' := by
 have hus := fun w => run_underlying hs w
 have hsz : ∀ w : World, (Go.sizeOf e).run P w = .ok i.size w := fun w => by simp [Go.sizeOf, typeInfo, hi]
 have hti : ∀ w : World, (typeInfo e).run P w = .ok i w := fun w => by simp [typeInfo, hi]
 obtain ⟨zv, hz1, hz2, hz3⟩ := zeroCells_run hz w
 unfold makeV at h
 split at h
 ·rename_i n m
  cases hl; cases hc
  split at h
  ·rename_i hb
   simp only [Bool.and_eq_true, decide_eq_true_eq, Nat.ble_eq] at hb
   obtain ⟨⟨⟨b1, b2⟩, b3⟩, b4⟩ := hb
   simp only [Option.some.injEq, Prod.mk.injEq] at h
   obtain ⟨rfl, rfl⟩ := h
   have hw1 : IntKind.i64.wrap n = n := by rw [IntKind.wrap_i64]; omega
   have hw2 : IntKind.i64.wrap m = m := by rw [IntKind.wrap_i64]; omega
   have hzz : VRs ρ H w z.toList z.toList := by rw [← hz2]; exact flat_cells hz3
   have hbytes : (i.bytes : Int) * m ≤ 281474976710656 := by
    have e1 : ((m.toNat * i.bytes : Nat) : Int) ≤ ((140737488355328 : Nat) : Int) := Int.ofNat_le.2 b3
    have e2 : ((m.toNat * i.bytes : Nat) : Int) = (i.bytes : Int) * m := by
     rw [Int.natCast_mul, Int.toNat_of_nonneg (by omega), Int.mul_comm]
    omega
   obtain ⟨g1, g2⟩ := newRow_good hr i.size (zeros_vrs hzz m.toNat) e
   refine ⟨_, { w with heap := w.heap.push (.cells ⟨(List.replicate m.toNat z.toList).flatten⟩ e) }, .slice (some ⟨w.heap.size, 0, none⟩) n.toNat m.toNat, ?_, g1, g2, ?_⟩
   ·have c1 : ¬ (m < 0) := by omega
    have c2 : ¬ (281474976710656 < (i.bytes : Int) * m) := by omega
    have c3 : ¬ (n < 0) := by omega
    have c4 : ¬ (m < n) := by omega
    unfold Instr.makeSlice
    simp only [Sem.run_bind, hus, Result.andThen_ok, asInt, asIntOf, Sem.run_pure, hti, hw1, hw2]
    have hcond : ((decide (m < 0) || decide ((i.bytes : Int) * m > 2 ^ 48)) || decide (n < 0) || decide (n > m)) = false := by
     simp [c1, c3]
     omega
    simp only [Bool.or_eq_true, decide_eq_true_eq] at hcond ⊢
    rw [if_neg (by
     rintro ((h | h) | h)
     ·rcases h with h | h <;> omega
     ·omega
     ·omega)]
    simp only [Result.andThen_ok, run_askRoom, Sem.run_bind, hsz]
    have hze := zeros_eq z m.toNat
    by_cases e0 : m.toNat * i.size = 0
    ·have e1 : m.toNat * z.size = 0 := by rw [hzs]; exact e0
     rw [e1] at hze
     have hr0 : Array.range 0 = #[] := rfl
     rw [hr0] at hze
     simp only [Array.map_empty] at hze
     simp only [e0, if_true, Sem.run_bind, Sem.run_pure, Result.andThen_ok, hr0, Array.map_empty, newRow, run_newObj]
     rw [hze]
    ·simp only [e0, if_false, Sem.run_bind, hz1, Sem.run_pure, Result.andThen_ok, hz2, newRow, run_newObj]
     rw [← hzs, hze]
   ·refine slice_new (sz := i.size) (Pushed.mk' w _ w.drawn).at_ ?_ (by omega) (Nat.le_refl _)
    simp [hzs]
  ·cases h
 ·cases h
theorem bytesV_flat (s : ByteArray) : flatL (bytesV s) = true := by
 unfold bytesV
 generalize s.data.toList = m
 induction m with
 | nil => rfl
 | cons b m ih => simp [flatL, AM.flat, ih]
theorem toBytes_run (hr : Rel pr w0 ρ H w) {src dst e : TypeId} (hs : P.underlying src = some .string) (hd : P.underlying dst = some (.slice e)) (he : P.underlying e = some (.int .u8)) {x x' v : Value} (hx : VR ρ H w x x') (h : toBytes H x = some (v, H')) :
  ∃ ρ' w' v', (convert src dst x').run P w = .ok v' w' ∧ Ext ρ H w ρ' H' w' ∧ Rel pr w0 ρ' H' w' ∧ VR ρ' H' w' v v' := by
 unfold toBytes at h
 split at h
 ·rename_i s
  cases hx
  simp only [Option.some.injEq, Prod.mk.injEq] at h
  obtain ⟨rfl, rfl⟩ := h
  -- the capacity that is drawn
  have hcap := cap_ge s.size 0 e (w.tape w.drawn (Question.appendCap s.size 0 e))
  generalize hm : (Question.appendCap s.size 0 e).cut (w.tape w.drawn (Question.appendCap s.size 0 e)) = m at hcap
  let arr : Array Value := (s.data.map fun b => Value.int .u8 b.toNat) ++ Array.replicate (m - s.size) (Value.int .u8 0)
  have harr : arr.size = m := by simp only [arr, Array.size_append, Array.size_map, Array.size_replicate]; have : s.data.size = s.size := rfl; omega
  have hfz : ∀ w1 : World, ∀ b n, w1.heap[b]? = some (Obj.cells arr e (0, 0)) → n = arr.size → (w1.freeze ⟨b, n, none⟩ 1).heap[b]? = some (Obj.cells arr e (n, n + 1)) := by
   intro w1 b n hb hn
   simp [World.freeze, Array.getElem?_modify, hb]
  let w1 : World := (w.drew.alloc (.cells arr e)).freeze ⟨w.heap.size, arr.size, none⟩ 1
  have hp0 : Pushed w (w.drew.alloc (.cells arr e)) (.cells arr e) := Pushed.mk' w _ (w.drawn + 1)
  have hp : Pushed w w1 (.cells arr e (arr.size, arr.size + 1)) := by
   refine ⟨?_, hfz _ _ _ hp0.at_ rfl, fun d hd => ?_, rfl, rfl, rfl⟩
   ·have : w1.heap.size = (w.drew.alloc (.cells arr e)).heap.size := by simp [w1, World.freeze]
    rw [this]; exact hp0.size
   ·have : w1.heap[d]? = (w.drew.alloc (.cells arr e)).heap[d]? := by
     simp only [w1, World.freeze]
     rw [if_neg (by omega)]
     simp only []
     rw [Array.getElem?_modify, if_neg (by omega)]
    rw [this]; exact hp0.other d hd
  obtain ⟨g1, g2⟩ := hr.new 1 (flatL_refl (ρ := ρ) (H := H) (w := w) _ (bytesV_flat s)) hp (fun j u hu => by
    have hj := (List.getElem?_eq_some_iff.1 hu).1
    simp only [arr]
    rw [Array.getElem?_append_left (by simpa [bytesV] using hj)]
    simp only [bytesV, List.getElem?_map] at hu
    rw [Array.getElem?_map]
    simpa using hu) (fun j hj => by simp only; omega)
  refine ⟨_, w1, .slice (some ⟨w.heap.size, 0, none⟩) s.size m, ?_, g1, g2, slice_new (sz := 1) hp.at_ (by rw [harr]; omega) (Nat.le_refl _) hcap⟩
  have hshape : (w.drew.alloc (.cells arr e)).shape? w.heap.size = some (e, arr.size) := by
   simp only [World.shape?, hp0.at_]
  have e1 : (convert src dst (.string s)).run P w = (Conv.stringToBytes e s).run P w := by
   simp [convert, run_underlying hs, run_underlying hd, run_underlying he]
  rw [e1]
  simp only [Conv.stringToBytes, Sem.run_bind, choose, Sem.run, cap_free, Bool.false_eq_true, if_false, Result.andThen_ok, newRow, run_newObj, Sem.run_pure, hm, markStringish]
  simp only [run_shape]
  change ((Sem.run P (match (w.drew.alloc (.cells arr e)).shape? w.heap.size with | some (_, n) => freeze { block := w.heap.size, off := n } 1 | _ => pure ()) (w.drew.alloc (.cells arr e))).andThen fun _ w' => Result.ok (Value.slice (some ⟨w.heap.size, 0, none⟩) s.size m) w') = _
  rw [hshape]
  rfl
 ·cases h
theorem unBytes_ints : ∀ {l : List Value} {bs : List UInt8}, unBytes l = some bs → ∃ ns : List Int, l = ns.map (Value.int .u8) ∧ bs = ns.map fun n => UInt8.ofNat n.toNat
 | [], bs, h => by simp only [unBytes, Option.some.injEq] at h; subst h; exact ⟨[], rfl, rfl⟩
 | v :: l, bs, h => by
  simp only [unBytes] at h
  split at h
  ·cases h
  ·rename_i b hb
   split at h
   ·cases h
   ·rename_i m hm
    injection h with h
    subst h
    obtain ⟨ns, rfl, rfl⟩ := unBytes_ints hm
    unfold unByte at hb
    split at hb
    ·rename_i n
     injection hb with hb
     exact ⟨n :: ns, rfl, by simp [hb]⟩
    ·cases hb
theorem push_all : ∀ (ns : List Int) (s : ByteArray), ns.foldl (fun r n => r.push (UInt8.ofNat n.toNat)) s = ⟨⟨s.data.toList ++ ns.map fun n => UInt8.ofNat n.toNat⟩⟩
 | [], s => by simp
 | n :: ns, s => by
  rw [List.foldl_cons, push_all ns]
  simp
theorem ints_flat (ns : List Int) : flatL (ns.map (Value.int .u8)) = true := by
 induction ns with
 | nil => rfl
 | cons n ns ih => simp [flatL, AM.flat, ih]
theorem ofBytes_run (hr : Rel pr w0 ρ H w) {src dst e : TypeId} (hs : P.underlying src = some (.slice e)) (hd : P.underlying dst = some .string) (he : P.underlying e = some (.int .u8)) {x x' v : Value} (hx : VR ρ H w x x') (h : ofBytes H x = some v) :
  (convert src dst x').run P w = .ok v w ∧ flat v = true := by
 have e1 : ∀ a n c, x' = .slice a n c → (convert src dst x').run P w = (Conv.bytesToString x').run P w := by
  rintro a n c rfl
  simp [convert, run_underlying hs, run_underlying hd, run_underlying he]
 unfold ofBytes at h
 split at h
 ·cases hx
  simp only [Option.some.injEq] at h
  subst h
  refine ⟨?_, rfl⟩
  rw [e1 _ _ _ rfl]
  show (Result.ok (Value.string ByteArray.empty) w : Result Value) = _
  rfl
 ·rename_i g i n cap
  cases hx with
  | slc _ _ _ _ c s a' cap' h1 h2 h3 h4 h5 h6 =>
   split at h
   ·cases h
   rename_i l hl
   split at h
   ·cases h
   rename_i bs hbs
   injection h with h
   subst h
   refine ⟨?_, rfl⟩
   rw [e1 _ _ _ rfl]
   obtain ⟨ns, rfl, rfl⟩ := unBytes_ints hbs
   have hlen := (loadN_get hl).1
   have hload : (loadCells a' n).run P w = .ok (ns.map (Value.int .u8)).toArray w := by
    rcases Nat.eq_zero_or_pos n with e0 | e0
    ·subst e0
     have : ns = [] := by simpa using hlen
     subst this
     rfl
    ·have ha := h5 (by omega)
     subst ha
     obtain ⟨l', k1, k2, _⟩ := run_loadCells (P := P) hr h1 h2 hl
     rw [k2.flat (ints_flat ns)] at k1
     simpa using k1 w rfl
   rw [run_bytesToString w a' n cap' ns hload, push_all]
   rfl
 ·cases h
end
end AM
end Go.Proofs.YtemcmblcogljkaaGreatDoor

namespace Go.Proofs.YtemcmblcogljkaaGreatDoor
namespace AM
open Go
def CalleeOK (P : Program) (pr : Nat → Prop) (w0 : World) (call : Callee) : Prop :=
 ∀ (f : FuncId) (args : Array Value) (H : AH) (v : Value) (H' : AH), call f args H = some (v, H') →
  (∀ (args' : Array Value) (w : World), (callFunc f args').run P w = .ok (.enter f args') w) ∧
  ∀ (ρ : Rho) (w : World) (args' : Array Value), Rel pr w0 ρ H w → VRs ρ H w args.toList args'.toList →
   Calls P f args' w fun e w' => ∃ ρ' v', e = .returned v' ∧ Ext ρ H w ρ' H' w' ∧ Rel pr w0 ρ' H' w' ∧ VR ρ' H' w' v v'
section
variable {P : Program} {pr : Nat → Prop} {w0 : World} {ρ ρ' : Rho} {H H' : AH} {w w' : World} {call : Callee}
theorem idxA_sound {t e : TypeId} {len sz : Nat} {x x' n n' v : Value} (hx : VR ρ H w x x') (hn : VR ρ H w n n') (hd : P.underlying t = some (.array len e)) (hs : sizeOf' P e = some sz) (hk : known P e = true) (h : idxA (aggSize P e) sz len x n = some v) :
  ∃ v', (Instr.index t x' n').run P w = .ok v' w ∧ VR ρ H w v v' := by
 have hu := run_underlying hd w
 unfold idxA at h
 split at h
 ·rename_i cs k m
  cases hn
  split at h
  ·rename_i hb
   simp only [Bool.and_eq_true, decide_eq_true_eq] at hb
   obtain ⟨v', cs', rfl, k1, k2⟩ := partV_sound (P := P) hx h hk rfl
   refine ⟨v', ?_, k2⟩
   simp [Instr.index, asIntOf, hu, hb.1, hb.2, run_sizeOf' hs, k1]
  ·cases h
 ·cases h
theorem idxS_sound {t : TypeId} {x x' n n' v : Value} (hx : VR ρ H w x x') (hn : VR ρ H w n n') (hd : P.underlying t = some .string) (h : idxS x n = some v) :
  (Instr.index t x' n').run P w = .ok v w ∧ flat v = true := by
 have hu := run_underlying hd w
 unfold idxS at h
 split at h
 ·rename_i s k m
  cases hn; cases hx
  split at h
  ·rename_i hb
   have hb' : 0 ≤ m := by simpa using hb
   split at h
   ·rename_i b hbs
    injection h with h
    subst h
    refine ⟨?_, rfl⟩
    have hlt := (List.getElem?_eq_some_iff.1 hbs).1
    have hlt' : m.toNat < s.size := hlt
    have e : s[m.toNat]? = some b := by
     rw [getElem?_pos s m.toNat hlt']
     obtain ⟨_, h2⟩ := List.getElem?_eq_some_iff.1 hbs
     exact congrArg some h2
    simp [Instr.index, asIntOf, hu, hb', e]
   ·cases h
  ·cases h
 ·cases h
theorem tupV_sound {n : Nat} {x x' v : Value} (hx : VR ρ H w x x') (h : tupV n x = some v) : ∃ v', (Instr.extract x' n).run P w = .ok v' w ∧ VR ρ H w v v' := by
 unfold tupV at h
 split at h
 ·rename_i vs
  cases hx with
  | tuple a a' ha ha' =>
   have h' : a[n]? = some v := by simpa using h
   obtain ⟨v', k1, k2⟩ := VRs.get (⟨ha, ha'⟩ : VRs ρ H w a a') h'
   exact ⟨v', by simp [Instr.extract, k1], k2⟩
 ·cases h
theorem PRs.toList {a : Act} {xs : Array (Nat × Operand)} {l : List (Nat × Value)} (h : PRs ρ H w l (xs.toList.map fun (i, x) => (i, a.eval x))) : PRs ρ H w l (xs.map fun (i, x) => (i, a.eval x)).toList := by
 rw [Array.toList_map]; exact h
theorem ptr_new {cells : List Value} {sz : Nat} : VR (upR ρ H.next (w.heap.size, 0)) (H.new sz cells) w' (.pointer (some ⟨H.next, 0, none⟩)) (.pointer (some ⟨w.heap.size, 0, none⟩)) :=
 .ptr H.next 0 w.heap.size 0 (upR_same _ _ _) (Nat.le_refl _)
theorem aCall_good {a : Act} {o : Oper} {c : Call} {f : Operand} {fv v : Value} {args : List Value} (hcall : CalleeOK P pr w0 call) (hr : Rel pr w0 ρ H w) (hop : o.op = .call c) (hc : c.callee = .value f)
  (hf : VR ρ H w fv (a.eval f)) (ha : VRs ρ H w args (c.args.toList.map a.eval)) (h : aCall call fv args H = some (v, H')) : Good P pr w0 ρ H w a o v H' := by
 intro K Q hk
 unfold aCall at h
 split at h
 ·rename_i g first captured
  obtain ⟨h1, h2⟩ := hcall _ _ _ _ _ h
  obtain ⟨first⟩ := first
  obtain ⟨captured⟩ := captured
  generalize hfe : a.eval f = fe at hf
  cases hf with
  | func _ _ _ a' b' x1 x2 x3 x4 =>
   have hargs : VRs ρ H w (first ++ args ++ captured) (a' ++ c.args.toList.map a.eval ++ b') := (VRs.append (VRs.append ⟨x1, x2⟩ ha) ⟨x3, x4⟩)
   have h3 := h2 ρ w ⟨a' ++ c.args.toList.map a.eval ++ b'⟩ hr hargs
   have hrun : (execOp a.eval o).run P w = .ok (.enter g ⟨a' ++ c.args.toList.map a.eval ++ b'⟩) w := by
    have e : ((⟨a'⟩ : Array Value) ++ c.args.map a.eval ++ ⟨b'⟩) = ⟨a' ++ c.args.toList.map a.eval ++ b'⟩ := by
     apply Array.ext'; simp
    simp only [execOp, hop, resolve, hc, hfe, Deferred.ofValue, Sem.run_bind, Sem.run_pure, Result.andThen_ok, invoke, e]
    exact h1 _ _
   unfold Oper.wp
   rw [hrun]
   simp only [Oper.upon]
   refine h3.mono fun e w' hh => ?_
   obtain ⟨ρ', v', rfl, k1, k2, k3⟩ := hh
   exact hk ρ' w' v' k1 k2 k3
 ·cases h
theorem aBuiltin_good {a : Act} {o : Oper} {c : Call} {b : Builtin} {v : Value} {args : List Value} (hr : Rel pr w0 ρ H w) (hop : o.op = .call c) (hc : c.callee = .builtin b)
  (ha : VRs ρ H w args (c.args.toList.map a.eval)) (h : aBuiltin P b c.argTypes o.type args H = some (v, H')) : Good P pr w0 ρ H w a o v H' := by
 have harr : c.args.map a.eval = ⟨c.args.toList.map a.eval⟩ := by apply Array.ext'; simp
 have hdo : ∀ (m : Sem Value), (∀ cs, builtin b c.argTypes o.type cs (c.args.map a.eval) = (do pure (.value (← m)))) → ∀ v' w', m.run P w = .ok v' w' → Does P a o w v' w' := by
  intro m hm v' w' hrun
  left
  simp only [execOp, hop, resolve, hc, Sem.run_bind, Sem.run_pure, Result.andThen_ok, invoke]
  rw [hm]
  simp [hrun]
 unfold aBuiltin at h
 split at h
 ·-- len
  rename_i ty x htys
  have htys' : c.argTypes = #[ty] := by apply Array.ext'; simpa using htys
  obtain ⟨x', r, hx', hx1, hx2⟩ := ha.cons_inv
  have hr0 := hx2.nil_inv
  subst hr0
  have hlen : ∀ v', (Builtin.len_ #[ty] o.type #[x']).run P w = .ok v' w → Does P a o w v' w := fun v' => hdo _ (fun cs => by rw [harr, hx', htys']; rfl) v' w
  split at h
  ·rename_i s hd
   simp only [Option.some.injEq, Prod.mk.injEq] at h
   obtain ⟨rfl, rfl⟩ := h
   cases hx1
   exact Good.light hr (.int _ _) (hlen _ (by simp [Builtin.len_, run_underlying hd, goInt]))
  ·rename_i e b0 n0 c0 hd
   simp only [Option.some.injEq, Prod.mk.injEq] at h
   obtain ⟨rfl, rfl⟩ := h
   cases hx1 <;> exact Good.light hr (.int _ _) (hlen _ (by simp [Builtin.len_, run_underlying hd, goInt]))
  ·rename_i n0 e0 hd
   simp only [Option.some.injEq, Prod.mk.injEq] at h
   obtain ⟨rfl, rfl⟩ := h
   exact Good.light hr (.int _ _) (hlen _ (by simp [Builtin.len_, run_underlying hd, goInt]))
  ·cases h
 ·-- append
  rename_i st xt s x htys
  have htys' : c.argTypes = #[st, xt] := by apply Array.ext'; simpa using htys
  obtain ⟨s', r, hs', hs1, hs2⟩ := ha.cons_inv
  obtain ⟨x', r2, rfl, hx1, hx2⟩ := hs2.cons_inv
  have hr0 := hx2.nil_inv
  subst hr0
  split at h
  ·rename_i e d hd1 hd2
   split at h
   ·cases h
   ·rename_i hnint
    split at h
    ·rename_i i hi
     split at h
     ·rename_i z hz
      split at h
      ·rename_i hb
       simp only [Bool.and_eq_true] at hb
       obtain ⟨ρ', w', v', k1, k2, k3, k4⟩ := append_run (ty := o.type) hr hd1 hd2 (fun k => hnint k) hi hz (Nat.eq_of_beq_eq_true hb.2) hs1 hx1 h
       exact Good.of k2 k3 k4 (hdo _ (fun cs => by rw [harr, hs', htys']; rfl) _ _ k1)
      ·cases h
     ·cases h
    ·cases h
  ·cases h
 ·-- copy
  rename_i dt xt d x htys
  have htys' : c.argTypes = #[dt, xt] := by apply Array.ext'; simpa using htys
  obtain ⟨s', r, hs', hs1, hs2⟩ := ha.cons_inv
  obtain ⟨x', r2, rfl, hx1, hx2⟩ := hs2.cons_inv
  have hr0 := hx2.nil_inv
  subst hr0
  split at h
  ·rename_i e hd1
   split at h
   ·rename_i i hi
    obtain ⟨w', v', k1, k2, k3, k4⟩ := copy_run (ty := o.type) (xT := xt) hr hd1 hi hs1 hx1 h
    exact Good.of k2 k3 k4 (hdo _ (fun cs => by rw [harr, hs', htys']; rfl) _ _ k1)
   ·cases h
  ·cases h
 ·split at h
  ·rename_i hf
   obtain ⟨hq, rfl⟩ := withH_some h
   have e := ha.flat hf
   refine Good.light hr (flat_refl v (peelF_run hq).2) (hdo _ (fun cs => by rw [harr, e]; rfl) _ _ ((peelF_run hq).1 w))
  ·cases h
 ·split at h
  ·rename_i hf
   obtain ⟨hq, rfl⟩ := withH_some h
   have e := ha.flat hf
   refine Good.light hr (flat_refl v (peelF_run hq).2) (hdo _ (fun cs => by rw [harr, e]; rfl) _ _ ((peelF_run hq).1 w))
  ·cases h
 ·cases h
theorem aOp_good {n : Nat} {t : Tr Value} {a : Act} {o : Oper} {v : Value} (hcall : CalleeOK P pr w0 call) (hr : Rel pr w0 ρ H w) (ht : TR ρ H w n t a.tmps) (h : aOp P call t o H = some (v, H')) : Good P pr w0 ρ H w a o v H' := by
 have light : ∀ {v' : Value}, VR ρ H w v v' → H' = H → (execOp a.eval o).run P w = .ok (.value v') w → Good P pr w0 ρ H w a o v H' := fun hv he hrun => by subst he; exact Good.light hr hv (.inl hrun)
 unfold aOp at h
 cases hop : o.op with
 | move x =>
  simp only [hop] at h
  obtain ⟨hq, rfl⟩ := withH_some h
  exact light (ev_sound ht hq) rfl (by simp [execOp, hop])
 | assign x =>
  simp only [hop] at h
  obtain ⟨hq, rfl⟩ := withH_some h
  exact light (ev_sound ht hq) rfl (by simp [execOp, hop])
 | pick c x y =>
  simp only [hop] at h
  split at h
  ·rename_i hc
   obtain ⟨hq, rfl⟩ := withH_some h
   have hc1 := ev_sound ht hc
   generalize hce : a.eval c = ce at hc1
   cases hc1
   exact light (ev_sound ht hq) rfl (by simp [execOp, hop, hce, asBool])
  ·rename_i hc
   obtain ⟨hq, rfl⟩ := withH_some h
   have hc1 := ev_sound ht hc
   generalize hce : a.eval c = ce at hc1
   cases hc1
   exact light (ev_sound ht hq) rfl (by simp [execOp, hop, hce, asBool])
  ·cases h
 | alloc e =>
  simp only [hop] at h
  split at h
  ·rename_i cs hz
   simp only [Option.some.injEq, Prod.mk.injEq] at h
   obtain ⟨rfl, rfl⟩ := h
   obtain ⟨z, h1, h2, h3⟩ := zeroCells_run hz w
   subst h2
   obtain ⟨g1, g2⟩ := newRow_good hr 0 (flat_cells (ρ := ρ) (H := H) (w := w) h3) e
   exact Good.of g1 g2 ptr_new (.inl (by simp [execOp, hop, Instr.alloc, h1, newVar, newRow]))
  ·cases h
 | box e x =>
  simp only [hop] at h
  split at h
  ·rename_i xv hx
   split at h
   ·simp only [Option.some.injEq, Prod.mk.injEq] at h
    obtain ⟨rfl, rfl⟩ := h
    obtain ⟨g1, g2⟩ := newRow_good hr 0 (ev_sound ht hx).cells e
    exact Good.of g1 g2 ptr_new (.inl (by simp [execOp, hop, Instr.box, newVar, newRow]))
   ·cases h
  ·cases h
 | build ty parts =>
  simp only [hop] at h
  split at h
  ·rename_i ps z hps hz
   obtain ⟨hq, rfl⟩ := withH_some h
   obtain ⟨v', k1, k2⟩ := build_sound (evps_sound ht hps) hq ⟨z, hz⟩
   have e : (parts.map fun (i, x) => (i, a.eval x)) = ⟨parts.toList.map fun (i, x) => (i, a.eval x)⟩ := by apply Array.ext'; simp
   exact light k2 rfl (by simp only [execOp, hop]; rw [e]; simp [k1])
  ·cases h
 | buildSlice ty len parts =>
  simp only [hop] at h
  split at h
  ·rename_i ps e hps hd
   split at h
   ·rename_i i hi
    split at h
    ·rename_i z hz hle
     split at h
     ·rename_i hzs
      split at h
      ·rename_i cells hf
       split at h
       ·rename_i hb
        simp only [Option.some.injEq, Prod.mk.injEq] at h
        obtain ⟨rfl, rfl⟩ := h
        simp only [Bool.and_eq_true] at hb
        have hzs' : z.size = i.size := Nat.eq_of_beq_eq_true hzs
        have hle' := Nat.le_of_ble_eq_true hle
        have hlen := Nat.eq_of_beq_eq_true hb.2
        obtain ⟨zv, hz1, hz2, hz3⟩ := zeroCells_run hz w
        have hzz : VRs ρ H w z.toList z.toList := by rw [← hz2]; exact flat_cells hz3
        obtain ⟨r', k1, k2⟩ := fill_sound _ ps _ _ _ cells (evps_sound ht hps) (zeros_vrs hzz len) hf
        obtain ⟨g1, g2⟩ := newRow_good hr i.size k2 e
        have ep : (parts.map fun (i, x) => (i, a.eval x)) = ⟨parts.toList.map fun (i, x) => (i, a.eval x)⟩ := by apply Array.ext'; simp
        have hszr : ∀ w : World, (Go.sizeOf e).run P w = .ok i.size w := fun w => by simp [Go.sizeOf, typeInfo, hi]
        refine Good.of g1 g2 (slice_new (sz := i.size) (Pushed.mk' w _ w.drawn).at_ (by have := k2.1; simp at this; simp; omega) (Nat.le_refl _) (Nat.le_refl _)) (.inl ?_)
        simp only [execOp, hop, Instr.buildSlice]
        rw [ep]
        have hno : ¬ (len * i.size > 2 ^ 24) := by
         have : (2 : Nat) ^ 24 = 16777216 := rfl
         omega
        have hze := zeros_eq z len
        simp only [Sem.run_bind, run_underlying hd, Result.andThen_ok, hszr]
        rw [if_neg hno]
        by_cases e0 : len * i.size = 0
        ·have e1 : len * z.size = 0 := by rw [hzs']; exact e0
         rw [e1] at hze
         have hr0 : Array.range 0 = #[] := rfl
         rw [hr0] at hze
         simp only [Array.map_empty] at hze
         simp only [e0, if_true, Sem.run_bind, Sem.run_pure, Result.andThen_ok, hr0, Array.map_empty]
         rw [hze, k1]
         rfl
        ·simp only [e0, if_false, Sem.run_bind, hz1, Sem.run_pure, Result.andThen_ok, hz2]
         rw [← hzs', hze, hzs', k1]
         rfl
       ·cases h
      ·cases h
     ·cases h
    ·cases h
   ·cases h
  ·cases h
 | load ty x =>
  simp only [hop] at h
  split at h
  ·rename_i av hx hk
   have hv : ∃ x', (match aggSize P ty with | some n => loadA H n av | none => load1 H av) = some v ∧ x' = H' ∧ H' = H := by
    split at h <;> obtain ⟨hq, rfl⟩ := withH_some h <;> rename_i he <;> exact ⟨_, by rw [he]; exact hq, rfl, rfl⟩
   obtain ⟨_, hq, _, rfl⟩ := hv
   obtain ⟨v', k1, k2⟩ := load_run (P := P) hr hk (ev_sound ht hx) hq
   exact light k2 rfl (by simp [execOp, hop, k1])
  ·cases h
 | store ty x y =>
  simp only [hop] at h
  split at h
  ·rename_i av yv sz hx hy hs
   cases hst : storeV H sz av yv with
   | none => rw [hst] at h; cases h
   | some H1 =>
    rw [hst] at h
    simp only [noV, Option.some.injEq, Prod.mk.injEq] at h
    obtain ⟨rfl, rfl⟩ := h
    obtain ⟨w', k1, k2, k3⟩ := store_run (P := P) hr hs (ev_sound ht hx) (ev_sound ht hy) hst
    exact Good.of k2 k3 (flat_refl undef rfl) (.inr ⟨by simp [execOp, hop, k1], rfl⟩)
  ·cases h
 | nilCheck x =>
  simp only [hop] at h
  split at h
  ·rename_i p hx
   simp only [Option.some.injEq, Prod.mk.injEq] at h
   obtain ⟨rfl, rfl⟩ := h
   have hx1 := ev_sound ht hx
   generalize hxe : a.eval x = xe at hx1
   cases hx1 with
   | ptr g i c s h1 h2 => exact light (.ptr g i c s h1 h2) rfl (by simp [execOp, hop, hxe])
  ·cases h
 | binOp op ty x y yt =>
  simp only [hop] at h
  split at h
  ·rename_i xv yv hx hy
   obtain ⟨hq, rfl⟩ := withH_some h
   obtain ⟨k1, k2⟩ := aBin_run hq (ev_sound ht hx) (ev_sound ht hy) w
   refine light (flat_refl v k2) rfl ?_
   simp only [execOp, hop]
   rw [Sem.run_bind, k1]
   rfl
  ·cases h
 | unOp op ty x =>
  simp only [hop] at h
  split at h
  ·rename_i xv hx
   split at h
   ·rename_i hf
    obtain ⟨hq, rfl⟩ := withH_some h
    obtain ⟨k1, k2⟩ := peelF_run hq
    have e := (ev_sound ht hx).flat hf
    exact light (flat_refl v k2) rfl (by simp [execOp, hop, e, k1])
   ·cases h
  ·cases h
 | convert src dst x =>
  simp only [hop] at h
  split at h
  ·rename_i xv hx
   have hx1 := ev_sound ht hx
   split at h
   ·rename_i e hs hd
    split at h
    ·rename_i he
     obtain ⟨ρ', w', v', k1, k2, k3, k4⟩ := toBytes_run hr hs hd he hx1 h
     exact Good.of k2 k3 k4 (.inl (by simp [execOp, hop, k1]))
    ·cases h
   ·rename_i e hs hd
    split at h
    ·rename_i he
     obtain ⟨hq, rfl⟩ := withH_some h
     obtain ⟨k1, k2⟩ := ofBytes_run hr hs hd he hx1 hq
     exact light (flat_refl v k2) rfl (by simp [execOp, hop, k1])
    ·cases h
   ·split at h
    ·rename_i hf
     obtain ⟨hq, rfl⟩ := withH_some h
     obtain ⟨k1, k2⟩ := peelF_run hq
     have e := hx1.flat hf
     exact light (flat_refl v k2) rfl (by simp [execOp, hop, e, k1])
    ·cases h
  ·cases h
 | makeInterface ty x =>
  simp only [hop] at h
  split at h
  ·cases h
  ·rename_i xv d hni hx hd
   simp only [Option.some.injEq, Prod.mk.injEq] at h
   obtain ⟨rfl, rfl⟩ := h
   refine light (.iface ty _ _ (ev_sound ht hx)) rfl ?_
   simp only [execOp, hop, Instr.makeInterface, Sem.run_bind, run_underlying hd, Result.andThen_ok]
   cases d <;> first | rfl | exact absurd rfl (hni _)
  ·cases h
 | makeFunc fn first captured =>
  simp only [hop] at h
  split at h
  ·rename_i x y hx hy
   simp only [Option.some.injEq, Prod.mk.injEq] at h
   obtain ⟨rfl, rfl⟩ := h
   have h1 := evs_sound ht hx
   have h2 := evs_sound ht hy
   have e1 : first.map a.eval = ⟨first.toList.map a.eval⟩ := by apply Array.ext'; simp
   have e2 : captured.map a.eval = ⟨captured.toList.map a.eval⟩ := by apply Array.ext'; simp
   exact light (.func fn _ _ _ _ h1.1 h1.2 h2.1 h2.2) rfl (by simp only [execOp, hop, Instr.makeFunc, e1, e2]; rfl)
  ·cases h
 | makeSlice ty l c =>
  simp only [hop] at h
  split at h
  ·rename_i lv cv e hl hc hd
   split at h
   ·rename_i i hi
    split at h
    ·rename_i z hz
     split at h
     ·rename_i hzs
      obtain ⟨ρ', w', v', k1, k2, k3, k4⟩ := make_run hr hd hi hz (Nat.eq_of_beq_eq_true hzs) (ev_sound ht hl) (ev_sound ht hc) h
      exact Good.of k2 k3 k4 (.inl (by simp [execOp, hop, k1]))
     ·cases h
    ·cases h
   ·cases h
  ·cases h
 | slice ty x lo hi mx =>
  simp only [hop] at h
  split at h
  ·rename_i xv l1 h1 hx hl hh
   obtain ⟨hq, rfl⟩ := withH_some h
   obtain ⟨v', k1, k2⟩ := slice_sound (P := P) (ev_sound ht hx) (evo_sound ht hl) (evo_sound ht hh) hq
   exact light k2 rfl (by simp [execOp, hop, k1])
  ·cases h
 | fieldAddr s x f =>
  simp only [hop] at h
  split at h
  ·rename_i xv fs hx hd
   split at h
   ·rename_i fl hf
    split at h
    ·rename_i m hs
     obtain ⟨hq, rfl⟩ := withH_some h
     obtain ⟨v', k1, k2⟩ := fieldP_sound (P := P) (ev_sound ht hx) hd hf hs hq
     exact light k2 rfl (by simp [execOp, hop, k1])
    ·cases h
   ·cases h
  ·cases h
 | field s x f =>
  simp only [hop] at h
  split at h
  ·rename_i xv fs hx hd
   split at h
   ·rename_i fl hf
    split at h
    ·rename_i hk
     obtain ⟨hq, rfl⟩ := withH_some h
     obtain ⟨v', cs', hc, k1, k2⟩ := partV_sound (P := P) (ev_sound ht hx) hq hk rfl
     refine light k2 rfl ?_
     simp [execOp, hop, Instr.field, run_underlying hd, hf, hc, asAgg, k1]
    ·cases h
   ·cases h
  ·cases h
 | indexAddr ty x i =>
  simp only [hop] at h
  split at h
  ·rename_i xv nv e hx hi hd
   split at h
   ·rename_i sz hs
    obtain ⟨hq, rfl⟩ := withH_some h
    obtain ⟨v', k1, k2⟩ := elemS_sound (P := P) (ev_sound ht hx) (ev_sound ht hi) hd hs hq
    exact light k2 rfl (by simp [execOp, hop, k1])
   ·cases h
  ·rename_i xv nv len e hx hi hd
   split at h
   ·rename_i sz hs
    obtain ⟨hq, rfl⟩ := withH_some h
    obtain ⟨v', k1, k2⟩ := elemA_sound (P := P) (ev_sound ht hx) (ev_sound ht hi) hd hs hq
    exact light k2 rfl (by simp [execOp, hop, k1])
   ·cases h
  ·cases h
 | index ty x i =>
  simp only [hop] at h
  split at h
  ·rename_i xv nv len e hx hi hd
   split at h
   ·rename_i sz hs hk
    obtain ⟨hq, rfl⟩ := withH_some h
    obtain ⟨v', k1, k2⟩ := idxA_sound (P := P) (ev_sound ht hx) (ev_sound ht hi) hd hs hk hq
    exact light k2 rfl (by simp [execOp, hop, k1])
   ·cases h
  ·rename_i xv nv hx hi hd
   obtain ⟨hq, rfl⟩ := withH_some h
   obtain ⟨k1, k2⟩ := idxS_sound (P := P) (ev_sound ht hx) (ev_sound ht hi) hd hq
   exact light (flat_refl v k2) rfl (by simp [execOp, hop, k1])
  ·cases h
 | extract x i =>
  simp only [hop] at h
  split at h
  ·rename_i xv hx
   obtain ⟨hq, rfl⟩ := withH_some h
   obtain ⟨v', k1, k2⟩ := tupV_sound (P := P) (ev_sound ht hx) hq
   exact light k2 rfl (by simp [execOp, hop, k1])
  ·cases h
 | call c =>
  simp only [hop] at h
  split at h
  ·rename_i f hc
   split at h
   ·rename_i fv args hf ha
    exact aCall_good hcall hr hop hc (ev_sound ht hf) (evs_sound ht ha) h
   ·cases h
  ·rename_i b hc
   split at h
   ·rename_i args ha
    exact aBuiltin_good hr hop hc (evs_sound ht ha) h
   ·cases h
  ·cases h
 | _ => simp only [hop] at h; cases h
end
end AM
end Go.Proofs.YtemcmblcogljkaaGreatDoor

