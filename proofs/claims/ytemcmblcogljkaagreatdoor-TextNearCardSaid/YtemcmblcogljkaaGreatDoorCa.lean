/- The abstract heap: what stays and what changes. How what has to hold is told: rules for rewriting. The checks. Slices that are read. -/
import Derived.Test.YtemcmblcogljkaaGreatDoorMb
import Derived.Test.YtemcmblcogljkaaGreatDoorRg
set_option linter.all false
set_option linter.unusedSimpArgs false
set_option linter.unusedVariables false
namespace Go.Proofs.YtemcmblcogljkaaGreatDoor
namespace AM
open Go
structure WF (H : AH) : Prop where
 row : ∀ h r, H.rows.get h = some r → h < H.next ∧ r.root < H.next
 fam : ∀ g f, H.fams.get g = some f → g < H.next
structure Keep (F : Nat → Prop) (H H' : AH) : Prop where
 wf : WF H'
 next : H.next ≤ H'.next
 rows : ∀ h, h < H.next → H'.rows.get h = H.rows.get h
 fams : ∀ g, g < H.next → ¬ F g → H'.fams.get g = H.fams.get g
def none' : Nat → Prop := fun _ => False
abbrev Le (H H' : AH) : Prop := Keep none' H H'
theorem Keep.refl {F : Nat → Prop} {H : AH} (h : WF H) : Keep F H H := ⟨h, Nat.le_refl _, fun _ _ => rfl, fun _ _ _ => rfl⟩
theorem Keep.mono {F F' : Nat → Prop} {H H' : AH} (h : Keep F H H') (hf : ∀ g, g < H.next → F g → F' g) : Keep F' H H' := ⟨h.wf, h.next, h.rows, fun g hg hn => h.fams g hg fun hh => hn (hf g hg hh)⟩
theorem Keep.trans {F F' : Nat → Prop} {H H' H'' : AH} (h : Keep F H H') (h' : Keep F' H' H'') (hf : ∀ g, g < H.next → F' g → F g) : Keep F H H'' :=
 ⟨h'.wf, Nat.le_trans h.next h'.next, fun i hi => (h'.rows i (Nat.lt_of_lt_of_le hi h.next)).trans (h.rows i hi), fun g hg hn => (h'.fams g (Nat.lt_of_lt_of_le hg h.next) fun hh => hn (hf g hg hh)).trans (h.fams g hg hn)⟩
theorem Le.trans {H H' H'' : AH} (h : Le H H') (h' : Le H' H'') : Le H H'' := Keep.trans h h' fun _ _ hh => hh
theorem Le.keep {F : Nat → Prop} {H H' : AH} (h : Le H H') : Keep F H H' := h.mono fun _ _ hh => hh.elim
theorem ble_of {a b : Nat} (h : a ≤ b) : Nat.ble a b = true := Nat.ble_eq_true_of_le h
theorem blt_of {a b : Nat} (h : a < b) : Nat.blt a b = true := Nat.ble_eq_true_of_le h
theorem load_lt {H : AH} (hw : WF H) {h i : Nat} {v : Value} (hl : H.load h i = some v) : h < H.next := by
 unfold AH.load at hl
 split at hl
 ·cases hl
 ·rename_i r hr; exact (hw.row h r hr).1
theorem load_congr {H H' : AH} {h : Nat} (hr : H'.rows.get h = H.rows.get h) (hf : ∀ r, H.rows.get h = some r → H'.fams.get r.root = H.fams.get r.root) (i : Nat) : H'.load h i = H.load h i := by
 unfold AH.load
 rw [hr]
 split
 ·rfl
 ·rename_i r hrr
  rw [hf r hrr]
def rootOf (H : AH) (h : Nat) : Nat := match H.rows.get h with
 | some r => r.root
 | none => h
theorem Keep.load {F : Nat → Prop} {H H' : AH} (hw : WF H) (hk : Keep F H H') {h : Nat} (hh : h < H.next) (hF : ¬ F (rootOf H h)) (i : Nat) : H'.load h i = H.load h i := by
 refine load_congr (hk.rows h hh) (fun r hr => hk.fams _ (hw.row h r hr).2 ?_) i
 simpa [rootOf, hr] using hF
theorem Keep.root {F : Nat → Prop} {H H' : AH} (hk : Keep F H H') {h : Nat} (hh : h < H.next) : rootOf H' h = rootOf H h := by
 unfold rootOf; rw [hk.rows h hh]
theorem Le.load {H H' : AH} (hw : WF H) (hk : Le H H') {h i : Nat} {v : Value} (hl : H.load h i = some v) : H'.load h i = some v := by
 rw [Keep.load hw hk (load_lt hw hl) (fun hh => hh) i, hl]
theorem Le.loadN {H H' : AH} (hw : WF H) (hk : Le H H') {h : Nat} : ∀ {n i : Nat} {l : List Value}, H.loadN h i n = some l → H'.loadN h i n = some l
 | 0, _, _, hl => hl
 | n + 1, i, l, hl => by
  simp only [AH.loadN] at hl ⊢
  split at hl
  ·cases hl
  ·rename_i v hv
   rw [Le.load hw hk hv]
   simp only
   split at hl
   ·cases hl
   ·rename_i l' hl'
    rw [Le.loadN hw hk hl']
    exact hl
theorem new_next (H : AH) (sz : Nat) (cs : List Value) : (H.new sz cs).next = H.next + 1 := rfl
theorem new_le {H : AH} (hw : WF H) (sz : Nat) (cs : List Value) : Le H (H.new sz cs) where
 wf := by
  refine ⟨fun h r hr => ?_, fun g f hf => ?_⟩
  ·simp only [AH.new, Tr.get_put] at hr ⊢
   split at hr
   ·injection hr with hr; subst hr; simp only; omega
   ·have := hw.row h r hr; omega
  ·simp only [AH.new, Tr.get_put] at hf ⊢
   split at hf
   ·omega
   ·have := hw.fam g f hf; omega
 next := Nat.le_succ _
 rows := fun h hh => by simp only [AH.new]; exact Tr.get_put_other _ _ (by omega)
 fams := fun g hg _ => by simp only [AH.new]; exact Tr.get_put_other _ _ (by omega)
theorem new_wf {H : AH} (hw : WF H) (sz : Nat) (cs : List Value) : WF (H.new sz cs) := (new_le hw sz cs).wf
theorem new_row (H : AH) (sz : Nat) (cs : List Value) : (H.new sz cs).rows.get H.next = some ⟨H.next, 0, cs.length, sz⟩ := Tr.get_put_same _ _ _
theorem new_root (H : AH) (sz : Nat) (cs : List Value) : rootOf (H.new sz cs) H.next = H.next := by simp [rootOf, new_row]
theorem new_load (H : AH) (sz : Nat) (cs : List Value) (i : Nat) : (H.new sz cs).load H.next i = cs[i]? := by
 unfold AH.load
 simp only [AH.new, Tr.get_put_same, Tr.get_putAll, Tr.get_leaf, Nat.zero_le, true_and, Nat.zero_add, List.length_map, Nat.sub_zero, List.getElem?_map]
 by_cases h : i < cs.length
 ·rw [if_pos h, List.getElem?_eq_getElem h]
  simp only [Option.map_some, ble_of (Nat.zero_le i), blt_of h, ble_of (Nat.le_refl H.next), Bool.and_self]
 ·rw [if_neg h, List.getElem?_eq_none (by omega)]
theorem new_load_old {H : AH} (hw : WF H) (sz : Nat) (cs : List Value) {h : Nat} (hh : h < H.next) (i : Nat) : (H.new sz cs).load h i = H.load h i :=
 Keep.load hw (new_le hw sz cs) hh (fun hh => hh) i
structure Own (H : AH) (h n : Nat) : Prop where
 ex : ∃ g sz f, H.rows.get h = some ⟨g, 0, n, sz⟩ ∧ H.fams.get g = some f ∧ f.ro = false ∧ f.tip = h
theorem new_own (H : AH) (sz : Nat) (cs : List Value) : Own (H.new sz cs) H.next cs.length :=
 ⟨_, _, _, new_row H sz cs, Tr.get_put_same _ _ _, rfl, rfl⟩
theorem Own.lt {H : AH} (hw : WF H) {h n : Nat} (ho : Own H h n) : h < H.next := by
 obtain ⟨g, sz, f, h1, _⟩ := ho.ex; exact (hw.row h _ h1).1
theorem Own.keep {F : Nat → Prop} {H H' : AH} (hw : WF H) (hk : Keep F H H') {h n : Nat} (ho : Own H h n) (hF : ¬ F (rootOf H h)) : Own H' h n := by
 obtain ⟨g, sz, f, h1, h2, h3⟩ := ho.ex
 refine ⟨g, sz, f, by rw [hk.rows h (hw.row h _ h1).1, h1], ?_, h3⟩
 rw [hk.fams g (hw.row h _ h1).2 (by simpa [rootOf, h1] using hF), h2]
theorem Own.le {H H' : AH} (hw : WF H) (hk : Le H H') {h n : Nat} (ho : Own H h n) : Own H' h n := ho.keep hw hk fun hh => hh
theorem store_ok {H : AH} (hw : WF H) {h n : Nat} (ho : Own H h n) {i : Nat} (hi : i < n) {v : Value} (hv : oneCell v = true) :
  ∃ H', H.store h i v = some H' ∧ Keep (fun g => g = rootOf H h) H H' ∧ Own H' h n ∧ H'.next = H.next ∧ (∀ j, H'.load h j = if j = i then some v else H.load h j) := by
 obtain ⟨g, sz, f, h1, h2, h3, h4⟩ := ho.ex
 have hlt := (hw.row h _ h1)
 simp only at hlt
 refine ⟨{ H with fams := H.fams.put g { f with cells := f.cells.put i (v, h) } }, ?_, ?_, ?_, rfl, fun j => ?_⟩
 ·unfold AH.store
  simp only [h1, h2, h3, h4, hv]
  simp only [Nat.beq_refl, blt_of hi, ble_of (Nat.zero_le i), Bool.not_false, Bool.and_self]
 ·refine ⟨⟨fun a r hr => hw.row a r hr, fun a r hr => ?_⟩, Nat.le_refl _, fun _ _ => rfl, fun a ha hn => ?_⟩
  ·simp only [Tr.get_put] at hr
   split at hr
   ·rename_i e; subst e; exact hlt.2
   ·exact hw.fam a r hr
  ·simp only [rootOf, h1] at hn
   exact Tr.get_put_other _ _ hn
 ·exact ⟨g, sz, _, h1, Tr.get_put_same _ _ _, h3, h4⟩
 ·unfold AH.load
  simp only [h1, h2, Tr.get_put_same, Tr.get_put]
  by_cases e : j = i
  ·subst e
   simp only [if_true, blt_of hi, ble_of (Nat.zero_le j), ble_of (Nat.le_refl h), Bool.and_self]
  ·simp [e]
theorem storeN_ok {h n : Nat} : ∀ {vs : List Value} {H : AH} {i : Nat}, WF H → Own H h n → i + vs.length ≤ n → (∀ v ∈ vs, oneCell v = true) →
  ∃ H', H.storeN h i vs = some H' ∧ Keep (fun g => g = rootOf H h) H H' ∧ Own H' h n ∧ H'.next = H.next ∧ (∀ j, H'.load h j = if i ≤ j ∧ j < i + vs.length then vs[j - i]? else H.load h j)
 | [], H, i, hw, ho, _, _ => ⟨H, rfl, Keep.refl hw, ho, rfl, fun j => by rw [if_neg (by simp only [List.length_nil]; omega)]⟩
 | v :: vs, H, i, hw, ho, hi, hv => by
  simp only [List.length_cons] at hi
  obtain ⟨H1, a1, a2, a3, a4, a5⟩ := store_ok hw ho (show i < n by omega) (hv v (by simp))
  obtain ⟨H2, b1, b2, b3, b4, b5⟩ := storeN_ok (vs := vs) (i := i + 1) a2.wf a3 (by omega) fun u hu => hv u (by simp [hu])
  refine ⟨H2, by simp only [AH.storeN, a1, b1], ?_, b3, b4.trans a4, fun j => ?_⟩
  ·refine a2.trans b2 fun g _ hg => ?_
   rw [hg, a2.root (ho.lt hw)]
  ·rw [b5, a5]
   simp only [List.length_cons]
   by_cases e : j = i
   ·subst e
    rw [if_neg (by omega), if_pos rfl, if_pos (by omega), Nat.sub_self]; rfl
   ·by_cases e2 : i + 1 ≤ j ∧ j < i + 1 + vs.length
    ·rw [if_pos e2, if_pos (by omega), show j - i = (j - (i + 1)) + 1 by omega]; rfl
    ·rw [if_neg e2, if_neg e, if_neg (by omega)]
inductive Sli (H : AH) (sz : Nat) : Option Addr → Nat → Nat → List Value → Prop where
 | nil : Sli H sz none 0 0 []
 | row {h i n c : Nat} {r : Row} {f : Fam} {cs : List Value} (hr : H.rows.get h = some r) (hs : r.sz = sz) (hf : H.fams.get r.root = some f) (ho : f.ro = false) (hl : r.lo ≤ i) (hh : i + n * sz ≤ r.hi) (hn : cs.length = n * sz) (hc : ∀ j, j < cs.length → H.load h (i + j) = cs[j]?) : Sli H sz (some ⟨h, i, none⟩) n c cs
def rootB (H : AH) : Option Addr → Nat → Prop
 | some ⟨h, _, _⟩, g => g = rootOf H h
 | none, _ => False
theorem Sli.keep {F : Nat → Prop} {H H' : AH} (hw : WF H) (hk : Keep F H H') {sz : Nat} {b : Option Addr} {n c : Nat} {cs : List Value} (hs : Sli H sz b n c cs) (hF : ∀ g, rootB H b g → ¬ F g) : Sli H' sz b n c cs := by
 cases hs with
 | nil => exact .nil
 | row hr hs hf ho hl hh hn hc =>
  rename_i h i r f
  have hlt := hw.row _ _ hr
  have hF' : ¬ F r.root := by have := hF (rootOf H h) rfl; simpa [rootOf, hr] using this
  refine .row (by rw [hk.rows _ hlt.1, hr]) hs (by rw [hk.fams _ hlt.2 hF', hf]) ho hl hh hn fun j hj => ?_
  rw [Keep.load hw hk hlt.1 (by simpa [rootOf, hr] using hF'), hc j hj]
theorem Sli.le {H H' : AH} (hw : WF H) (hk : Le H H') {sz : Nat} {b : Option Addr} {n c : Nat} {cs : List Value} (hs : Sli H sz b n c cs) : Sli H' sz b n c cs := hs.keep hw hk fun _ _ hh => hh
theorem Sli.len {H : AH} {sz : Nat} {b : Option Addr} {n c : Nat} {cs : List Value} (hs : Sli H sz b n c cs) : cs.length = n * sz := by
 cases hs with
 | nil => simp
 | row hr hs hf ho hl hh hn hc => exact hn
theorem rootB_keep {F : Nat → Prop} {H H' : AH} (hw : WF H) (hk : Keep F H H') {sz : Nat} {b : Option Addr} {n c : Nat} {cs : List Value} (hs : Sli H sz b n c cs) (g : Nat) : rootB H' b g ↔ rootB H b g := by
 cases hs with
 | nil => exact Iff.rfl
 | row hr _ _ _ _ _ _ _ => unfold rootB; simp only; rw [hk.root (hw.row _ _ hr).1]
theorem rootB_lt {H : AH} (hw : WF H) {sz : Nat} {b : Option Addr} {n c : Nat} {cs : List Value} (hs : Sli H sz b n c cs) {g : Nat} (hg : rootB H b g) : g < H.next := by
 cases hs with
 | nil => exact hg.elim
 | row hr _ _ _ _ _ _ _ =>
  simp only [rootB, rootOf, hr] at hg
  subst hg
  exact (hw.row _ _ hr).2
theorem new_sli (H : AH) (sz n : Nat) {cs : List Value} (hn : cs.length = n * sz) {c : Nat} : Sli (H.new sz cs) sz (some ⟨H.next, 0, none⟩) n c cs :=
 .row (new_row H sz cs) rfl (Tr.get_put_same _ _ _) rfl (Nat.le_refl 0) (by simp only; omega) hn fun j _ => by rw [Nat.zero_add, new_load]
theorem loadN_of {H : AH} {h : Nat} : ∀ {cs : List Value} {i : Nat}, (∀ j, j < cs.length → H.load h (i + j) = cs[j]?) → H.loadN h i cs.length = some cs
 | [], _, _ => rfl
 | c :: cs, i, hc => by
  simp only [List.length_cons, AH.loadN]
  have h0 := hc 0 (by simp)
  rw [Nat.add_zero] at h0
  rw [h0]
  simp only [List.getElem?_cons_zero]
  rw [loadN_of fun j hj => by
   have := hc (j + 1) (by simp; omega)
   rw [show i + (j + 1) = i + 1 + j by omega] at this
   simpa using this]
theorem Sli.loadN {H : AH} {sz : Nat} {h i n c : Nat} {cs : List Value} (hs : Sli H sz (some ⟨h, i, none⟩) n c cs) : H.loadN h i (n * sz) = some cs := by
 cases hs with
 | row hr hs hf ho hl hh hn hc => rw [← hn]; exact loadN_of hc
end AM
end Go.Proofs.YtemcmblcogljkaaGreatDoor

namespace Go.Proofs.YtemcmblcogljkaaGreatDoor
namespace AM
open Go
theorem obI_some (k : IntKind) (x : Int) (K : Int → Prop) : obI k (some (.int k x)) K = K x := by simp [obI]
theorem obB_some (b : Bool) (K : Bool → Prop) : obB (some (.bool b)) K = K b := rfl
theorem obS_some (s : ByteArray) (K : ByteArray → Prop) : obS (some (.string s)) K = K s := rfl
theorem obL_some (b : Option Addr) (n c : Nat) (K : Option Addr → Nat → Nat → Prop) : obL (some (.slice b n c)) K = K b n c := rfl
theorem obV_some (v : Value) (K : Value → Prop) : obV (some v) K = K v := rfl
theorem obA_some (h i : Nat) (K : Nat → Nat → Prop) : obA (some (.pointer (some ⟨h, i, none⟩))) K = K h i := rfl
theorem obH_some (H : AH) (K : AH → Prop) : obH (some H) K = K H := rfl
theorem obG_some (b : Option Addr) (n c : Nat) (H : AH) (K : Option Addr → Nat → Nat → AH → Prop) : obG (some (.slice b n c, H)) K = K b n c H := rfl
theorem letH_eq (H : AH) (K : AH → Prop) : letH H K = K H := rfl
theorem ifB_true (A B : Prop) : ifB true A B = A := rfl
theorem ifB_false (A B : Prop) : ifB false A B = B := rfl
theorem ifB_intro {b : Bool} {A B : Prop} (h : b = true → A) (h' : b = false → B) : ifB b A B := by cases b with
 | false => exact h' rfl
 | true => exact h rfl
theorem obE1_int (k : IntKind) (x : Int) (A : Prop) : obE1 (some (.int k x)) (.int k x) A = A := by simp [obE1, same1]
theorem obE1_str (s : ByteArray) (A : Prop) : obE1 (some (.string s)) (.string s) A = A := by simp [obE1, same1]
theorem obE_str (s : ByteArray) (A : Prop) : obE (some (.string s)) (.string s) A = A := by simp [obE, same, same1]
theorem obE1_slice {b : Option Addr} {n c : Nat} (hb : ∀ h, b = some h → h.spot = none) (A : Prop) : obE1 (some (.slice b n c)) (.slice b n c) A = A := by
 cases b with
 | none => simp [obE1, same1]
 | some a =>
  obtain ⟨h, i, e⟩ := a
  have := hb _ rfl
  simp only at this
  subst this
  simp [obE1, same1]
theorem ifB_J (b : Bool) (J : Bool → AH → Prop) (x y : Bool) (H : AH) : ifB b (J x H) (J y H) = J (bif b then x else y) H := by cases b <;> rfl
theorem join2_J {α : Type} (x : α) (H : AH) (K : α → AH → Prop) : join2 (fun J => J x H) K = K x H := rfl
theorem ifB_not (b : Bool) (A B : Prop) : ifB (!b) A B = ifB b B A := by cases b <;> rfl
theorem obN_eq (n : Nat) (l : List Value) (A : Prop) (h : l.length = n) : obN n (.agg ⟨l⟩) A = A := by
 unfold obN isAgg; subst h; simp [Nat.beq_refl]
theorem cellAt_eq (l : List Value) (i : Nat) : cellAt (.agg ⟨l⟩) i = l[i]? := rfl
theorem tupV_eq (n : Nat) (l : List Value) : tupV n (.tuple ⟨l⟩) = l[n]? := by unfold tupV; simp
theorem elemS_eq {sz : Nat} {h j n c : Nat} {k : IntKind} {i : Int} (h0 : 0 ≤ i) (h1 : i < n) : elemS sz (.slice (some ⟨h, j, none⟩) n c) (.int k i) = some (.pointer (some ⟨h, j + i.toNat * sz, none⟩)) := by
 unfold elemS; simp only [decide_eq_true h0, decide_eq_true h1, Bool.and_self]
theorem wrap_of {x : Int} (h : -9223372036854775808 ≤ x) (h' : x ≤ 9223372036854775807) : IntKind.wrap .i64 x = x := by
 show (if (true && decide (x % 18446744073709551616 ≥ 9223372036854775808)) = true then x % 18446744073709551616 - 18446744073709551616 else x % 18446744073709551616) = x
 split
 ·rename_i hh; simp at hh; omega
 ·rename_i hh; simp at hh; omega
theorem wrap_u8 {x : Int} (h : 0 ≤ x) (h' : x ≤ 255) : IntKind.wrap .u8 x = x := by
 show (if (false && decide (x % 256 ≥ 128)) = true then x % 256 - 256 else x % 256) = x
 simp; omega
end AM
end Go.Proofs.YtemcmblcogljkaaGreatDoor

namespace Go.Proofs.YtemcmblcogljkaaGreatDoor
namespace AM
open Go
def okG (f w b : Int) : Bool := decide (0 ≤ f ∧ f ≤ 1048576 ∧ 1 ≤ w ∧ w ≤ 64 ∧ 0 ≤ b ∧ b ≤ 12 * w)
def within' (n lo hi : Int) : Bool := decide (lo ≤ n ∧ n ≤ hi)
section
variable {pm : Prims}
theorem OK.eq {f : FuncId} {args : Array Value} {H H' : AH} {v : Value} (h : OK pm f args H (fun u G => u = v ∧ G = H')) (K : Value → AH → Prop) : OK pm f args H K = K v H' := by
 obtain ⟨k, u, G, hc, rfl, rfl⟩ := h
 refine propext ⟨fun h2 => ?_, fun h2 => ⟨k, u, G, hc, h2⟩⟩
 obtain ⟨k2, u2, G2, hc2, hk⟩ := h2
 have a := callF_mono (Nat.le_max_left k k2) _ _ _ _ hc
 have b := callF_mono (Nat.le_max_right k k2) _ _ _ _ hc2
 rw [a] at b
 simp only [Option.some.injEq, Prod.mk.injEq] at b
 obtain ⟨rfl, rfl⟩ := b
 exact hk
theorem c74 (hp : Only pm) {a b c : Int} {H : AH} {Q : Value → AH → Prop} (h : Q (.bool (within' a b c)) H) : OK pm 74 ⟨[I a, I b, I c]⟩ H Q := by
 apply f74_ok hp
 simp only [f74R, join2_J, ifB_J, Bool.cond_false_right]
 rwa [show (decide (a ≥ b) && decide (a ≤ c)) = within' a b c by unfold within'; rw [Bool.eq_iff_iff]; simp]
theorem c109 (hp : Only pm) {a b c : Int} {H : AH} {Q : Value → AH → Prop} (h : Q (.bool (within' a b c)) H) : OK pm 109 ⟨[I a, I b, I c]⟩ H Q := by
 apply f109_ok hp
 simp only [f109R, join2_J, ifB_J, Bool.cond_false_right]
 rwa [show (decide (a ≥ b) && decide (a ≤ c)) = within' a b c by unfold within'; rw [Bool.eq_iff_iff]; simp]
theorem c135 (hp : Only pm) {a b c : Int} {H : AH} {Q : Value → AH → Prop} (h : Q (.bool (within' a b c)) H) : OK pm 135 ⟨[I a, I b, I c]⟩ H Q := by
 apply f135_ok hp
 simp only [f135R, join2_J, ifB_J, Bool.cond_false_right]
 rwa [show (decide (a ≥ b) && decide (a ≤ c)) = within' a b c by unfold within'; rw [Bool.eq_iff_iff]; simp]
theorem c165 (hp : Only pm) {a b c : Int} {H : AH} {Q : Value → AH → Prop} (h : Q (.bool (within' a b c)) H) : OK pm 165 ⟨[I a, I b, I c]⟩ H Q := by
 apply f165_ok hp
 simp only [f165R, join2_J, ifB_J, Bool.cond_false_right]
 rwa [show (decide (a ≥ b) && decide (a ≤ c)) = within' a b c by unfold within'; rw [Bool.eq_iff_iff]; simp]
theorem c136 (hp : Only pm) {x0 x1 x2 : Int} {H : AH} {Q : Value → AH → Prop} (hw : WF H) (hQ : ∀ H', Le H H' → Q (.bool (okG x0 x1 x2)) H') : OK pm 136 ⟨[.agg ⟨[I x0, I x1, I x2]⟩]⟩ H Q := by
 apply f136_ok hp
 simp only [f136R, letH_eq, new_load, Nat.zero_add, Nat.add_zero, List.getElem?_cons_zero, List.getElem?_cons_succ, obI_some, ifB_J, join2_J, Bool.cond_false_right]
 refine cast (congrArg (fun b => Q (.bool b) _) ?_) (hQ _ (new_le hw _ _))
 unfold okG
 rw [Bool.eq_iff_iff]
 simp only [Bool.and_eq_true, decide_eq_true_eq]
 constructor
 ·intro h; refine ⟨h.1, h.2.1, h.2.2.1, h.2.2.2.1, h.2.2.2.2.1, ?_⟩; rw [wrap_of (by omega) (by omega)]; omega
 ·intro h; have h6 := h.2.2.2.2.2; rw [wrap_of (by omega) (by omega)] at h6; omega
theorem c124 (hp : Only pm) {x0 x1 x2 : Int} {H : AH} {Q : Value → AH → Prop} (hw : WF H) (hQ : ∀ H', Le H H' → Q (.bool (okG x0 x1 x2)) H') : OK pm 124 ⟨[.agg ⟨[I x0, I x1, I x2]⟩]⟩ H Q := by
 apply f124_ok hp
 simp only [f124R, letH_eq, new_load, Nat.zero_add, Nat.add_zero, List.getElem?_cons_zero, List.getElem?_cons_succ, obI_some, ifB_J, join2_J, Bool.cond_false_right]
 refine cast (congrArg (fun b => Q (.bool b) _) ?_) (hQ _ (new_le hw _ _))
 unfold okG
 rw [Bool.eq_iff_iff]
 simp only [Bool.and_eq_true, decide_eq_true_eq]
 constructor
 ·intro h; refine ⟨h.1, h.2.1, h.2.2.1, h.2.2.2.1, h.2.2.2.2.1, ?_⟩; rw [wrap_of (by omega) (by omega)]; omega
 ·intro h; have h6 := h.2.2.2.2.2; rw [wrap_of (by omega) (by omega)] at h6; omega
theorem e74 (hp : Only pm) (a b c : Int) (H : AH) (K : Value → AH → Prop) : OK pm 74 ⟨[I a, I b, I c]⟩ H K = K (.bool (within' a b c)) H := OK.eq (c74 hp ⟨rfl, rfl⟩) K
theorem e109 (hp : Only pm) (a b c : Int) (H : AH) (K : Value → AH → Prop) : OK pm 109 ⟨[I a, I b, I c]⟩ H K = K (.bool (within' a b c)) H := OK.eq (c109 hp ⟨rfl, rfl⟩) K
theorem e135 (hp : Only pm) (a b c : Int) (H : AH) (K : Value → AH → Prop) : OK pm 135 ⟨[I a, I b, I c]⟩ H K = K (.bool (within' a b c)) H := OK.eq (c135 hp ⟨rfl, rfl⟩) K
theorem e165 (hp : Only pm) (a b c : Int) (H : AH) (K : Value → AH → Prop) : OK pm 165 ⟨[I a, I b, I c]⟩ H K = K (.bool (within' a b c)) H := OK.eq (c165 hp ⟨rfl, rfl⟩) K
theorem c96 (hp : Only pm) {a : Int} {H : AH} {Q : Value → AH → Prop} (h : Q (.bool (within' a 1 1000)) H) : OK pm 96 ⟨[I a]⟩ H Q := by
 apply f96_ok hp
 simp only [f96R, join2_J, ifB_J, Bool.cond_false_right]
 rwa [show (decide (a ≥ 1) && decide (a ≤ 1000)) = within' a 1 1000 by unfold within'; rw [Bool.eq_iff_iff]; simp]
theorem e96 (hp : Only pm) (a : Int) (H : AH) (K : Value → AH → Prop) : OK pm 96 ⟨[I a]⟩ H K = K (.bool (within' a 1 1000)) H := OK.eq (c96 hp ⟨rfl, rfl⟩) K
theorem c151 (hp : Only pm) {a : Int} {H : AH} {Q : Value → AH → Prop} (h : Q (.bool (within' a 5 9)) H) : OK pm 151 ⟨[I a]⟩ H Q := by
 apply f151_ok hp
 simp only [f151R, join2_J, ifB_J, Bool.cond_false_right]
 rwa [show (decide (a ≥ 5) && decide (a ≤ 9)) = within' a 5 9 by unfold within'; rw [Bool.eq_iff_iff]; simp]
theorem e151 (hp : Only pm) (a : Int) (H : AH) (K : Value → AH → Prop) : OK pm 151 ⟨[I a]⟩ H K = K (.bool (within' a 5 9)) H := OK.eq (c151 hp ⟨rfl, rfl⟩) K
theorem c166 (hp : Only pm) {a : Int} {H : AH} {Q : Value → AH → Prop} (h : Q (.bool (within' a 5 9)) H) : OK pm 166 ⟨[I a]⟩ H Q := by
 apply f166_ok hp
 simp only [f166R, join2_J, ifB_J, Bool.cond_false_right]
 rwa [show (decide (a ≥ 5) && decide (a ≤ 9)) = within' a 5 9 by unfold within'; rw [Bool.eq_iff_iff]; simp]
theorem e166 (hp : Only pm) (a : Int) (H : AH) (K : Value → AH → Prop) : OK pm 166 ⟨[I a]⟩ H K = K (.bool (within' a 5 9)) H := OK.eq (c166 hp ⟨rfl, rfl⟩) K
def errR (c o n l s k : Int) : Int := if 1 ≤ c ∧ c ≤ 256 ∧ 0 ≤ o ∧ o < c ∧ 1 ≤ n ∧ n ≤ c ∧ 0 ≤ l ∧ l ≤ 256 ∧ (s = 0 ∨ n ≤ s ∧ s ≤ c) ∧ 0 ≤ k ∧ k ≤ 16 then 0 else 3
theorem e100 (hp : Only pm) (c o n l s k : Int) (H : AH) (K : Value → AH → Prop) : OK pm 100 ⟨[.agg ⟨[I c, I o, I n, I l, I s, I k]⟩]⟩ H K = K (I (errR c o n l s k)) (H.new 0 [I c, I o, I n, I l, I s, I k]) := by
 refine OK.eq ?_ K
 apply f100_ok hp
 simp only [f100R, letH_eq, new_load, Nat.zero_add, Nat.add_zero, List.getElem?_cons_zero, List.getElem?_cons_succ, obI_some, obB_some, ifB_J, join2_J, Bool.cond_false_right, Bool.cond_true_left, and_true]
 repeat' refine ifB_intro (fun h => ?_) (fun h => ?_)
 all_goals refine congrArg I ?_
 all_goals unfold errR
 all_goals simp only [Bool.or_eq_true, Bool.and_eq_true, Bool.or_eq_false_iff, Bool.and_eq_false_imp, decide_eq_true_eq, decide_eq_false_iff_not, beq_iff_eq, bne_iff_ne, beq_eq_false_iff_ne, bne_eq_false_iff_eq, Bool.not_eq_true', Bool.not_eq_false', Bool.cond_eq_ite, Bool.not_eq_true, Bool.not_eq_false, Bool.not_true, Bool.not_false] at *
 all_goals first | (rw [if_neg (by omega)]; done) | (rw [if_pos (by omega)]; done)
theorem e113 (hp : Only pm) (c o n l s k : Int) (H : AH) (K : Value → AH → Prop) : OK pm 113 ⟨[.agg ⟨[I c, I o, I n, I l, I s, I k]⟩]⟩ H K = K (I (errR c o n l s k)) (H.new 0 [I c, I o, I n, I l, I s, I k]) := by
 refine OK.eq ?_ K
 apply f113_ok hp
 simp only [f113R, letH_eq, new_load, Nat.zero_add, Nat.add_zero, List.getElem?_cons_zero, List.getElem?_cons_succ, obI_some, obB_some, ifB_J, join2_J, Bool.cond_false_right, Bool.cond_true_left, and_true]
 repeat' refine ifB_intro (fun h => ?_) (fun h => ?_)
 all_goals refine congrArg I ?_
 all_goals unfold errR
 all_goals simp only [Bool.or_eq_true, Bool.and_eq_true, Bool.or_eq_false_iff, Bool.and_eq_false_imp, decide_eq_true_eq, decide_eq_false_iff_not, beq_iff_eq, bne_iff_ne, beq_eq_false_iff_ne, bne_eq_false_iff_eq, Bool.not_eq_true', Bool.not_eq_false', Bool.cond_eq_ite, Bool.not_eq_true, Bool.not_eq_false, Bool.not_true, Bool.not_false] at *
 all_goals try (split at h <;> simp only [Bool.or_eq_true, Bool.and_eq_true, Bool.or_eq_false_iff, Bool.and_eq_false_imp, decide_eq_true_eq, decide_eq_false_iff_not, beq_iff_eq, bne_iff_ne, beq_eq_false_iff_ne, bne_eq_false_iff_eq, Bool.not_eq_true', Bool.not_eq_false', Bool.cond_eq_ite, Bool.not_eq_true, Bool.not_eq_false, Bool.not_true, Bool.not_false] at h)
 all_goals first | (rw [if_neg (by omega)]; done) | (rw [if_pos (by omega)]; done)
def errP (a b c : Int) : Int := if 1 ≤ a ∧ a ≤ 1000 ∧ 1 ≤ b ∧ b ≤ 1000 ∧ 1 ≤ c ∧ c ≤ 1000 then 0 else 3
theorem e65 (hp : Only pm) (a b c : Int) (H : AH) (K : Value → AH → Prop) : OK pm 65 ⟨[.agg ⟨[I a, I b, I c]⟩]⟩ H K = K (I (errP a b c)) (H.new 0 [I a, I b, I c]) := by
 refine OK.eq ?_ K
 apply f65_ok hp
 simp only [f65R, e96 hp, letH_eq, new_load, Nat.zero_add, Nat.add_zero, List.getElem?_cons_zero, List.getElem?_cons_succ, obI_some, obB_some, ifB_J, join2_J, Bool.cond_false_right, Bool.cond_true_left, and_true]
 repeat' refine ifB_intro (fun h => ?_) (fun h => ?_)
 all_goals refine congrArg I ?_
 all_goals unfold errP
 all_goals simp only [within', Bool.or_eq_true, Bool.and_eq_true, Bool.or_eq_false_iff, Bool.and_eq_false_imp, decide_eq_true_eq, decide_eq_false_iff_not, beq_iff_eq, bne_iff_ne, beq_eq_false_iff_ne, bne_eq_false_iff_eq, Bool.not_eq_true', Bool.not_eq_false', Bool.cond_eq_ite, Bool.not_eq_true, Bool.not_eq_false, Bool.not_true, Bool.not_false] at *
 all_goals first | (rw [if_neg (by omega)]; done) | (rw [if_pos (by omega)]; done)
theorem c78 (hp : Only pm) {a b c : Int} {H : AH} {Q : Value → AH → Prop} (hw : WF H) (hQ : ∀ H', Le H H' → Q (I (errP a b c)) H') : OK pm 78 ⟨[.agg ⟨[I a, I b, I c]⟩]⟩ H Q := by
 apply f78_ok hp
 simp only [f78R, letH_eq, new_load, Nat.zero_add, Nat.add_zero, List.getElem?_cons_zero, List.getElem?_cons_succ, obI_some, obB_some, ifB_J, join2_J, Bool.cond_false_right, Bool.cond_true_left, and_true]
 have hle := (new_le hw 0 [I a, I b, I c]).trans (new_le (new_wf hw 0 [I a, I b, I c]) 1 [I a, I b, I c])
 have hs : ∀ i : Nat, i < 3 → ((H.new 0 [I a, I b, I c]).new 1 [I a, I b, I c]).load (H.new 0 [I a, I b, I c]).next (0 + i * 1) = [I a, I b, I c][i]? := fun i _ => by rw [new_load]; congr 1; omega
 have step : ∀ i : Nat, i < 3 → ∀ x, [I a, I b, I c][i]? = some (I x) → (errP a b c = 0 → 1 ≤ x ∧ x ≤ 1000) → (¬ (1 ≤ x ∧ x ≤ 1000) → errP a b c = 3) →
   ((1 ≤ x ∧ x ≤ 1000) → f78L0 (OK pm) Q (some ⟨(H.new 0 [I a, I b, I c]).next, 0, none⟩) ((i : Int) + 1) ((H.new 0 [I a, I b, I c]).new 1 [I a, I b, I c])) →
   f78L0 (OK pm) Q (some ⟨(H.new 0 [I a, I b, I c]).next, 0, none⟩) (i : Int) ((H.new 0 [I a, I b, I c]).new 1 [I a, I b, I c]) := by
  intro i hi x hx _ h3 hn
  apply f78L0_step
  simp only [f78B0]
  rw [decide_eq_true (by omega), ifB_true, elemS_eq (by omega) (by omega), obA_some, Int.toNat_natCast, hs i hi, hx, obI_some]
  simp only [ifB_J, join2_J, Bool.cond_true_left]
  refine ifB_intro (fun h => ?_) (fun h => ?_)
  ·simp only [Bool.or_eq_true, Bool.and_eq_true, Bool.or_eq_false_iff, Bool.and_eq_false_imp, decide_eq_true_eq, decide_eq_false_iff_not, beq_iff_eq, bne_iff_ne, beq_eq_false_iff_ne, bne_eq_false_iff_eq, Bool.not_eq_true', Bool.not_eq_false', Bool.cond_eq_ite, Bool.not_eq_true, Bool.not_eq_false, Bool.not_true, Bool.not_false] at h
   rw [show (3 : Int) = errP a b c from (h3 (by omega)).symm]
   exact hQ _ hle
  ·simp only [Bool.or_eq_true, Bool.and_eq_true, Bool.or_eq_false_iff, Bool.and_eq_false_imp, decide_eq_true_eq, decide_eq_false_iff_not, beq_iff_eq, bne_iff_ne, beq_eq_false_iff_ne, bne_eq_false_iff_eq, Bool.not_eq_true', Bool.not_eq_false', Bool.cond_eq_ite, Bool.not_eq_true, Bool.not_eq_false, Bool.not_true, Bool.not_false] at h
   rw [wrap_of (by omega) (by omega)]
   exact hn (by omega)
 have fin : errP a b c = 0 → f78L0 (OK pm) Q (some ⟨(H.new 0 [I a, I b, I c]).next, 0, none⟩) 3 ((H.new 0 [I a, I b, I c]).new 1 [I a, I b, I c]) := by
  intro h0
  apply f78L0_step
  simp only [f78B0]
  rw [decide_eq_false (by omega), ifB_false, ← h0]
  exact hQ _ hle
 have e : errP a b c = if 1 ≤ a ∧ a ≤ 1000 ∧ 1 ≤ b ∧ b ≤ 1000 ∧ 1 ≤ c ∧ c ≤ 1000 then 0 else 3 := rfl
 refine step 0 (by omega) a rfl (fun h => ?_) (fun h => ?_) fun h0 => step 1 (by omega) b rfl (fun h => ?_) (fun h => ?_) fun h1 => step 2 (by omega) c rfl (fun h => ?_) (fun h => ?_) fun h2 => fin ?_
 all_goals first | (rw [e, if_neg (by omega)]; done) | (rw [e, if_pos (by omega)]; done) | (rw [e] at h; split at h <;> omega)
def okL (b e p w q t : Int) : Bool := decide (5 ≤ b ∧ b ≤ 9 ∧ 1 ≤ e ∧ e ≤ 64 ∧ 1 ≤ p ∧ p ≤ 1000 ∧ 1 ≤ w ∧ w ≤ 1000 ∧ 0 ≤ q ∧ q ≤ 1000 ∧ 1 ≤ t ∧ t ≤ 32)
theorem e123 (hp : Only pm) (b e p w q t : Int) (H : AH) (K : Value → AH → Prop) : OK pm 123 ⟨[.agg ⟨[I b, I e, I p, I w, I q, I t]⟩]⟩ H K = K (.bool (okL b e p w q t)) (H.new 0 [I b, I e, I p, I w, I q, I t]) := by
 refine OK.eq ?_ K
 apply f123_ok hp
 simp only [f123R, e151 hp, letH_eq, new_load, Nat.zero_add, Nat.add_zero, List.getElem?_cons_zero, List.getElem?_cons_succ, obI_some, obB_some, ifB_J, join2_J, Bool.cond_false_right, Bool.cond_true_left, and_true]
 refine congrArg Value.bool ?_
 unfold okL
 rw [Bool.eq_iff_iff]
 simp only [within', Bool.or_eq_true, Bool.and_eq_true, Bool.or_eq_false_iff, Bool.and_eq_false_imp, decide_eq_true_eq, decide_eq_false_iff_not, beq_iff_eq, bne_iff_ne, beq_eq_false_iff_ne, bne_eq_false_iff_eq, Bool.not_eq_true', Bool.not_eq_false', Bool.cond_eq_ite, Bool.not_eq_true, Bool.not_eq_false, Bool.not_true, Bool.not_false]
 omega
theorem e154 (hp : Only pm) (b e p w q t : Int) (H : AH) (K : Value → AH → Prop) : OK pm 154 ⟨[.agg ⟨[I b, I e, I p, I w, I q, I t]⟩]⟩ H K = K (.bool (okL b e p w q t)) (H.new 0 [I b, I e, I p, I w, I q, I t]) := by
 refine OK.eq ?_ K
 apply f154_ok hp
 simp only [f154R, e165 hp, e166 hp, letH_eq, new_load, Nat.zero_add, Nat.add_zero, List.getElem?_cons_zero, List.getElem?_cons_succ, obI_some, obB_some, ifB_J, join2_J, Bool.cond_false_right, Bool.cond_true_left, and_true]
 refine congrArg Value.bool ?_
 unfold okL
 rw [Bool.eq_iff_iff]
 simp only [within', Bool.or_eq_true, Bool.and_eq_true, Bool.or_eq_false_iff, Bool.and_eq_false_imp, decide_eq_true_eq, decide_eq_false_iff_not, beq_iff_eq, bne_iff_ne, beq_eq_false_iff_ne, bne_eq_false_iff_eq, Bool.not_eq_true', Bool.not_eq_false', Bool.cond_eq_ite, Bool.not_eq_true, Bool.not_eq_false, Bool.not_true, Bool.not_false]
 omega
def errB (m c w b wt : Int) (ok : Bool) : Int := if (m = 1 ∨ m = 2) ∧ 0 ≤ c ∧ c ≤ 3 then (if (c = 0 ∨ 1 ≤ w ∧ w ≤ 8) ∧ 5 ≤ b ∧ b ≤ 9 ∧ 1 ≤ wt ∧ wt ≤ 1000 ∧ ok = true then 0 else 3) else 7
theorem c97 (hp : Only pm) {m c w b wt l0 l1 l2 l3 l4 l5 : Int} {H : AH} {Q : Value → AH → Prop} (hw : WF H) (hQ : ∀ H', Le H H' → Q (I (errB m c w b wt (okL l0 l1 l2 l3 l4 l5))) H') : OK pm 97 ⟨[.agg ⟨[I m, I c, I w, I b, I wt, I l0, I l1, I l2, I l3, I l4, I l5]⟩]⟩ H Q := by
 apply f97_ok hp
 simp only [f97R, join2, e123 hp, letH_eq, new_load, Nat.reduceAdd, List.getElem?_cons_zero, List.getElem?_cons_succ, obI_some, obB_some]
 have a := new_le hw 0 [I m, I c, I w, I b, I wt, I l0, I l1, I l2, I l3, I l4, I l5]
 have a2 := a.trans (new_le a.wf 0 [I l0, I l1, I l2, I l3, I l4, I l5])
 repeat' refine ifB_intro (fun _ => ?_) (fun _ => ?_)
 all_goals simp only [Bool.or_eq_true, Bool.and_eq_true, Bool.or_eq_false_iff, Bool.and_eq_false_imp, decide_eq_true_eq, decide_eq_false_iff_not, beq_iff_eq, bne_iff_ne, beq_eq_false_iff_ne, bne_eq_false_iff_eq, Bool.not_eq_true', Bool.not_eq_false', Bool.cond_eq_ite, Bool.not_eq_true, Bool.not_eq_false, Bool.not_true, Bool.not_false] at *
 all_goals first
  | refine cast (congrArg (fun x => Q (I x) _) ?_) (hQ _ a)
  | refine cast (congrArg (fun x => Q (I x) _) ?_) (hQ _ a2)
 all_goals unfold errB
 all_goals first
  | (exfalso; simp at *; done)
  | (rw [if_neg (by omega)]; done)
  | (rw [if_pos (by omega), if_neg (by simp_all <;> omega)]; done)
  | (rw [if_pos (by omega), if_pos (by simp_all <;> omega)]; done)
theorem c132 (hp : Only pm) {m c w b wt l0 l1 l2 l3 l4 l5 : Int} {H : AH} {Q : Value → AH → Prop} (hw : WF H) (hQ : ∀ H', Le H H' → Q (I (errB m c w b wt (okL l0 l1 l2 l3 l4 l5))) H') : OK pm 132 ⟨[.agg ⟨[I m, I c, I w, I b, I wt, I l0, I l1, I l2, I l3, I l4, I l5]⟩]⟩ H Q := by
 apply f132_ok hp
 simp only [f132R, join2, e154 hp, letH_eq, new_load, Nat.reduceAdd, List.getElem?_cons_zero, List.getElem?_cons_succ, obI_some, obB_some]
 have a := new_le hw 0 [I m, I c, I w, I b, I wt, I l0, I l1, I l2, I l3, I l4, I l5]
 have a2 := a.trans (new_le a.wf 0 [I l0, I l1, I l2, I l3, I l4, I l5])
 repeat' refine ifB_intro (fun _ => ?_) (fun _ => ?_)
 all_goals simp only [Bool.or_eq_true, Bool.and_eq_true, Bool.or_eq_false_iff, Bool.and_eq_false_imp, decide_eq_true_eq, decide_eq_false_iff_not, beq_iff_eq, bne_iff_ne, beq_eq_false_iff_ne, bne_eq_false_iff_eq, Bool.not_eq_true', Bool.not_eq_false', Bool.cond_eq_ite, Bool.not_eq_true, Bool.not_eq_false, Bool.not_true, Bool.not_false] at *
 all_goals first
  | refine cast (congrArg (fun x => Q (I x) _) ?_) (hQ _ a)
  | refine cast (congrArg (fun x => Q (I x) _) ?_) (hQ _ a2)
 all_goals unfold errB
 all_goals first
  | (exfalso; simp at *; done)
  | (rw [if_neg (by omega)]; done)
  | (rw [if_pos (by omega), if_neg (by simp_all <;> omega)]; done)
  | (rw [if_pos (by omega), if_pos (by simp_all <;> omega)]; done)
end
end AM
end Go.Proofs.YtemcmblcogljkaaGreatDoor

namespace Go.Proofs.YtemcmblcogljkaaGreatDoor
namespace AM
open Go
def Rd (H : AH) (sz : Nat) (b : Option Addr) (n : Nat) (L : List (List Value)) : Prop :=
 n = L.length ∧ ∀ i r, L[i]? = some r → ∃ h j, b = some ⟨h, j, none⟩ ∧ ∀ k, k < sz → H.load h (j + i * sz + k) = r[k]? ∧ (r[k]?).isSome = true
theorem Rd.le {H H' : AH} (hw : WF H) (hk : Le H H') {sz : Nat} {b : Option Addr} {n : Nat} {L : List (List Value)} (hr : Rd H sz b n L) : Rd H' sz b n L := by
 refine ⟨hr.1, fun i r hi => ?_⟩
 obtain ⟨h, j, h1, h2⟩ := hr.2 i r hi
 refine ⟨h, j, h1, fun k hk' => ?_⟩
 obtain ⟨h3, h4⟩ := h2 k hk'
 refine ⟨?_, h4⟩
 obtain ⟨v, hv⟩ := Option.isSome_iff_exists.1 h4
 rw [hv] at h3 ⊢
 exact hk.load hw h3
theorem Rd.elem {H : AH} {sz : Nat} {b : Option Addr} {n k : Nat} {L : List (List Value)} (hr : Rd H sz b n L) {i : Nat} {r : List Value} (hi : L[i]? = some r) {kk : IntKind} :
  ∃ h j, elemS sz (.slice b n k) (.int kk (i : Int)) = some (.pointer (some ⟨h, j, none⟩)) ∧ ∀ k, k < sz → H.load h (j + k) = r[k]? := by
 obtain ⟨h, j, h1, h2⟩ := hr.2 i r hi
 have hlt : i < n := by rw [hr.1]; exact (List.getElem?_eq_some_iff.1 hi).1
 refine ⟨h, j + i * sz, ?_, fun k hk => (h2 k hk).1⟩
 rw [h1, elemS_eq (by omega) (by omega), Int.toNat_natCast]
theorem over {H : AH} (hw : WF H) (sz : Nat) {zs vs : List Value} (hl : vs.length = zs.length) (hv : ∀ v ∈ vs, oneCell v = true) :
  ∃ H', (H.new sz zs).storeN H.next 0 vs = some H' ∧ Le H H' ∧ (∀ j, H'.load H.next j = vs[j]?) ∧ H'.next = H.next + 1 := by
 obtain ⟨H', h1, h2, _, h4, h5⟩ := storeN_ok (new_wf hw sz zs) (new_own H sz zs) (i := 0) (vs := vs) (by omega) hv
 refine ⟨H', h1, ?_, fun j => ?_, h4⟩
 ·refine Keep.trans (new_le hw sz zs) h2 fun g hg hh => ?_
  rw [new_root] at hh; omega
 ·rw [h5]
  by_cases h : 0 ≤ j ∧ j < 0 + vs.length
  ·rw [if_pos h]; rfl
  ·rw [if_neg h, new_load, List.getElem?_eq_none (by omega), List.getElem?_eq_none (by omega)]
def recs (L : List (List Int)) : List (List Value) := L.map fun r => r.map I
theorem recs_get {L : List (List Int)} {i : Nat} {r : List Int} (h : L[i]? = some r) : (recs L)[i]? = some (r.map I) := by simp [recs, h]
section
variable {pm : Prims}
def okK : List Int → Bool
 | [p, r, m, t] => decide (0 ≤ p ∧ p ≤ 15 ∧ 0 ≤ r ∧ r ≤ 1048576 ∧ 0 ≤ m ∧ m ≤ 1048576 ∧ -1048576 ≤ t ∧ t ≤ m)
 | _ => false
def okKs (l : List (List Int)) : Bool := decide (l.length ≤ 8) && l.all okK
theorem four {r : List Int} (h : r.length = 4) : ∃ a b c d, r = [a, b, c, d] := by
 match r, h with
 | [a, b, c, d], _ => exact ⟨a, b, c, d, rfl⟩
theorem c98 (hp : Only pm) {l : List (List Int)} (hl : ∀ r ∈ l, r.length = 4) {b : Option Addr} {n k : Nat} {H : AH} {Q : Value → AH → Prop} (hn : n < 4611686018427387904) (hw : WF H) (hr : Rd H 4 b n (recs l)) (hQ : ∀ H', Le H H' → Q (.bool (okKs l)) H') : OK pm 98 ⟨[.slice b n k]⟩ H Q := by
 apply f98_ok hp
 have hnl : n = l.length := by have := hr.1; simpa [recs] using this
 have key : ∀ d i G, i + d = n → WF G → Le H G → (∀ r ∈ l.take i, okK r = true) → f98L0 (OK pm) Q b n k (i : Int) G := by
  intro d
  induction d with
  | zero =>
   intro i G hi hg hle hall
   apply f98L0_step
   simp only [f98B0]
   rw [decide_eq_false (by omega), ifB_false]
   refine cast (congrArg (fun x => Q (.bool x) _) ?_) (hQ G hle)
   unfold okKs
   rw [List.take_of_length_le (by omega)] at hall
   rw [List.all_eq_true.2 hall, Bool.and_true, Bool.eq_iff_iff]
   simp only [decide_eq_true_eq]
   omega
  | succ d ih =>
   intro i G hi hg hle hall
   obtain ⟨r, hir⟩ : ∃ r, l[i]? = some r := ⟨_, List.getElem?_eq_getElem (by omega)⟩
   obtain ⟨p, q, m, t, rfl⟩ := four (hl r (List.mem_of_getElem? hir))
   obtain ⟨h, j, e1, e2⟩ := (hr.le hw hle).elem (k := k) (recs_get hir) (kk := .i64)
   apply f98L0_step
   simp only [f98B0]
   rw [decide_eq_true (by omega), ifB_true, e1, obA_some]
   rw [e2 0 (by omega), e2 1 (by omega), e2 2 (by omega), e2 3 (by omega)]
   obtain ⟨G', g1, g2, g3, g4⟩ := over hg 0 (zs := [I 0, I 0, I 0, I 0]) (vs := [I p, I q, I m, I t]) rfl (by simp [oneCell])
   simp only [List.map_cons, List.map_nil, List.getElem?_cons_zero, List.getElem?_cons_succ, obI_some, letH_eq]
   rw [g1, obH_some]
   simp only [Nat.zero_add, g3, List.getElem?_cons_zero, List.getElem?_cons_succ, obI_some, ifB_J, join2_J, Bool.cond_true_left]
   refine ifB_intro (fun hc => ?_) (fun hc => ?_)
   ·refine cast (congrArg (fun x => Q (.bool x) _) ?_) (hQ G' (hle.trans g2))
    have : okK [p, q, m, t] = false := by
     unfold okK
     simp only [Bool.or_eq_true, decide_eq_true_eq] at hc
     rw [decide_eq_false_iff_not]; omega
    unfold okKs
    rw [Bool.and_eq_false_imp]
    intro _
    rw [List.all_eq_false]
    exact ⟨_, List.mem_of_getElem? hir, by rw [this]; simp⟩
   ·rw [wrap_of (by omega) (by omega)]
    refine ih (i + 1) G' (by omega) g2.wf (hle.trans g2) fun r hr' => ?_
    rw [List.take_add_one, hir] at hr'
    rcases List.mem_append.1 hr' with hr' | hr'
    ·exact hall r hr'
    ·simp only [Option.toList_some, List.mem_singleton] at hr'
     subst hr'
     unfold okK
     simp only [Bool.or_eq_false_iff, decide_eq_false_iff_not] at hc
     rw [decide_eq_true_eq]; omega
 simp only [f98R]
 exact key n 0 H (by omega) hw (Keep.refl hw) fun r hr => by simp at hr
theorem e134 (hp : Only pm) (p q m t : Int) (H : AH) (K : Value → AH → Prop) : OK pm 134 ⟨[.agg ⟨[I p, I q, I m, I t]⟩]⟩ H K = K (.bool (!okK [p, q, m, t])) (H.new 0 [I p, I q, I m, I t]) := by
 refine OK.eq ?_ K
 apply f134_ok hp
 simp only [f134R, e135 hp, letH_eq, new_load, Nat.zero_add, Nat.add_zero, List.getElem?_cons_zero, List.getElem?_cons_succ, obI_some, obB_some, ifB_J, join2_J, Bool.cond_false_right, Bool.cond_true_left, and_true]
 refine congrArg Value.bool ?_
 rw [Bool.eq_iff_iff]
 unfold okK within'
 simp only [Bool.or_eq_true, Bool.not_eq_true', decide_eq_false_iff_not]
 omega
theorem c155 (hp : Only pm) {l : List (List Int)} (hl : ∀ r ∈ l, r.length = 4) {b : Option Addr} {n k : Nat} {H : AH} {Q : Value → AH → Prop} (hn : n < 4611686018427387904) (hw : WF H) (hr : Rd H 4 b n (recs l)) (hQ : ∀ H' x, Le H H' → decide (x ≥ 0) = !(l.all okK) → Q (I x) H') : OK pm 155 ⟨[.slice b n k, .func (.func 134) ⟨[]⟩ ⟨[]⟩]⟩ H Q := by
 apply f155_ok hp
 have hnl : n = l.length := by have := hr.1; simpa [recs] using this
 have key : ∀ d i G, i + d = n → WF G → Le H G → (∀ r ∈ l.take i, okK r = true) → f155L0 (OK pm) Q b n k (n : Int) (i : Int) G := by
  intro d
  induction d with
  | zero =>
   intro i G hi hg hle hall
   apply f155L0_step
   simp only [f155B0]
   rw [decide_eq_false (by omega), ifB_false]
   refine hQ G _ hle ?_
   rw [List.take_of_length_le (by omega)] at hall
   rw [List.all_eq_true.2 hall]; rfl
  | succ d ih =>
   intro i G hi hg hle hall
   obtain ⟨r, hir⟩ : ∃ r, l[i]? = some r := ⟨_, List.getElem?_eq_getElem (by omega)⟩
   obtain ⟨p, q, m, t, rfl⟩ := four (hl r (List.mem_of_getElem? hir))
   obtain ⟨h, j, e1, e2⟩ := (hr.le hw hle).elem (k := k) (recs_get hir) (kk := .i64)
   apply f155L0_step
   simp only [f155B0]
   rw [decide_eq_true (by omega), ifB_true, e1, obA_some]
   rw [e2 0 (by omega), e2 1 (by omega), e2 2 (by omega), e2 3 (by omega)]
   simp only [List.map_cons, List.map_nil, List.getElem?_cons_zero, List.getElem?_cons_succ, obI_some, e134 hp, obB_some]
   have hle2 := hle.trans (new_le hg 0 [I p, I q, I m, I t])
   refine ifB_intro (fun hc => ?_) (fun hc => ?_)
   ·refine hQ _ _ hle2 ?_
    have : okK [p, q, m, t] = false := by simpa using hc
    have : l.all okK = false := by rw [List.all_eq_false]; exact ⟨_, List.mem_of_getElem? hir, by rw [this]; simp⟩
    rw [this]; simp
   ·rw [wrap_of (by omega) (by omega)]
    refine ih (i + 1) _ (by omega) (new_wf hg _ _) hle2 fun r hr' => ?_
    rw [List.take_add_one, hir] at hr'
    rcases List.mem_append.1 hr' with hr' | hr'
    ·exact hall r hr'
    ·simp only [Option.toList_some, List.mem_singleton] at hr'
     subst hr'
     simpa using hc
 simp only [f155R]
 exact key n 0 H (by omega) hw (Keep.refl hw) fun r hr => by simp at hr
theorem c111 (hp : Only pm) {l : List (List Int)} (hl : ∀ r ∈ l, r.length = 4) {b : Option Addr} {n k : Nat} {H : AH} {Q : Value → AH → Prop} (hn : n < 4611686018427387904) (hw : WF H) (hr : Rd H 4 b n (recs l)) (hQ : ∀ H', Le H H' → Q (.bool (okKs l)) H') : OK pm 111 ⟨[.slice b n k]⟩ H Q := by
 have hnl : n = l.length := by have := hr.1; simpa [recs] using this
 apply f111_ok hp
 simp only [f111R, join2]
 refine ifB_intro (fun hc => ?_) (fun hc => ?_)
 ·apply f133_ok hp
  simp only [f133R]
  refine c155 hp hl hn hw hr fun H' x hle hx => ?_
  rw [obI_some, obB_some]
  refine cast (congrArg (fun x => Q (.bool x) _) ?_) (hQ H' hle)
  rw [hx, Bool.not_not]
  unfold okKs
  simp only [decide_eq_true_eq] at hc
  rw [decide_eq_true (by omega), Bool.true_and]
 ·refine cast (congrArg (fun x => Q (.bool x) _) ?_) (hQ H (Keep.refl hw))
  unfold okKs
  simp only [decide_eq_false_iff_not] at hc
  rw [decide_eq_false (by omega), Bool.false_and]
theorem c99 (hp : Only pm) {f w x : Int} {b : Option Addr} {k : Nat} {H : AH} {Q : Value → AH → Prop} (hw : WF H) (hr : Rd H 3 b 1 [[I f, I w, I x]]) (hQ : ∀ H', Le H H' → Q (I (if okG f w x = true then 0 else 3)) H') : OK pm 99 ⟨[.slice b 1 k]⟩ H Q := by
 apply f99_ok hp
 simp only [f99R]
 rw [decide_eq_false (by omega), ifB_false]
 apply f99L0_step
 simp only [f99B0]
 obtain ⟨h, j, e1, e2⟩ := hr.elem (k := k) (i := 0) (r := [I f, I w, I x]) rfl (kk := .i64)
 rw [decide_eq_true (by omega), ifB_true, show elemS 3 (.slice b 1 k) (.int .i64 0) = _ from e1, obA_some]
 rw [e2 0 (by omega), e2 1 (by omega), e2 2 (by omega)]
 simp only [List.getElem?_cons_zero, List.getElem?_cons_succ, obI_some]
 refine c124 hp hw fun H' hle => ?_
 rw [obB_some, ifB_not]
 refine ifB_intro (fun hc => ?_) (fun hc => ?_)
 ·rw [wrap_of (by omega) (by omega)]
  show f99L0 (OK pm) Q b 1 k (0 + 1) H'
  apply f99L0_step
  simp only [f99B0]
  rw [decide_eq_false (by omega), ifB_false]
  have := hQ H' hle
  rwa [if_pos hc] at this
 ·have := hQ H' hle
  rwa [if_neg (by simp [hc])] at this
theorem c112 (hp : Only pm) {f w x : Int} {b : Option Addr} {k : Nat} {H : AH} {Q : Value → AH → Prop} (hw : WF H) (hr : Rd H 3 b 1 [[I f, I w, I x]]) (hQ : ∀ H', Le H H' → Q (I (if okG f w x = true then 0 else 3)) H') : OK pm 112 ⟨[.slice b 1 k]⟩ H Q := by
 apply f112_ok hp
 simp only [f112R]
 rw [decide_eq_false (by omega), ifB_false]
 apply f112L0_step
 simp only [f112B0]
 obtain ⟨h, j, e1, e2⟩ := hr.elem (k := k) (i := 0) (r := [I f, I w, I x]) rfl (kk := .i64)
 rw [decide_eq_true (by omega), ifB_true, show elemS 3 (.slice b 1 k) (.int .i64 0) = _ from e1, obA_some]
 rw [e2 0 (by omega), e2 1 (by omega), e2 2 (by omega)]
 obtain ⟨G', g1, g2, g3, g4⟩ := over hw 0 (zs := [I 0, I 0, I 0]) (vs := [I f, I w, I x]) rfl (by simp [oneCell])
 simp only [List.getElem?_cons_zero, List.getElem?_cons_succ, obI_some, letH_eq]
 rw [g1, obH_some]
 simp only [Nat.zero_add, g3, List.getElem?_cons_zero, List.getElem?_cons_succ, obI_some]
 refine c136 hp g2.wf fun H' hle => ?_
 rw [obB_some, ifB_not]
 refine ifB_intro (fun hc => ?_) (fun hc => ?_)
 ·rw [wrap_of (by omega) (by omega)]
  show f112L0 (OK pm) Q b 1 k ((1 : Nat) : Int) (0 + 1) H'
  apply f112L0_step
  simp only [f112B0]
  rw [decide_eq_false (by omega), ifB_false]
  have := hQ H' (g2.trans hle)
  rwa [if_pos hc] at this
 ·have := hQ H' (g2.trans hle)
  rwa [if_neg (by simp [hc])] at this
end
end AM
end Go.Proofs.YtemcmblcogljkaaGreatDoor

