/- The abstract machine: how its heap stands for a world. The abstract machine: steps of its heap beside steps of a world. -/
import Derived.Test.YtemcmblcogljkaaGreatDoorMa
set_option linter.all false
set_option linter.unusedSimpArgs false
set_option linter.unusedVariables false
namespace Go.Proofs.YtemcmblcogljkaaGreatDoor
namespace AM
open Go
abbrev Rho := Nat → Option (Nat × Nat)
def Room (w : World) (c off n : Nat) : Prop := ∃ arr e fr, w.heap[c]? = some (.cells arr e fr) ∧ off + n ≤ arr.size
inductive VR (ρ : Rho) (H : AH) (w : World) : Value → Value → Prop
 | bool (b : Bool) : VR ρ H w (.bool b) (.bool b)
 | int (k : IntKind) (n : Int) : VR ρ H w (.int k n) (.int k n)
 | string (s : ByteArray) : VR ρ H w (.string s) (.string s)
 | ptrNil : VR ρ H w (.pointer none) (.pointer none)
 | ptr (h i c s : Nat) (hρ : ρ h = some (c, s)) (hs : s ≤ i) : VR ρ H w (.pointer (some ⟨h, i, none⟩)) (.pointer (some ⟨c, i - s, none⟩))
 | slcNil : VR ρ H w (.slice none 0 0) (.slice none 0 0)
 | slc (h i len cap c s : Nat) (a' : Addr) (cap' : Nat) (hρ : ρ h = some (c, s)) (hs : s ≤ i) (hl : len ≤ cap) (hc : cap ≤ cap') (ha : 0 < cap' → a' = ⟨c, i - s, none⟩)
   (hroom : ∀ r, H.rows.get h = some r → r.sz = 0 ∨ Room w c (i - s) (cap' * r.sz)) : VR ρ H w (.slice (some ⟨h, i, none⟩) len cap) (.slice (some a') len cap')
 | nilFunc : VR ρ H w .nilFunc .nilFunc
 | nilIface : VR ρ H w .nilIface .nilIface
 | iface (t : TypeId) (v v' : Value) (h : VR ρ H w v v') : VR ρ H w (.iface t v) (.iface t v')
 | tok (t : TypeId) (v' : Value) : VR ρ H w (.iface 0 (.tuple #[])) (.iface t v')
 | func (f : Fn) (a b a' b' : List Value) (ha : a.length = a'.length) (ha' : ∀ (i : Nat) (v v' : Value), a[i]? = some v → a'[i]? = some v' → VR ρ H w v v')
   (hb : b.length = b'.length) (hb' : ∀ (i : Nat) (v v' : Value), b[i]? = some v → b'[i]? = some v' → VR ρ H w v v') : VR ρ H w (.func f ⟨a⟩ ⟨b⟩) (.func f ⟨a'⟩ ⟨b'⟩)
 | agg (a a' : List Value) (ha : a.length = a'.length) (ha' : ∀ (i : Nat) (v v' : Value), a[i]? = some v → a'[i]? = some v' → VR ρ H w v v') : VR ρ H w (.agg ⟨a⟩) (.agg ⟨a'⟩)
 | tuple (a a' : List Value) (ha : a.length = a'.length) (ha' : ∀ (i : Nat) (v v' : Value), a[i]? = some v → a'[i]? = some v' → VR ρ H w v v') : VR ρ H w (.tuple ⟨a⟩) (.tuple ⟨a'⟩)
def VRs (ρ : Rho) (H : AH) (w : World) (l l' : List Value) : Prop := l.length = l'.length ∧ ∀ (i : Nat) (v v' : Value), l[i]? = some v → l'[i]? = some v' → VR ρ H w v v'
theorem VRs.nil {ρ : Rho} {H : AH} {w : World} : VRs ρ H w [] [] := ⟨rfl, fun i v v' h => by simp at h⟩
theorem VRs.cons {ρ : Rho} {H : AH} {w : World} {v v' : Value} {l l' : List Value} (h : VR ρ H w v v') (hl : VRs ρ H w l l') : VRs ρ H w (v :: l) (v' :: l') := by
 refine ⟨by simp [hl.1], fun i x x' hx hx' => ?_⟩
 cases i with
 | zero => simp at hx hx'; subst hx; subst hx'; exact h
 | succ i => exact hl.2 i x x' (by simpa using hx) (by simpa using hx')
theorem VRs.head {ρ : Rho} {H : AH} {w : World} {v v' : Value} {l l' : List Value} (h : VRs ρ H w (v :: l) (v' :: l')) : VR ρ H w v v' := h.2 0 v v' rfl rfl
theorem VRs.tail {ρ : Rho} {H : AH} {w : World} {v v' : Value} {l l' : List Value} (h : VRs ρ H w (v :: l) (v' :: l')) : VRs ρ H w l l' :=
 ⟨by have := h.1; simpa using this, fun i x x' hx hx' => h.2 (i + 1) x x' (by simpa using hx) (by simpa using hx')⟩
theorem VRs.cons_inv {ρ : Rho} {H : AH} {w : World} {v : Value} {l l' : List Value} (h : VRs ρ H w (v :: l) l') : ∃ v' r, l' = v' :: r ∧ VR ρ H w v v' ∧ VRs ρ H w l r := by
 cases l' with
 | nil => have := h.1; simp at this
 | cons v' r => exact ⟨v', r, rfl, h.head, h.tail⟩
theorem VRs.nil_inv {ρ : Rho} {H : AH} {w : World} {l' : List Value} (h : VRs ρ H w [] l') : l' = [] := by
 have := h.1; exact List.eq_nil_of_length_eq_zero (by simpa using this.symm)
theorem VRs.append {ρ : Rho} {H : AH} {w : World} {l l' m m' : List Value} (h : VRs ρ H w l l') (k : VRs ρ H w m m') : VRs ρ H w (l ++ m) (l' ++ m') := by
 refine ⟨by simp [h.1, k.1], fun i x x' hx hx' => ?_⟩
 rcases Nat.lt_or_ge i l.length with hi | hi
 ·rw [List.getElem?_append_left hi] at hx
  rw [List.getElem?_append_left (by rw [← h.1]; exact hi)] at hx'
  exact h.2 i x x' hx hx'
 ·rw [List.getElem?_append_right hi] at hx
  rw [List.getElem?_append_right (by rw [← h.1]; exact hi), ← h.1] at hx'
  exact k.2 _ x x' hx hx'
theorem VRs.take {ρ : Rho} {H : AH} {w : World} {l l' : List Value} (h : VRs ρ H w l l') (n : Nat) : VRs ρ H w (l.take n) (l'.take n) := by
 refine ⟨by simp [h.1], fun i x x' hx hx' => ?_⟩
 rw [List.getElem?_take] at hx hx'
 split at hx
 ·rename_i hi; rw [if_pos hi] at hx'; exact h.2 i x x' hx hx'
 ·cases hx
theorem VRs.drop {ρ : Rho} {H : AH} {w : World} {l l' : List Value} (h : VRs ρ H w l l') (n : Nat) : VRs ρ H w (l.drop n) (l'.drop n) := by
 refine ⟨by simp [h.1], fun i x x' hx hx' => ?_⟩
 rw [List.getElem?_drop] at hx hx'
 exact h.2 _ x x' hx hx'
theorem VRs.get {ρ : Rho} {H : AH} {w : World} {l l' : List Value} (h : VRs ρ H w l l') {i : Nat} {v : Value} (hv : l[i]? = some v) : ∃ v', l'[i]? = some v' ∧ VR ρ H w v v' := by
 have hi : i < l.length := (List.getElem?_eq_some_iff.1 hv).1
 have hi' : i < l'.length := by rw [← h.1]; exact hi
 exact ⟨l'[i], List.getElem?_eq_getElem hi', h.2 i v _ hv (List.getElem?_eq_getElem hi')⟩
theorem VR.mono {ρ ρ' : Rho} {H H' : AH} {w w' : World} (hρ : ∀ h x, ρ h = some x → ρ' h = some x) (hr : ∀ h x r, ρ h = some x → H'.rows.get h = some r → H.rows.get h = some r)
  (hw : ∀ c off n, Room w c off n → Room w' c off n) {v v' : Value} (h : VR ρ H w v v') : VR ρ' H' w' v v' := by
 induction h with
 | bool b => exact .bool b
 | int k n => exact .int k n
 | string s => exact .string s
 | ptrNil => exact .ptrNil
 | ptr h i c s h1 h2 => exact .ptr h i c s (hρ _ _ h1) h2
 | slcNil => exact .slcNil
 | slc h i len cap c s a' cap' h1 h2 h3 h4 h5 h6 => exact .slc h i len cap c s a' cap' (hρ _ _ h1) h2 h3 h4 h5 fun r hg => (h6 r (hr _ _ _ h1 hg)).imp id (hw _ _ _)
 | nilFunc => exact .nilFunc
 | nilIface => exact .nilIface
 | iface t v v' _ ih => exact .iface t v v' ih
 | tok t v' => exact .tok t v'
 | func f a b a' b' ha _ hb _ iha ihb => exact .func f a b a' b' ha iha hb ihb
 | agg a a' ha _ iha => exact .agg a a' ha iha
 | tuple a a' ha _ iha => exact .tuple a a' ha iha
mutual
theorem flat_refl {ρ : Rho} {H : AH} {w : World} : ∀ (v : Value), flat v = true → VR ρ H w v v
 | .bool b, _ => .bool b
 | .int k n, _ => .int k n
 | .string s, _ => .string s
 | .pointer none, _ => .ptrNil
 | .nilFunc, _ => .nilFunc
 | .nilIface, _ => .nilIface
 | .slice none 0 0, _ => .slcNil
 | .func (.func f) a b, h => by
  simp only [flat, Bool.and_eq_true] at h
  have h1 := flatA_refl (ρ := ρ) (H := H) (w := w) a h.1
  have h2 := flatA_refl (ρ := ρ) (H := H) (w := w) b h.2
  obtain ⟨a⟩ := a
  obtain ⟨b⟩ := b
  exact .func _ a b a b rfl h1.2 rfl h2.2
 | .agg cs, h => by
  have h1 := flatA_refl (ρ := ρ) (H := H) (w := w) cs (by simpa only [flat] using h)
  obtain ⟨l⟩ := cs
  exact .agg l l rfl h1.2
 | .tuple cs, h => by
  have h1 := flatA_refl (ρ := ρ) (H := H) (w := w) cs (by simpa only [flat] using h)
  obtain ⟨l⟩ := cs
  exact .tuple l l rfl h1.2
 | .pointer (some _), h => by simp [flat] at h
 | .slice (some _) _ _, h => by simp [flat] at h
 | .slice none (_ + 1) _, h => by simp [flat] at h
 | .slice none 0 (_ + 1), h => by simp [flat] at h
 | .float _ _, h => by simp [flat] at h
 | .complex _ _ _, h => by simp [flat] at h
 | .map _, h => by simp [flat] at h
 | .chan _, h => by simp [flat] at h
 | .iface _ _, h => by simp [flat] at h
 | .func (.method _) _ _, h => by simp [flat] at h
 | .func (.methodOf _ _) _ _, h => by simp [flat] at h
 | .func (.via _ _ _ _) _ _, h => by simp [flat] at h
 | .func (.yield _) _ _, h => by simp [flat] at h
theorem flatA_refl {ρ : Rho} {H : AH} {w : World} : ∀ (cs : Array Value), flatA cs = true → VRs ρ H w cs.toList cs.toList
 | ⟨l⟩, h => flatL_refl l (by simpa only [flatA] using h)
theorem flatL_refl {ρ : Rho} {H : AH} {w : World} : ∀ (l : List Value), flatL l = true → VRs ρ H w l l
 | [], _ => .nil
 | v :: r, h => by
  simp only [flatL, Bool.and_eq_true] at h
  exact .cons (flat_refl v h.1) (flatL_refl r h.2)
end
theorem flatL_get {l : List Value} (h : flatL l = true) {i : Nat} {v : Value} (hv : l[i]? = some v) : flat v = true := by
 induction l generalizing i with
 | nil => simp at hv
 | cons x r ih =>
  simp only [flatL, Bool.and_eq_true] at h
  cases i with
  | zero => simp at hv; exact hv ▸ h.1
  | succ i => exact ih h.2 (by simpa using hv)
theorem list_same {l l' : List Value} (hl : l.length = l'.length) (h : ∀ (i : Nat) (v v' : Value), l[i]? = some v → l'[i]? = some v' → v' = v) : l' = l := by
 apply List.ext_getElem?
 intro i
 rcases Nat.lt_or_ge i l.length with hi | hi
 ·rw [List.getElem?_eq_getElem hi, List.getElem?_eq_getElem (by rw [← hl]; exact hi)]
  exact congrArg some (h i _ _ (List.getElem?_eq_getElem hi) (List.getElem?_eq_getElem (by rw [← hl]; exact hi)))
 ·rw [List.getElem?_eq_none hi, List.getElem?_eq_none (by rw [← hl]; exact hi)]
theorem VR.flat {ρ : Rho} {H : AH} {w : World} {v v' : Value} (h : VR ρ H w v v') : AM.flat v = true → v' = v := by
 induction h with
 | bool b => exact fun _ => rfl
 | int k n => exact fun _ => rfl
 | string s => exact fun _ => rfl
 | ptrNil => exact fun _ => rfl
 | ptr h i c s h1 h2 => intro hf; simp [AM.flat] at hf
 | slcNil => exact fun _ => rfl
 | slc => intro hf; simp [AM.flat] at hf
 | nilFunc => exact fun _ => rfl
 | nilIface => exact fun _ => rfl
 | iface t v v' _ ih => intro hf; simp [AM.flat] at hf
 | tok t v' => intro hf; simp [AM.flat] at hf
 | func f a b a' b' ha _ hb _ iha ihb =>
  intro hf
  cases f with
  | func g =>
   simp only [AM.flat, flatA, Bool.and_eq_true] at hf
   rw [list_same ha fun i v v' h1 h2 => iha i v v' h1 h2 (flatL_get hf.1 h1), list_same hb fun i v v' h1 h2 => ihb i v v' h1 h2 (flatL_get hf.2 h1)]
  | _ => simp [AM.flat] at hf
 | agg a a' ha _ iha =>
  intro hf
  simp only [AM.flat, flatA] at hf
  rw [list_same ha fun i v v' h1 h2 => iha i v v' h1 h2 (flatL_get hf h1)]
 | tuple a a' ha _ iha =>
  intro hf
  simp only [AM.flat, flatA] at hf
  rw [list_same ha fun i v v' h1 h2 => iha i v v' h1 h2 (flatL_get hf h1)]
theorem VRs.flat {ρ : Rho} {H : AH} {w : World} {l l' : List Value} (h : VRs ρ H w l l') (hf : flatL l = true) : l' = l :=
 list_same h.1 fun i v v' h1 h2 => (h.2 i v v' h1 h2).flat (flatL_get hf h1)
theorem VR.oneCell {ρ : Rho} {H : AH} {w : World} {v v' : Value} (h : VR ρ H w v v') : AM.oneCell v' = AM.oneCell v := by cases h <;> rfl
theorem VR.cells {ρ : Rho} {H : AH} {w : World} {v v' : Value} (h : VR ρ H w v v') : VRs ρ H w v.cells.toList v'.cells.toList := by
 cases h with
 | agg a a' ha ha' => exact ⟨ha, ha'⟩
 | bool b => exact .cons (.bool b) .nil
 | int k n => exact .cons (.int k n) .nil
 | string s => exact .cons (.string s) .nil
 | ptrNil => exact .cons .ptrNil .nil
 | ptr h i c s h1 h2 => exact .cons (.ptr h i c s h1 h2) .nil
 | slcNil => exact .cons .slcNil .nil
 | slc h i len cap c s a' cap' h1 h2 h3 h4 h5 h6 => exact .cons (.slc h i len cap c s a' cap' h1 h2 h3 h4 h5 h6) .nil
 | nilFunc => exact .cons .nilFunc .nil
 | nilIface => exact .cons .nilIface .nil
 | iface t v v' h => exact .cons (.iface t v v' h) .nil
 | tok t v' => exact .cons (.tok t v') .nil
 | func f a b a' b' ha ha' hb hb' => exact .cons (.func f a b a' b' ha ha' hb hb') .nil
 | tuple a a' ha ha' => exact .cons (.tuple a a' ha ha') .nil
structure Rel (pr : Nat → Prop) (w0 : World) (ρ : Rho) (H : AH) (w : World) : Prop where
 lt : ∀ h x, ρ h = some x → h < H.next
 row : ∀ h c s, ρ h = some (c, s) → ∃ r f arr e fr, H.rows.get h = some r ∧ H.fams.get r.root = some f ∧ w.heap[c]? = some (.cells arr e fr) ∧
  s ≤ r.lo ∧ r.lo ≤ r.hi ∧ r.hi ≤ arr.size + s ∧ h ≤ f.tip ∧ f.tip < H.next ∧ r.root < H.next ∧ (f.ro = false → (∀ i, i < arr.size → ¬ (fr.1 ≤ i ∧ i < fr.2)) ∧ ¬ pr c)
 cell : ∀ h c s i v, ρ h = some (c, s) → H.load h i = some v → ∃ v', w.cell? ⟨c, i - s, none⟩ = some v' ∧ VR ρ H w v v'
 apart : ∀ h1 h2 c s1 s2 r1 r2, ρ h1 = some (c, s1) → ρ h2 = some (c, s2) → H.rows.get h1 = some r1 → H.rows.get h2 = some r2 →
  (r1.root = r2.root ∧ s1 = s2) ∨ (∃ f1, H.fams.get r1.root = some f1 ∧ f1.ro = true) ∧ (∃ f2, H.fams.get r2.root = some f2 ∧ f2.ro = true)
 old : ∀ c : Nat, pr c → w.heap[c]? = w0.heap[c]?
 prlt : ∀ c : Nat, pr c → c < w0.heap.size
 low : w0.heap.size ≤ w.heap.size
 os : w.os = w0.os
 tape : w.tape = w0.tape
 output : w.output = w0.output
def Wr (ρ : Rho) (H : AH) (c : Nat) : Prop := ∃ h s r f, ρ h = some (c, s) ∧ H.rows.get h = some r ∧ H.fams.get r.root = some f ∧ f.ro = false
structure Ext (ρ : Rho) (H : AH) (w : World) (ρ' : Rho) (H' : AH) (w' : World) : Prop where
 sub : ∀ h x, ρ h = some x → ρ' h = some x
 new : ∀ h c s, ρ' h = some (c, s) → ρ h = none → H.next ≤ h ∧ (w.heap.size ≤ c ∨ Wr ρ H c)
 newr : ∀ h x r, ρ' h = some x → ρ h = none → H'.rows.get h = some r → H.next ≤ r.root ∨ ∃ g y r0, ρ g = some y ∧ H.rows.get g = some r0 ∧ r0.root = r.root
 next : H.next ≤ H'.next
 rows : ∀ h, h < H.next → H'.rows.get h = H.rows.get h
 ro : ∀ q f, H.fams.get q = some f → q < H.next → ∃ f', H'.fams.get q = some f' ∧ f'.ro = f.ro
 afr : ∀ q, q < H.next → (∀ h x r, ρ h = some x → H.rows.get h = some r → r.root ≠ q) → H'.fams.get q = H.fams.get q
 size : w.heap.size ≤ w'.heap.size
 blk : ∀ (c : Nat) (arr : Array Value) (e : TypeId) (fr : Nat × Nat), w.heap[c]? = some (Obj.cells arr e fr) → ∃ (arr' : Array Value) (fr' : Nat × Nat), w'.heap[c]? = some (Obj.cells arr' e fr') ∧ arr'.size = arr.size
 frm : ∀ c : Nat, c < w.heap.size → ¬ Wr ρ H c → w'.heap[c]? = w.heap[c]?
theorem Ext.refl (ρ : Rho) (H : AH) (w : World) : Ext ρ H w ρ H w where
 sub _ _ h := h
 new h c s h1 h2 := by rw [h2] at h1; cases h1
 newr h x r h1 h2 := by rw [h2] at h1; cases h1
 next := Nat.le_refl _
 rows _ _ := rfl
 ro q f h _ := ⟨f, h, rfl⟩
 afr _ _ _ := rfl
 size := Nat.le_refl _
 blk c arr e fr h := ⟨arr, fr, h, rfl⟩
 frm _ _ _ := rfl
section
variable {pr : Nat → Prop} {w0 : World} {ρ ρ' ρ'' : Rho} {H H' H'' : AH} {w w' w'' : World}
theorem Ext.room (h : Ext ρ H w ρ' H' w') {c off n : Nat} (hr : Room w c off n) : Room w' c off n := by
 obtain ⟨arr, e, fr, h1, h2⟩ := hr
 obtain ⟨arr', fr', h3, h4⟩ := h.blk c arr e fr h1
 exact ⟨arr', e, fr', h3, by omega⟩
theorem Ext.vr (h : Ext ρ H w ρ' H' w') (hlt : ∀ h x, ρ h = some x → h < H.next) {v v' : Value} (hv : VR ρ H w v v') : VR ρ' H' w' v v' :=
 hv.mono h.sub (fun g x r h1 h2 => by rw [← h.rows g (hlt g x h1)]; exact h2) fun _ _ _ => h.room
theorem Ext.vrs (h : Ext ρ H w ρ' H' w') (hlt : ∀ h x, ρ h = some x → h < H.next) {l l' : List Value} (hv : VRs ρ H w l l') : VRs ρ' H' w' l l' :=
 ⟨hv.1, fun i v v' h1 h2 => h.vr hlt (hv.2 i v v' h1 h2)⟩
theorem Ext.wr (h : Ext ρ H w ρ' H' w') (hr : ∀ g x, ρ g = some x → g < H.next ∧ ∃ r, H.rows.get g = some r ∧ r.root < H.next ∧ ∃ f, H.fams.get r.root = some f) {c : Nat} (hc : c < w.heap.size) (hw : Wr ρ' H' c) : Wr ρ H c := by
 obtain ⟨g, s, r, f, h1, h2, h3, h4⟩ := hw
 cases hg : ρ g with
 | none =>
  rcases (h.new g c s h1 hg).2 with h5 | h5
  ·omega
  ·exact h5
 | some x =>
  obtain ⟨hlt, r0, hr0, hq, f0, hf0⟩ := hr g x hg
  have e := h.sub g x hg
  rw [h1] at e
  injection e with e
  subst e
  rw [h.rows g hlt, hr0] at h2
  injection h2 with h2
  subst h2
  obtain ⟨f', hf', hro⟩ := h.ro _ _ hf0 hq
  rw [hf'] at h3
  injection h3 with h3
  subst h3
  exact ⟨g, s, r0, f0, hg, hr0, hf0, by rw [← hro]; exact h4⟩
theorem Rel.base (h : Rel pr w0 ρ H w) : ∀ g x, ρ g = some x → g < H.next ∧ ∃ r, H.rows.get g = some r ∧ r.root < H.next ∧ ∃ f, H.fams.get r.root = some f := by
 intro g x hg
 obtain ⟨c, s⟩ := x
 obtain ⟨r, f, arr, e, fr, h1, h2, _, _, _, _, _, _, h3, _⟩ := h.row g c s hg
 exact ⟨h.lt g _ hg, r, h1, h3, f, h2⟩
theorem Ext.trans (hr' : Rel pr w0 ρ' H' w') (hr : Rel pr w0 ρ H w) (h : Ext ρ H w ρ' H' w') (k : Ext ρ' H' w' ρ'' H'' w'') : Ext ρ H w ρ'' H'' w'' where
 sub g x hg := k.sub g x (h.sub g x hg)
 new g c s h1 h2 := by
  cases hg : ρ' g with
  | none =>
   obtain ⟨a, b⟩ := k.new g c s h1 hg
   refine ⟨Nat.le_trans h.next a, ?_⟩
   rcases b with b | b
   ·exact .inl (Nat.le_trans h.size b)
   ·rcases Nat.lt_or_ge c w.heap.size with hc | hc
    ·exact .inr (h.wr hr.base hc b)
    ·exact .inl hc
  | some x =>
   have e := k.sub g x hg
   rw [h1] at e
   injection e with e
   subst e
   exact h.new g c s hg h2
 newr g x r h1 h2 h3 := by
  cases hg : ρ' g with
  | none =>
   rcases k.newr g x r h1 hg h3 with b | ⟨g', y, r0, e1, e2, e3⟩
   ·exact .inl (Nat.le_trans h.next b)
   ·cases hg' : ρ g' with
    | none =>
     rcases h.newr g' y r0 e1 hg' e2 with b | ⟨g2, y2, r2, d1, d2, d3⟩
     ·exact .inl (e3 ▸ b)
     ·exact .inr ⟨g2, y2, r2, d1, d2, d3.trans e3⟩
    | some y' =>
     obtain ⟨hlt, r1, hr1, _⟩ := hr.base g' y' hg'
     rw [h.rows g' hlt] at e2
     exact .inr ⟨g', y', r0, hg', e2, e3⟩
  | some y =>
   have e := k.sub g y hg
   rw [h1] at e
   injection e with e
   subst e
   rw [k.rows g (hr'.base g _ hg).1] at h3
   exact h.newr g x r hg h2 h3
 next := Nat.le_trans h.next k.next
 rows g hg := (k.rows g (Nat.lt_of_lt_of_le hg h.next)).trans (h.rows g hg)
 ro q f hf hq := by
  obtain ⟨f1, h1, h2⟩ := h.ro q f hf hq
  obtain ⟨f2, h3, h4⟩ := k.ro q f1 h1 (Nat.lt_of_lt_of_le hq h.next)
  exact ⟨f2, h3, h4.trans h2⟩
 afr q hq hn := by
  rw [k.afr q (Nat.lt_of_lt_of_le hq h.next) ?_, h.afr q hq hn]
  intro g x r h1 h2 he
  cases hg : ρ g with
  | none =>
   rcases h.newr g x r h1 hg h2 with b | ⟨g', y, r0, e1, e2, e3⟩
   ·omega
   ·exact hn g' y r0 e1 e2 (e3.trans he)
  | some y =>
   have e := h.sub g y hg
   rw [h1] at e
   injection e with e
   subst e
   rw [h.rows g (hr.base g _ hg).1] at h2
   exact hn g x r hg h2 he
 size := Nat.le_trans h.size k.size
 blk c arr e fr hc := by
  obtain ⟨a1, f1, h1, h2⟩ := h.blk c arr e fr hc
  obtain ⟨a2, f2, h3, h4⟩ := k.blk c a1 e f1 h1
  exact ⟨a2, f2, h3, h4.trans h2⟩
 frm c hc hn := by
  rw [k.frm c (Nat.lt_of_lt_of_le hc h.size) fun hw => hn (h.wr hr.base hc hw), h.frm c hc hn]
end
end AM
end Go.Proofs.YtemcmblcogljkaaGreatDoor

namespace Go.Proofs.YtemcmblcogljkaaGreatDoor
namespace AM
open Go
structure Upd (w w' : World) (c : Nat) : Prop where
 size : w'.heap.size = w.heap.size
 other : ∀ d : Nat, d ≠ c → w'.heap[d]? = w.heap[d]?
 os : w'.os = w.os
 tape : w'.tape = w.tape
 output : w'.output = w.output
theorem Upd.refl (w : World) (c : Nat) : Upd w w c := ⟨rfl, fun _ _ => rfl, rfl, rfl, rfl⟩
theorem Upd.trans {w w' w'' : World} {c : Nat} (h : Upd w w' c) (k : Upd w' w'' c) : Upd w w'' c :=
 ⟨k.size.trans h.size, fun d hd => (k.other d hd).trans (h.other d hd), k.os.trans h.os, k.tape.trans h.tape, k.output.trans h.output⟩
theorem cell_of_heap {w : World} {c : Nat} {arr : Array Value} {e : TypeId} {fr : Nat × Nat} (h : w.heap[c]? = some (Obj.cells arr e fr)) (j : Nat) : w.cell? ⟨c, j, none⟩ = arr[j]? := by
 simp [World.cell?, h]
theorem frozen_of_heap {w : World} {c : Nat} {arr : Array Value} {e : TypeId} {fr : Nat × Nat} (h : w.heap[c]? = some (Obj.cells arr e fr)) (j : Nat) (hj : ¬ (fr.1 ≤ j ∧ j < fr.2)) : w.frozen? ⟨c, j, none⟩ = false := by
 obtain ⟨lo, hi⟩ := fr
 simp only [World.frozen?, h]
 simpa using hj
theorem setCell_heap {w : World} {c : Nat} {arr : Array Value} {e : TypeId} {fr : Nat × Nat} (h : w.heap[c]? = some (Obj.cells arr e fr)) (j : Nat) (v : Value) :
  (w.setCell ⟨c, j, none⟩ v).heap[c]? = some (Obj.cells (arr.setIfInBounds j v) e fr) := by
 simp [World.setCell, Array.getElem?_modify, h]
theorem setCell_upd (w : World) (c j : Nat) (v : Value) : Upd w (w.setCell ⟨c, j, none⟩ v) c :=
 ⟨by simp [World.setCell], fun d hd => by simp [World.setCell, Array.getElem?_modify, Ne.symm hd], rfl, rfl, rfl⟩
section
variable {pr : Nat → Prop} {w0 : World} {ρ ρ' : Rho} {H H' : AH} {w w' : World}
theorem load_some {h i : Nat} {v : Value} (hl : H.load h i = some v) : ∃ r f st, H.rows.get h = some r ∧ H.fams.get r.root = some f ∧ f.cells.get i = some (v, st) ∧ r.lo ≤ i ∧ i < r.hi ∧ st ≤ h := by
 unfold AH.load at hl
 split at hl
 ·cases hl
 ·rename_i r hr
  split at hl
  ·cases hl
  ·rename_i f hf
   split at hl
   ·cases hl
   ·rename_i u st hc
    split at hl
    ·rename_i hb
     injection hl with hl
     subst hl
     simp only [Bool.and_eq_true, Nat.ble_eq, Nat.blt_eq] at hb
     exact ⟨r, f, st, hr, hf, hc, hb.1.1, hb.1.2, hb.2⟩
    ·cases hl
theorem load_of {h i : Nat} {v : Value} {r : Row} {f : Fam} {st : Nat} (h1 : H.rows.get h = some r) (h2 : H.fams.get r.root = some f) (h3 : f.cells.get i = some (v, st)) (h4 : r.lo ≤ i) (h5 : i < r.hi) (h6 : st ≤ h) : H.load h i = some v := by
 unfold AH.load
 simp only [h1, h2, h3]
 have : (Nat.ble r.lo i && Nat.blt i r.hi && Nat.ble st h) = true := by simp [Nat.ble_eq, Nat.blt_eq, h4, h5, h6]
 rw [this]
theorem store_some {h i : Nat} {v : Value} (hl : H.store h i v = some H') : ∃ r f, H.rows.get h = some r ∧ H.fams.get r.root = some f ∧ f.ro = false ∧ f.tip = h ∧ r.lo ≤ i ∧ i < r.hi ∧ oneCell v = true ∧
  H' = { H with fams := H.fams.put r.root { f with cells := f.cells.put i (v, h) } } := by
 unfold AH.store at hl
 split at hl
 ·cases hl
 ·rename_i r hr
  split at hl
  ·cases hl
  ·rename_i f hf
   split at hl
   ·rename_i hb
    injection hl with hl
    simp only [Bool.and_eq_true, Nat.ble_eq, Nat.blt_eq, Bool.not_eq_true'] at hb
    exact ⟨r, f, hr, hf, hb.1.1.1.1, Nat.eq_of_beq_eq_true hb.1.1.1.2, hb.1.1.2, hb.1.2, hb.2, hl.symm⟩
   ·cases hl
theorem Ext.of_upd {c : Nat} {q : Nat} {f f' : Fam} {arr arr' : Array Value} {e : TypeId} {fr : Nat × Nat} (hu : Upd w w' c) (ha : w.heap[c]? = some (Obj.cells arr e fr)) (ha' : w'.heap[c]? = some (Obj.cells arr' e fr)) (hsz : arr'.size = arr.size)
  (hwr : Wr ρ H c) (hf : H.fams.get q = some f) (hro : f'.ro = f.ro) (hq : ∃ g x r, ρ g = some x ∧ H.rows.get g = some r ∧ r.root = q) : Ext ρ H w ρ { H with fams := H.fams.put q f' } w' where
 sub _ _ h := h
 new h c s h1 h2 := by rw [h2] at h1; cases h1
 newr h x r h1 h2 := by rw [h2] at h1; cases h1
 next := Nat.le_refl _
 rows _ _ := rfl
 ro p g hp _ := by
  simp only [Tr.get_put]
  by_cases e : p = q
  ·subst e
   rw [hf] at hp
   injection hp with hp
   subst hp
   exact ⟨f', if_pos rfl, hro⟩
  ·rw [if_neg e]; exact ⟨g, hp, rfl⟩
 afr p hp hn := by
  simp only [Tr.get_put]
  rw [if_neg]
  rintro rfl
  obtain ⟨g, x, r, h1, h2, h3⟩ := hq
  exact hn g x r h1 h2 h3
 size := Nat.le_of_eq hu.size.symm
 blk d a e1 f1 hd := by
  by_cases e : d = c
  ·subst e
   rw [ha] at hd
   injection hd with hd
   injection hd with h1 h2 h3
   subst h1; subst h2; subst h3
   exact ⟨arr', fr, ha', hsz⟩
  ·exact ⟨a, f1, (hu.other d e).trans hd, rfl⟩
 frm d _ hn := by
  by_cases e : d = c
  ·subst e; exact absurd hwr hn
  ·exact hu.other d e
theorem Rel.store (hr : Rel pr w0 ρ H w) {h i c s : Nat} {v v' : Value} (hρ : ρ h = some (c, s)) (hs : s ≤ i) (hst : H.store h i v = some H') (hv : VR ρ H w v v') :
  (∃ u, w.cell? ⟨c, i - s, none⟩ = some u) ∧ w.frozen? ⟨c, i - s, none⟩ = false ∧ Ext ρ H w ρ H' (w.setCell ⟨c, i - s, none⟩ v') ∧ Rel pr w0 ρ H' (w.setCell ⟨c, i - s, none⟩ v') := by
 obtain ⟨r, f, h1, h2, h3, h4, h5, h6, h7, rfl⟩ := store_some hst
 obtain ⟨r0, f0, arr, e, fr, a1, a2, a3, a4, a5, a6, a7, a8, a9, a10⟩ := hr.row h c s hρ
 rw [h1] at a1; injection a1 with a1; subst a1
 rw [h2] at a2; injection a2 with a2; subst a2
 obtain ⟨b1, b2⟩ := a10 h3
 have hj : i - s < arr.size := by omega
 have hu := setCell_upd w c (i - s) v'
 have ha' := setCell_heap a3 (i - s) v'
 have hext : Ext ρ H w ρ { H with fams := H.fams.put r.root { f with cells := f.cells.put i (v, h) } } (w.setCell ⟨c, i - s, none⟩ v') :=
  Ext.of_upd hu a3 ha' (by simp) ⟨h, s, r, f, hρ, h1, h2, h3⟩ h2 rfl ⟨h, _, r, hρ, h1, rfl⟩
 refine ⟨⟨arr[i - s], by rw [cell_of_heap a3]; exact Array.getElem?_eq_getElem hj⟩, frozen_of_heap a3 _ (b1 _ hj), hext, ?_⟩
 constructor
 ·exact hr.lt
 ·intro g c2 s2 hg
  obtain ⟨r2, f2, arr2, e2, fr2, d1, d2, d3, d4, d5, d6, d7, d8, d9, d10⟩ := hr.row g c2 s2 hg
  have hheap : ∃ arr3, (w.setCell ⟨c, i - s, none⟩ v').heap[c2]? = some (Obj.cells arr3 e2 fr2) ∧ arr3.size = arr2.size := by
   by_cases ec : c2 = c
   ·subst ec
    rw [a3] at d3
    injection d3 with d3
    injection d3 with x1 x2 x3
    subst x1; subst x2; subst x3
    exact ⟨_, ha', by simp⟩
   ·exact ⟨arr2, (hu.other c2 ec).trans d3, rfl⟩
  obtain ⟨arr3, k1, k2⟩ := hheap
  by_cases eq : r2.root = r.root
  ·rw [eq, h2] at d2
   injection d2 with d2
   subst d2
   refine ⟨r2, { f with cells := f.cells.put i (v, h) }, arr3, e2, fr2, d1, by simp only [eq, Tr.get_put_same], k1, d4, d5, by omega, d7, d8, d9, fun hro => ?_⟩
   obtain ⟨y1, y2⟩ := d10 hro
   exact ⟨fun j hj => y1 j (by omega), y2⟩
  ·refine ⟨r2, f2, arr3, e2, fr2, d1, by simp only [Tr.get_put_other _ _ eq]; exact d2, k1, d4, d5, by omega, d7, d8, d9, fun hro => ?_⟩
   obtain ⟨y1, y2⟩ := d10 hro
   exact ⟨fun j hj => y1 j (by omega), y2⟩
 ·intro g c2 s2 j u hg hl
  obtain ⟨r2, f2, st, l1, l2, l3, l4, l5, l6⟩ := load_some hl
  simp only at l1 l2
  obtain ⟨r3, f3, arr2, e2, fr2, d1, d2, d3, d4, d5, d6, d7, d8, d9, d10⟩ := hr.row g c2 s2 hg
  rw [l1] at d1; injection d1 with d1; subst d1
  -- the load as it was before, at another place
  have hold : ∀ f4 st4, H.fams.get r2.root = some f4 → f4.cells.get j = some (u, st4) → st4 ≤ g → (c2 = c → j - s2 ≠ i - s) → ∃ u', (w.setCell ⟨c, i - s, none⟩ v').cell? ⟨c2, j - s2, none⟩ = some u' ∧ VR ρ { H with fams := H.fams.put r.root { f with cells := f.cells.put i (v, h) } } (w.setCell ⟨c, i - s, none⟩ v') u u' := by
   intro f4 st4 m1 m2 m3 m4
   obtain ⟨u', n1, n2⟩ := hr.cell g c2 s2 j u hg (load_of l1 m1 m2 l4 l5 m3)
   refine ⟨u', ?_, hext.vr hr.lt n2⟩
   by_cases ec : c2 = c
   ·subst ec
    rw [cell_of_heap ha', Array.getElem?_setIfInBounds_ne (Ne.symm (m4 rfl)), ← cell_of_heap a3]
    exact n1
   ·rw [← n1]
    simp only [World.cell?]
    rw [hu.other c2 ec]
  by_cases eq : r2.root = r.root
  ·simp only [eq, Tr.get_put_same, Option.some.injEq] at l2
   subst l2
   rw [Tr.get_put] at l3
   by_cases ej : j = i
   ·subst ej
    rw [if_pos rfl] at l3
    simp only [Option.some.injEq, Prod.mk.injEq] at l3
    obtain ⟨rfl, rfl⟩ := l3
    rw [eq, h2] at d2
    injection d2 with d2
    subst d2
    have hg' : g = h := by omega
    subst hg'
    rw [hρ] at hg
    simp only [Option.some.injEq, Prod.mk.injEq] at hg
    obtain ⟨rfl, rfl⟩ := hg
    refine ⟨v', ?_, hext.vr hr.lt hv⟩
    rw [cell_of_heap ha']
    simp [hj]
   ·rw [if_neg ej] at l3
    refine hold f st (by rw [eq]; exact h2) l3 l6 fun ec => ?_
    subst ec
    rcases hr.apart g h c2 s2 s r2 r hg hρ l1 h1 with ⟨_, e2⟩ | ⟨_, f5, e3, e4⟩
    ·omega
    ·rw [h2] at e3; injection e3 with e3; subst e3; rw [h3] at e4; cases e4
  ·simp only [Tr.get_put_other _ _ eq] at l2
   refine hold f2 st l2 l3 l6 fun ec => ?_
   subst ec
   rcases hr.apart g h c2 s2 s r2 r hg hρ l1 h1 with ⟨e2, _⟩ | ⟨_, f5, e3, e4⟩
   ·exact absurd e2 eq
   ·rw [h2] at e3; injection e3 with e3; subst e3; rw [h3] at e4; cases e4
 ·intro g1 g2 c2 s1 s2 r1 r2 m1 m2 m3 m4
  rcases hr.apart g1 g2 c2 s1 s2 r1 r2 m1 m2 m3 m4 with h8 | ⟨⟨f1, n1, n2⟩, f2, n3, n4⟩
  ·exact .inl h8
  ·refine .inr ⟨⟨f1, ?_, n2⟩, f2, ?_, n4⟩
   ·simp only [Tr.get_put]
    rw [if_neg]
    ·exact n1
    ·intro e; rw [e, h2] at n1; injection n1 with n1; subst n1; rw [h3] at n2; cases n2
   ·simp only [Tr.get_put]
    rw [if_neg]
    ·exact n3
    ·intro e; rw [e, h2] at n3; injection n3 with n3; subst n3; rw [h3] at n4; cases n4
 ·intro d hd
  rw [hu.other d (by rintro rfl; exact b2 hd)]
  exact hr.old d hd
 ·exact hr.prlt
 ·rw [hu.size]; exact hr.low
 ·exact hr.os
 ·exact hr.tape
 ·exact hr.output
def upR (ρ : Rho) (n : Nat) (x : Nat × Nat) : Rho := fun h => if h = n then some x else ρ h
theorem upR_same (ρ : Rho) (n : Nat) (x : Nat × Nat) : upR ρ n x n = some x := if_pos rfl
theorem upR_other (ρ : Rho) {n h : Nat} (x : Nat × Nat) (e : h ≠ n) : upR ρ n x h = ρ h := if_neg e
theorem upR_sub (hlt : ∀ h x, ρ h = some x → h < H.next) (x : Nat × Nat) : ∀ h y, ρ h = some y → upR ρ H.next x h = some y := fun h y hy => by
 rw [upR_other _ _ (by have := hlt h y hy; omega)]; exact hy
structure Pushed (w w' : World) (o : Obj) : Prop where
 size : w'.heap.size = w.heap.size + 1
 at_ : w'.heap[w.heap.size]? = some o
 other : ∀ d : Nat, d < w.heap.size → w'.heap[d]? = w.heap[d]?
 os : w'.os = w.os
 tape : w'.tape = w.tape
 output : w'.output = w.output
theorem Pushed.mk' (w : World) (o : Obj) (n : Nat) : Pushed w { w with heap := w.heap.push o, drawn := n } o :=
 ⟨by simp, by simp, fun d hd => by simp only []; rw [Array.getElem?_push_lt hd, Array.getElem?_eq_getElem hd], rfl, rfl, rfl⟩
theorem Rel.blk_lt (hr : Rel pr w0 ρ H w) {h c s : Nat} (hρ : ρ h = some (c, s)) : c < w.heap.size := by
 obtain ⟨_, _, _, _, _, _, _, h3, _⟩ := hr.row h c s hρ
 exact (Array.getElem?_eq_some_iff.1 h3).1
theorem Rel.new (hr : Rel pr w0 ρ H w) (sz : Nat) {cells cells' : List Value} (hv : VRs ρ H w cells cells') {arr : Array Value} {e : TypeId} {fr : Nat × Nat} (hp : Pushed w w' (.cells arr e fr))
  (harr : ∀ (j : Nat) (u : Value), cells'[j]? = some u → arr[j]? = some u) (hfr : ∀ j, j < arr.size → ¬ (fr.1 ≤ j ∧ j < fr.2)) :
  Ext ρ H w (upR ρ H.next (w.heap.size, 0)) (H.new sz cells) w' ∧ Rel pr w0 (upR ρ H.next (w.heap.size, 0)) (H.new sz cells) w' := by
 have hlen : cells.length ≤ arr.size := by
  rcases Nat.lt_or_ge arr.size cells.length with h | h
  ·exfalso
   have h1 : arr.size < cells'.length := by rw [← hv.1]; exact h
   have h2 := harr arr.size _ (List.getElem?_eq_getElem h1)
   rw [Array.getElem?_eq_none (Nat.le_refl _)] at h2
   cases h2
  ·exact h
 have hrow : ∀ g, g < H.next → (H.new sz cells).rows.get g = H.rows.get g := fun g hg => Tr.get_put_other _ _ (by omega)
 have hfam : ∀ g, g < H.next → (H.new sz cells).fams.get g = H.fams.get g := fun g hg => Tr.get_put_other _ _ (by omega)
 have hext : Ext ρ H w (upR ρ H.next (w.heap.size, 0)) (H.new sz cells) w' :=
  {sub := upR_sub hr.lt _
   new := fun h c s h1 h2 => by
    by_cases eh : h = H.next
    ·subst eh
     rw [upR_same] at h1
     simp only [Option.some.injEq, Prod.mk.injEq] at h1
     exact ⟨Nat.le_refl _, .inl (by omega)⟩
    ·rw [upR_other _ _ eh, h2] at h1; cases h1
   newr := fun h x r h1 h2 h3 => by
    by_cases eh : h = H.next
    ·subst eh
     have : (H.new sz cells).rows.get H.next = some ⟨H.next, 0, cells.length, sz⟩ := Tr.get_put_same _ _ _
     rw [this] at h3
     injection h3 with h3
     subst h3
     exact .inl (Nat.le_refl _)
    ·rw [upR_other _ _ eh, h2] at h1; cases h1
   next := Nat.le_succ _
   rows := hrow
   ro := fun q f hf hq => ⟨f, (hfam q hq).trans hf, rfl⟩
   afr := fun q hq _ => hfam q hq
   size := by rw [hp.size]; omega
   blk := fun c a e1 f1 hc => ⟨a, f1, (hp.other c (Array.getElem?_eq_some_iff.1 hc).1).trans hc, rfl⟩
   frm := fun c hc _ => hp.other c hc }
 refine ⟨hext, ?_⟩
 constructor
 ·intro h x hx
  by_cases eh : h = H.next
  ·subst eh; exact Nat.lt_succ_self _
  ·rw [upR_other _ _ eh] at hx; exact Nat.lt_succ_of_lt (hr.lt h x hx)
 ·intro h c s hx
  by_cases eh : h = H.next
  ·subst eh
   rw [upR_same] at hx
   simp only [Option.some.injEq, Prod.mk.injEq] at hx
   obtain ⟨rfl, rfl⟩ := hx
   refine ⟨_, _, arr, e, fr, Tr.get_put_same _ _ _, Tr.get_put_same _ _ _, hp.at_, Nat.le_refl _, Nat.zero_le _, hlen, Nat.le_refl _, Nat.lt_succ_self _, Nat.lt_succ_self _, fun _ => ⟨hfr, fun hpr => ?_⟩⟩
   have h1 := hr.prlt _ hpr
   have h2 := hr.low
   omega
  ·rw [upR_other _ _ eh] at hx
   obtain ⟨r, f, a, e1, f1, h1, h2, h3, h4, h5, h6, h7, h8, h9, h10⟩ := hr.row h c s hx
   exact ⟨r, f, a, e1, f1, (hrow h (hr.lt h _ hx)).trans h1, (hfam _ h9).trans h2, (hp.other c (Array.getElem?_eq_some_iff.1 h3).1).trans h3, h4, h5, h6, h7, Nat.lt_succ_of_lt h8, Nat.lt_succ_of_lt h9, h10⟩
 ·intro h c s i v hx hl
  obtain ⟨r, f, st, l1, l2, l3, l4, l5, l6⟩ := load_some hl
  by_cases eh : h = H.next
  ·subst eh
   rw [upR_same] at hx
   simp only [Option.some.injEq, Prod.mk.injEq] at hx
   obtain ⟨rfl, rfl⟩ := hx
   have q1 : (H.new sz cells).rows.get H.next = some ⟨H.next, 0, cells.length, sz⟩ := Tr.get_put_same _ _ _
   rw [q1] at l1
   injection l1 with l1
   subst l1
   have q2 : (H.new sz cells).fams.get H.next = some ⟨false, H.next, Tr.leaf.putAll 0 (cells.map fun v => (v, H.next))⟩ := Tr.get_put_same _ _ _
   rw [q2] at l2
   injection l2 with l2
   subst l2
   simp only [Tr.get_putAll, List.length_map, Nat.zero_add, Nat.sub_zero, Nat.zero_le, true_and, List.getElem?_map] at l3
   rw [if_pos l5] at l3
   cases hc : cells[i]? with
   | none => rw [hc] at l3; cases l3
   | some u =>
    rw [hc] at l3
    simp only [Option.map_some, Option.some.injEq, Prod.mk.injEq] at l3
    obtain ⟨rfl, _⟩ := l3
    obtain ⟨u', k1, k2⟩ := hv.get hc
    refine ⟨u', ?_, hext.vr hr.lt k2⟩
    rw [cell_of_heap hp.at_]
    exact harr i u' k1
  ·rw [upR_other _ _ eh] at hx
   have hlt := hr.lt h _ hx
   rw [hrow h hlt] at l1
   obtain ⟨r0, f0, a, e1, f1, h1, h2, h3, h4, h5, h6, h7, h8, h9, h10⟩ := hr.row h c s hx
   rw [l1] at h1; injection h1 with h1; subst h1
   rw [hfam _ h9] at l2
   obtain ⟨v', k1, k2⟩ := hr.cell h c s i v hx (load_of l1 l2 l3 l4 l5 l6)
   refine ⟨v', ?_, hext.vr hr.lt k2⟩
   rw [← k1]
   simp only [World.cell?]
   rw [hp.other c (hr.blk_lt hx)]
 ·intro g1 g2 c s1 s2 r1 r2 m1 m2 m3 m4
  by_cases e1 : g1 = H.next
  ·by_cases e2 : g2 = H.next
   ·subst e1; subst e2
    rw [m3] at m4; injection m4 with m4; subst m4
    rw [m1] at m2
    simp only [Option.some.injEq, Prod.mk.injEq] at m2
    exact .inl ⟨rfl, m2.2⟩
   ·subst e1
    rw [upR_same] at m1
    rw [upR_other _ _ e2] at m2
    have := hr.blk_lt m2
    simp only [Option.some.injEq, Prod.mk.injEq] at m1
    omega
  ·rw [upR_other _ _ e1] at m1
   by_cases e2 : g2 = H.next
   ·subst e2
    rw [upR_same] at m2
    have := hr.blk_lt m1
    simp only [Option.some.injEq, Prod.mk.injEq] at m2
    omega
   ·rw [upR_other _ _ e2] at m2
    rw [hrow _ (hr.lt _ _ m1)] at m3
    rw [hrow _ (hr.lt _ _ m2)] at m4
    rcases hr.apart g1 g2 c s1 s2 r1 r2 m1 m2 m3 m4 with h8 | ⟨⟨f1, n1, n2⟩, f2, n3, n4⟩
    ·exact .inl h8
    ·obtain ⟨_, r1', k1, k2, _⟩ := hr.base g1 _ m1
     rw [m3] at k1; injection k1 with k1; subst k1
     obtain ⟨_, r2', k3, k4, _⟩ := hr.base g2 _ m2
     rw [m4] at k3; injection k3 with k3; subst k3
     exact .inr ⟨⟨f1, (hfam _ k2).trans n1, n2⟩, f2, (hfam _ k4).trans n3, n4⟩
 ·intro d hd
  have h1 := hr.prlt d hd
  rw [hp.other d (Nat.lt_of_lt_of_le h1 hr.low)]
  exact hr.old d hd
 ·exact hr.prlt
 ·rw [hp.size]; have := hr.low; omega
 ·rw [hp.os]; exact hr.os
 ·rw [hp.tape]; exact hr.tape
 ·rw [hp.output]; exact hr.output
theorem Rel.same (hr : Rel pr w0 ρ H w) (hh : w'.heap = w.heap) (ho : w'.os = w.os) (ht : w'.tape = w.tape) (hu : w'.output = w.output) : Ext ρ H w ρ H w' ∧ Rel pr w0 ρ H w' := by
 have hroom : ∀ c off n, Room w c off n → Room w' c off n := fun c off n ⟨a, e, f, h1, h2⟩ => ⟨a, e, f, by rw [hh]; exact h1, h2⟩
 have hvr : ∀ {v v' : Value}, VR ρ H w v v' → VR ρ H w' v v' := fun h => h.mono (fun _ _ h => h) (fun _ _ _ _ h => h) hroom
 refine ⟨⟨fun _ _ h => h, fun h c s h1 h2 => (by rw [h2] at h1; cases h1), fun h x r h1 h2 => (by rw [h2] at h1; cases h1), Nat.le_refl _, fun _ _ => rfl, fun q f h _ => ⟨f, h, rfl⟩, fun _ _ _ => rfl, by rw [hh]; exact Nat.le_refl _,
  fun c a e f h => ⟨a, f, by rw [hh]; exact h, rfl⟩, fun c _ _ => by rw [hh]⟩, ⟨hr.lt, ?_, ?_, hr.apart, ?_, hr.prlt, by rw [hh]; exact hr.low, ho.trans hr.os, ht.trans hr.tape, hu.trans hr.output⟩⟩
 ·intro h c s hx; rw [hh]; exact hr.row h c s hx
 ·intro h c s i v hx hl
  obtain ⟨v', k1, k2⟩ := hr.cell h c s i v hx hl
  refine ⟨v', ?_, hvr k2⟩
  rw [← k1]; simp only [World.cell?, hh]
 ·intro d hd; rw [hh]; exact hr.old d hd
theorem loadN_get : ∀ {n h i : Nat} {l : List Value}, H.loadN h i n = some l → l.length = n ∧ ∀ j, j < n → H.load h (i + j) = l[j]?
 | 0, h, i, l, hl => by simp only [AH.loadN, Option.some.injEq] at hl; subst hl; exact ⟨rfl, fun j hj => by omega⟩
 | n + 1, h, i, l, hl => by
  simp only [AH.loadN] at hl
  split at hl
  ·cases hl
  ·rename_i v hv
   split at hl
   ·cases hl
   ·rename_i l' hl'
    simp only [Option.some.injEq] at hl
    subst hl
    obtain ⟨h1, h2⟩ := loadN_get hl'
    refine ⟨by simp [h1], fun j hj => ?_⟩
    cases j with
    | zero => simpa using hv
    | succ j => rw [show i + (j + 1) = i + 1 + j by omega, h2 j (by omega)]; rfl
theorem grow_some {h i n : Nat} {news : List Value} (hg : H.grow h i n news = some H') : ∃ r f l, H.rows.get h = some r ∧ H.fams.get r.root = some f ∧ H.loadN h i n = some l ∧ f.ro = false ∧ r.lo ≤ i ∧ i + n ≤ r.hi ∧ news.all oneCell = true ∧
  H' = { next := H.next + 1, rows := H.rows.put H.next ⟨r.root, i, i + n + news.length, r.sz⟩, fams := H.fams.put r.root { f with tip := H.next, cells := f.cells.putAll (i + n) (news.map fun v => (v, H.next)) } } := by
 unfold AH.grow at hg
 split at hg
 ·cases hg
 ·rename_i r hr
  split at hg
  ·cases hg
  ·rename_i f hf
   split at hg
   ·cases hg
   ·rename_i l hl
    split at hg
    ·rename_i hb
     injection hg with hg
     simp only [Bool.and_eq_true, Nat.ble_eq, Bool.not_eq_true'] at hb
     exact ⟨r, f, l, hr, hf, hl, hb.1.1.1, hb.1.1.2, hb.1.2, hb.2, hg.symm⟩
    ·cases hg
theorem Rel.grow (hr : Rel pr w0 ρ H w) {h i n c s : Nat} {news news' : List Value} (hρ : ρ h = some (c, s)) (hg : H.grow h i n news = some H') (hv : VRs ρ H w news news')
  (c1 s1 : Nat) (arr1 : Array Value) (e1 : TypeId) (fr1 : Nat × Nat) (hc1 : w'.heap[c1]? = some (Obj.cells arr1 e1 fr1)) (hs1 : s1 ≤ i) (hroom : i + n + news.length ≤ arr1.size + s1) (hfr : ∀ j, j < arr1.size → ¬ (fr1.1 ≤ j ∧ j < fr1.2))
  (hwhere : (c1 = c ∧ s1 = s ∧ Upd w w' c ∧ ∃ arr, w.heap[c]? = some (Obj.cells arr e1 fr1) ∧ arr.size = arr1.size ∧ ∀ j, (j < i + n - s ∨ i + n - s + news.length ≤ j) → arr1[j]? = arr[j]?) ∨ (c1 = w.heap.size ∧ s1 = i ∧ Pushed w w' (.cells arr1 e1 fr1)))
  (hold : ∀ j, j < n → arr1[i + j - s1]? = w.cell? ⟨c, i + j - s, none⟩) (hnew : ∀ (j : Nat) (u : Value), news'[j]? = some u → arr1[i + n + j - s1]? = some u) :
  Ext ρ H w (upR ρ H.next (c1, s1)) H' w' ∧ Rel pr w0 (upR ρ H.next (c1, s1)) H' w' := by
 obtain ⟨r, f, l, h1, h2, h3, h4, h5, h6, h7, rfl⟩ := grow_some hg
 obtain ⟨r0, f0, arr0, e0, fr0, a1, a2, a3, a4, a5, a6, a7, a8, a9, a10⟩ := hr.row h c s hρ
 rw [h1] at a1; injection a1 with a1; subst a1
 rw [h2] at a2; injection a2 with a2; subst a2
 obtain ⟨b1, b2⟩ := a10 h4
 have hroot : r.root ≠ H.next := by omega
 have hcl := hr.blk_lt hρ
 have hwr : Wr ρ H c := ⟨h, s, r, f, hρ, h1, h2, h4⟩
 -- where the other blocks are
 have hoth : ∀ d : Nat, d < w.heap.size → d ≠ c → w'.heap[d]? = w.heap[d]? := by
  intro d hd hne
  rcases hwhere with ⟨rfl, _, hu, _⟩ | ⟨_, _, hp⟩
  ·exact hu.other d hne
  ·exact hp.other d hd
 have hsize : w.heap.size ≤ w'.heap.size := by
  rcases hwhere with ⟨_, _, hu, _⟩ | ⟨_, _, hp⟩
  ·rw [hu.size]; exact Nat.le_refl _
  ·rw [hp.size]; omega
 have hblk : ∃ arr2, w'.heap[c]? = some (Obj.cells arr2 e0 fr0) ∧ arr2.size = arr0.size ∧ ∀ j, (j < i + n - s ∨ i + n - s + news.length ≤ j) → arr2[j]? = arr0[j]? := by
  rcases hwhere with ⟨rfl, rfl, hu, arr, k1, k2, k3⟩ | ⟨_, _, hp⟩
  ·rw [a3] at k1
   injection k1 with k1
   injection k1 with x1 x2 x3
   subst x1; subst x2; subst x3
   exact ⟨arr1, hc1, k2.symm, k3⟩
  ·exact ⟨arr0, (hp.other c hcl).trans a3, rfl, fun _ _ => rfl⟩
 obtain ⟨arr2, k1, k2, k3⟩ := hblk
 generalize hf' : ({ f with tip := H.next, cells := f.cells.putAll (i + n) (news.map fun v => (v, H.next)) } : Fam) = f'
 generalize hH' : ({ next := H.next + 1, rows := H.rows.put H.next ⟨r.root, i, i + n + news.length, r.sz⟩, fams := H.fams.put r.root f' } : AH) = H'
 have hnext : H'.next = H.next + 1 := by rw [← hH']
 have hrow : ∀ g, g < H.next → H'.rows.get g = H.rows.get g := fun g hg => by rw [← hH']; exact Tr.get_put_other _ _ (by omega)
 have hrown : H'.rows.get H.next = some ⟨r.root, i, i + n + news.length, r.sz⟩ := by rw [← hH']; exact Tr.get_put_same _ _ _
 have hfam : ∀ q, q ≠ r.root → H'.fams.get q = H.fams.get q := fun q hq => by rw [← hH']; exact Tr.get_put_other _ _ hq
 have hfamr : H'.fams.get r.root = some f' := by rw [← hH']; exact Tr.get_put_same _ _ _
 have hro' : f'.ro = false := by rw [← hf']; exact h4
 have htip' : f'.tip = H.next := by rw [← hf']
 have hext : Ext ρ H w (upR ρ H.next (c1, s1)) H' w' :=
  {sub := upR_sub hr.lt _
   new := fun g c2 s2 m1 m2 => by
    by_cases eh : g = H.next
    ·subst eh
     rw [upR_same] at m1
     simp only [Option.some.injEq, Prod.mk.injEq] at m1
     refine ⟨Nat.le_refl _, ?_⟩
     rcases hwhere with ⟨e, _⟩ | ⟨e, _⟩
     ·right; rw [← m1.1, e]; exact hwr
     ·left; omega
    ·rw [upR_other _ _ eh, m2] at m1; cases m1
   newr := fun g x r2 m1 m2 m3 => by
    by_cases eh : g = H.next
    ·subst eh
     rw [hrown] at m3
     injection m3 with m3
     subst m3
     exact .inr ⟨h, _, r, hρ, h1, rfl⟩
    ·rw [upR_other _ _ eh, m2] at m1; cases m1
   next := by omega
   rows := hrow
   ro := fun q g hq _ => by
    by_cases e : q = r.root
    ·subst e
     rw [h2] at hq; injection hq with hq; subst hq
     exact ⟨f', hfamr, by rw [hro', h4]⟩
    ·exact ⟨g, (hfam q e).trans hq, rfl⟩
   afr := fun q hq hn => hfam q fun e => hn h _ r hρ h1 e.symm
   size := hsize
   blk := fun d a e2 f2 hd => by
    by_cases e : d = c
    ·subst e
     rw [a3] at hd
     injection hd with hd
     injection hd with x1 x2 x3
     subst x1; subst x2; subst x3
     exact ⟨arr2, fr0, k1, k2⟩
    ·exact ⟨a, f2, (hoth d (Array.getElem?_eq_some_iff.1 hd).1 e).trans hd, rfl⟩
   frm := fun d hd hn => hoth d hd fun e => hn (e ▸ hwr) }
 refine ⟨hext, ?_⟩
 constructor
 ·intro g x hx
  rw [hnext]
  by_cases eh : g = H.next
  ·omega
  ·rw [upR_other _ _ eh] at hx; have := hr.lt g x hx; omega
 ·intro g c2 s2 hx
  rw [hnext]
  by_cases eh : g = H.next
  ·subst eh
   rw [upR_same] at hx
   simp only [Option.some.injEq, Prod.mk.injEq] at hx
   obtain ⟨rfl, rfl⟩ := hx
   refine ⟨_, f', arr1, e1, fr1, hrown, hfamr, hc1, hs1, by simp only; omega, hroom, by omega, by omega, by simp only; omega, fun _ => ⟨hfr, fun hpr => ?_⟩⟩
   rcases hwhere with ⟨e, _⟩ | ⟨e, _⟩
   ·exact b2 (e ▸ hpr)
   ·have q1 := hr.prlt _ hpr; have q2 := hr.low; omega
  ·rw [upR_other _ _ eh] at hx
   have hlt := hr.lt g _ hx
   obtain ⟨r2, f2, a, e2, fr2, m1, m2, m3, m4, m5, m6, m7, m8, m9, m10⟩ := hr.row g c2 s2 hx
   have hblk2 : ∃ a2, w'.heap[c2]? = some (Obj.cells a2 e2 fr2) ∧ a2.size = a.size := by
    by_cases e : c2 = c
    ·subst e
     rw [a3] at m3
     injection m3 with m3
     injection m3 with x1 x2 x3
     subst x1; subst x2; subst x3
     exact ⟨arr2, k1, k2⟩
    ·exact ⟨a, (hoth c2 (hr.blk_lt hx) e).trans m3, rfl⟩
   obtain ⟨a2, y1, y2⟩ := hblk2
   by_cases eq : r2.root = r.root
   ·rw [eq, h2] at m2; injection m2 with m2; subst m2
    exact ⟨r2, f', a2, e2, fr2, (hrow g hlt).trans m1, by rw [eq]; exact hfamr, y1, m4, m5, by omega, by omega, by omega, by omega, fun hro => ⟨fun j hj => (m10 (by rw [h4])).1 j (by omega), (m10 (by rw [h4])).2⟩⟩
   ·exact ⟨r2, f2, a2, e2, fr2, (hrow g hlt).trans m1, (hfam _ eq).trans m2, y1, m4, m5, by omega, m7, by omega, by omega, fun hro => ⟨fun j hj => (m10 hro).1 j (by omega), (m10 hro).2⟩⟩
 ·intro g c2 s2 j v hx hl
  obtain ⟨r2, f2, st, l1, l2, l3, l4, l5, l6⟩ := load_some hl
  by_cases eh : g = H.next
  ·subst eh
   rw [upR_same] at hx
   simp only [Option.some.injEq, Prod.mk.injEq] at hx
   obtain ⟨rfl, rfl⟩ := hx
   rw [hrown] at l1; injection l1 with l1; subst l1
   simp only at l2 l4 l5
   rw [hfamr] at l2; injection l2 with l2
   rw [← l2, ← hf'] at l3
   simp only [Tr.get_putAll, List.length_map] at l3
   by_cases hj : i + n ≤ j ∧ j < i + n + news.length
   ·rw [if_pos hj, List.getElem?_map] at l3
    cases hc : news[j - (i + n)]? with
    | none => rw [hc] at l3; cases l3
    | some u =>
     rw [hc] at l3
     simp only [Option.map_some, Option.some.injEq, Prod.mk.injEq] at l3
     obtain ⟨rfl, _⟩ := l3
     obtain ⟨u', q1, q2⟩ := hv.get hc
     refine ⟨u', ?_, hext.vr hr.lt q2⟩
     rw [cell_of_heap hc1]
     have := hnew _ _ q1
     rwa [show i + n + (j - (i + n)) - s1 = j - s1 by omega] at this
   ·rw [if_neg hj] at l3
    obtain ⟨q1, q2⟩ := loadN_get h3
    have q3 := q2 (j - i) (by omega)
    rw [show i + (j - i) = j by omega] at q3
    have q4 : ∃ u, H.load h j = some u := ⟨l[j - i]'(by omega), by rw [q3]; exact List.getElem?_eq_getElem _⟩
    obtain ⟨u, q4⟩ := q4
    have q5 := q4
    obtain ⟨r5, f5, st5, p1, p2, p3, p4, p5, p6⟩ := load_some q4
    rw [h1] at p1; injection p1 with p1; subst p1
    rw [h2] at p2; injection p2 with p2; subst p2
    rw [l3] at p3
    simp only [Option.some.injEq, Prod.mk.injEq] at p3
    obtain ⟨rfl, rfl⟩ := p3
    obtain ⟨u', q6, q7⟩ := hr.cell h c s j _ hρ q5
    refine ⟨u', ?_, hext.vr hr.lt q7⟩
    rw [cell_of_heap hc1]
    have := hold (j - i) (by omega)
    rw [show i + (j - i) - s1 = j - s1 by omega, show i + (j - i) - s = j - s by omega] at this
    rw [this]
    exact q6
  ·rw [upR_other _ _ eh] at hx
   have hlt := hr.lt g _ hx
   rw [hrow g hlt] at l1
   have hload : H.load g j = some v ∧ (r2.root = r.root → ¬ (i + n ≤ j ∧ j < i + n + news.length)) := by
    by_cases eq : r2.root = r.root
    ·rw [eq, hfamr] at l2; injection l2 with l2
     rw [← l2, ← hf'] at l3
     simp only [Tr.get_putAll, List.length_map] at l3
     by_cases hj : i + n ≤ j ∧ j < i + n + news.length
     ·rw [if_pos hj, List.getElem?_map] at l3
      cases hc : news[j - (i + n)]? with
      | none => rw [hc] at l3; cases l3
      | some u =>
       rw [hc] at l3
       simp only [Option.map_some, Option.some.injEq, Prod.mk.injEq] at l3
       omega
     ·rw [if_neg hj] at l3
      exact ⟨load_of l1 (by rw [eq]; exact h2) l3 l4 l5 l6, fun _ => hj⟩
    ·rw [hfam _ eq] at l2
     exact ⟨load_of l1 l2 l3 l4 l5 l6, fun e => absurd e eq⟩
   obtain ⟨v', q1, q2⟩ := hr.cell g c2 s2 j v hx hload.1
   refine ⟨v', ?_, hext.vr hr.lt q2⟩
   rw [← q1]
   by_cases ec : c2 = c
   ·subst ec
    rw [cell_of_heap k1, cell_of_heap a3]
    obtain ⟨r3, f3, _, _, _, m1, m2, _, m4, _⟩ := hr.row g c2 s2 hx
    rw [l1] at m1; injection m1 with m1; subst m1
    rcases hr.apart g h c2 s2 s r2 r hx hρ l1 h1 with ⟨e1, e2⟩ | ⟨_, f5, e3, e4⟩
    ·have := hload.2 e1
     exact k3 _ (by omega)
    ·rw [h2] at e3; injection e3 with e3; subst e3; rw [h4] at e4; cases e4
   ·simp only [World.cell?]
    rw [hoth c2 (hr.blk_lt hx) ec]
 ·intro g1 g2 c2 t1 t2 r1 r2 m1 m2 m3 m4
  -- a handle of before against the new one
  have key : ∀ g t rg, g < H.next → ρ g = some (c1, t) → H.rows.get g = some rg → rg.root = r.root ∧ t = s1 := by
   intro g t rg _ x2 x3
   rcases hwhere with ⟨e, e', _⟩ | ⟨e, _⟩
   ·subst e; subst e'
    rcases hr.apart g h c1 t s1 rg r x2 hρ x3 h1 with hh | ⟨_, f5, e3, e4⟩
    ·exact hh
    ·rw [h2] at e3; injection e3 with e3; subst e3; rw [h4] at e4; cases e4
   ·have := hr.blk_lt x2; omega
  by_cases e1 : g1 = H.next
  ·subst e1
   rw [upR_same] at m1
   simp only [Option.some.injEq, Prod.mk.injEq] at m1
   obtain ⟨rfl, rfl⟩ := m1
   rw [hrown] at m3; injection m3 with m3; subst m3
   by_cases e2 : g2 = H.next
   ·subst e2
    rw [upR_same] at m2
    simp only [Option.some.injEq, Prod.mk.injEq] at m2
    rw [hrown] at m4; injection m4 with m4; subst m4
    exact .inl ⟨rfl, m2.2⟩
   ·rw [upR_other _ _ e2] at m2
    have hlt := hr.lt g2 _ m2
    rw [hrow _ hlt] at m4
    obtain ⟨x1, x2⟩ := key g2 t2 r2 hlt m2 m4
    exact .inl ⟨x1.symm, x2.symm⟩
  ·rw [upR_other _ _ e1] at m1
   have hlt := hr.lt g1 _ m1
   rw [hrow _ hlt] at m3
   by_cases e2 : g2 = H.next
   ·subst e2
    rw [upR_same] at m2
    simp only [Option.some.injEq, Prod.mk.injEq] at m2
    obtain ⟨rfl, rfl⟩ := m2
    rw [hrown] at m4; injection m4 with m4; subst m4
    obtain ⟨x1, x2⟩ := key g1 t1 r1 hlt m1 m3
    exact .inl ⟨x1, x2⟩
   ·rw [upR_other _ _ e2] at m2
    rw [hrow _ (hr.lt g2 _ m2)] at m4
    rcases hr.apart g1 g2 c2 t1 t2 r1 r2 m1 m2 m3 m4 with h8 | ⟨⟨f1, n1, n2⟩, f2, n3, n4⟩
    ·exact .inl h8
    ·have x1 : r1.root ≠ r.root := fun e => by rw [e, h2] at n1; injection n1 with n1; subst n1; rw [h4] at n2; cases n2
     have x2 : r2.root ≠ r.root := fun e => by rw [e, h2] at n3; injection n3 with n3; subst n3; rw [h4] at n4; cases n4
     exact .inr ⟨⟨f1, (hfam _ x1).trans n1, n2⟩, f2, (hfam _ x2).trans n3, n4⟩
 ·intro d hd
  have q1 := hr.prlt d hd
  rw [hoth d (Nat.lt_of_lt_of_le q1 hr.low) (by rintro rfl; exact b2 hd)]
  exact hr.old d hd
 ·exact hr.prlt
 ·exact Nat.le_trans hr.low hsize
 all_goals
  rcases hwhere with ⟨_, _, hu, _⟩ | ⟨_, _, hp⟩
 ·rw [hu.os]; exact hr.os
 ·rw [hp.os]; exact hr.os
 ·rw [hu.tape]; exact hr.tape
 ·rw [hp.tape]; exact hr.tape
 ·rw [hu.output]; exact hr.output
 ·rw [hp.output]; exact hr.output
end
end AM
end Go.Proofs.YtemcmblcogljkaaGreatDoor

