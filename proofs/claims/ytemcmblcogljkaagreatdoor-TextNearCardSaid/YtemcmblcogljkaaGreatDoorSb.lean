/- The abstract machine: its operations beside the model's. The abstract machine: its operations beside the model's, second part. The abstract machine: its operations beside the model's, third part: what is made, cut and appended. -/
import Derived.Test.YtemcmblcogljkaaGreatDoorSa
import Derived.Laws.Entries
import Derived.Laws.BitsAllLaws
import Derived.Laws.Strings
set_option linter.all false
set_option linter.unusedSimpArgs false
set_option linter.unusedVariables false
namespace Go.Proofs.YtemcmblcogljkaaGreatDoor
namespace AM
open Go
theorem peel_run {α : Type} {P : Program} {s : Sem α} {v : α} (h : peel P s = some v) (w : World) : s.run P w = .ok v w := by
 induction s with
 | pure a => simp only [peel, Option.some.injEq] at h; subst h; rfl
 | program k ih => simp only [peel] at h; exact ih P h
 | _ => simp [peel] at h
theorem peelF_run {P : Program} {s : Sem Value} {v : Value} (h : peelF P s = some v) : (∀ w : World, s.run P w = .ok v w) ∧ flat v = true := by
 unfold peelF at h
 split at h
 ·rename_i u hu
  split at h
  ·rename_i hf
   injection h with h
   subst h
   exact ⟨peel_run hu, hf⟩
  ·cases h
 ·cases h
section
variable {P : Program} {pr : Nat → Prop} {w0 : World} {ρ ρ' : Rho} {H H' : AH} {w w' : World}
theorem bytes_beq (x y : ByteArray) : (x.toList == y.toList) = (x.data.toList == y.data.toList) := by
 rw [ByteArray.toList_eq, ByteArray.toList_eq]
theorem aInt_run {op : BinOp} {k : IntKind} {x y : Int} {v : Value} (h : aInt op k x y = some v) (t : TypeId) : (binOp op t (.int k x) (.int k y)).run P w = .ok v w ∧ flat v = true := by
 cases op <;> simp only [aInt, Option.some.injEq] at h <;> (try cases h)
 case add => exact ⟨by simp [binOp, Op.intArith], rfl⟩
 case sub => exact ⟨by simp [binOp, Op.intArith], rfl⟩
 case mul => exact ⟨by simp [binOp, Op.intArith], rfl⟩
 case eql => exact ⟨by simp [binOp, Op.intCmp], rfl⟩
 case neq => exact ⟨by simp [binOp, Op.intCmp], rfl⟩
 case lss => exact ⟨by simp [binOp, Op.intCmp], rfl⟩
 case leq => exact ⟨by simp [binOp, Op.intCmp], rfl⟩
 case gtr => exact ⟨by simp [binOp, Op.intCmp], rfl⟩
 case geq => exact ⟨by simp [binOp, Op.intCmp], rfl⟩
 case and => exact ⟨by simp [binOp, Op.intBits], rfl⟩
 case or => exact ⟨by simp [binOp, Op.intBits], rfl⟩
 case xor => exact ⟨by simp [binOp, Op.intBits], rfl⟩
 case andNot => exact ⟨by simp [binOp, Op.intBits], rfl⟩
 case quo =>
  split at h
  ·cases h
  ·rename_i hy
   injection h with h
   subst h
   have hy' : ¬ y = 0 := by simpa using hy
   refine ⟨?_, rfl⟩
   simp [binOp, Op.intDiv, hy']
 case rem =>
  split at h
  ·cases h
  ·rename_i hy
   injection h with h
   subst h
   have hy' : ¬ y = 0 := by simpa using hy
   refine ⟨?_, rfl⟩
   simp [binOp, Op.intDiv, hy']
theorem aShift_run {op : BinOp} (ho : op = .shl ∨ op = .shr) {k k' : IntKind} {x y : Int} {v : Value} (h : aShift op k x y = some v) (t : TypeId) : (binOp op t (.int k x) (.int k' y)).run P w = .ok v w ∧ flat v = true := by
 unfold aShift at h
 split at h
 ·cases h
 ·rename_i hy
  have hy' : ¬ y < 0 := by simpa using hy
  rcases ho with rfl | rfl
  ·injection h with h
   subst h
   refine ⟨?_, rfl⟩
   simp [binOp, Op.shift, hy']
  ·injection h with h
   subst h
   refine ⟨?_, rfl⟩
   simp [binOp, Op.shift, hy']
theorem aStr_run {op : BinOp} {x y : ByteArray} {v : Value} (h : aStr op x y = some v) (t : TypeId) : (binOp op t (.string x) (.string y)).run P w = .ok v w ∧ flat v = true := by
 cases op <;> simp only [aStr] at h <;> (try cases h)
 case add =>
  split at h
  ·rename_i hb
   injection h with h
   subst h
   have hb' : ¬ (((x.size + y.size : Nat) : Int) > IntKind.i64.max) := by
    have := Nat.le_of_ble_eq_true hb
    have e : IntKind.i64.max = 9223372036854775807 := rfl
    omega
   refine ⟨?_, rfl⟩
   simp only [binOp, Op.stringOp]
   rw [if_neg hb']
   rfl
  ·cases h
 case eql => refine ⟨?_, rfl⟩; simp [binOp, Op.stringOp, bytes_beq]
 case neq => refine ⟨?_, rfl⟩; simp [binOp, Op.stringOp, bytes_beq]
theorem eqGuard_int (op : BinOp) (t : TypeId) (xo yo : Operand) (k k' : IntKind) (x y : Int) : (eqGuard op t xo yo (.int k x) (.int k' y)).run P w = .ok () w := by
 unfold eqGuard; cases op <;> simp
theorem eqGuard_str (op : BinOp) (t : TypeId) (xo yo : Operand) (x y : ByteArray) : (eqGuard op t xo yo (.string x) (.string y)).run P w = .ok () w := by
 unfold eqGuard; cases op <;> simp
theorem nil_eqlIn (n : Nat) {t : TypeId} {x y : Value} {a b : Bool} (hx : refFits (P.underlying t) x = true) (hy : refFits (P.underlying t) y = true) (ha : isNil x = some a) (hb : isNil y = some b) (hne : a ≠ b) :
  (Op.equalIn (n + 1) t x y).run P w = .ok false w := by
 cases hd : P.underlying t with
 | none => rw [hd] at hx; simp [refFits] at hx
 | some d =>
  rw [hd] at hx hy
  have hu := fun w => run_underlying hd w
  match d, x, y, hx, hy with
  | .pointer e, .pointer none, .pointer (some q), _, _ => simp [Op.equalIn, hu]
  | .pointer e, .pointer (some p), .pointer none, _, _ => simp [Op.equalIn, hu]
  | .pointer e, .pointer none, .pointer none, _, _ => simp only [isNil, Option.some.injEq] at ha hb; exact absurd (ha.symm.trans hb) hne
  | .pointer e, .pointer (some _), .pointer (some _), _, _ => simp only [isNil, Option.some.injEq] at ha hb; exact absurd (ha.symm.trans hb) hne
  | .slice e, .slice none l c, .slice (some q) l' c', _, _ => simp [Op.equalIn, hu]
  | .slice e, .slice (some p) l c, .slice none l' c', _, _ => simp [Op.equalIn, hu]
  | .slice e, .slice none _ _, .slice none _ _, _, _ => simp only [isNil, Option.some.injEq] at ha hb; exact absurd (ha.symm.trans hb) hne
  | .slice e, .slice (some _) _ _, .slice (some _) _ _, _, _ => simp only [isNil, Option.some.injEq] at ha hb; exact absurd (ha.symm.trans hb) hne
  | .func p r v, .nilFunc, .func f a b, _, _ => simp [Op.equalIn, hu]
  | .func p r v, .func f a b, .nilFunc, _, _ => simp [Op.equalIn, hu]
  | .func p r v, .nilFunc, .nilFunc, _, _ => simp only [isNil, Option.some.injEq] at ha hb; exact absurd (ha.symm.trans hb) hne
  | .func p r v, .func .., .func .., _, _ => simp only [isNil, Option.some.injEq] at ha hb; exact absurd (ha.symm.trans hb) hne
  | .interface ms, .nilIface, .iface t v, _, _ => simp [Op.equalIn, hu]
  | .interface ms, .iface t v, .nilIface, _, _ => simp [Op.equalIn, hu]
  | .interface ms, .nilIface, .nilIface, _, _ => simp only [isNil, Option.some.injEq] at ha hb; exact absurd (ha.symm.trans hb) hne
  | .interface ms, .iface .., .iface .., _, _ => simp only [isNil, Option.some.injEq] at ha hb; exact absurd (ha.symm.trans hb) hne
theorem nil_eql {t : TypeId} {x y : Value} {a b : Bool} (hx : refFits (P.underlying t) x = true) (hy : refFits (P.underlying t) y = true) (ha : isNil x = some a) (hb : isNil y = some b) (hne : a ≠ b) :
  (Op.equal t x y).run P w = .ok false w := nil_eqlIn 9999 hx hy ha hb hne
theorem VR.isNil {x x' : Value} (h : VR ρ H w x x') : AM.isNil x' = AM.isNil x := by cases h <;> rfl
theorem VR.refFits {x x' : Value} (h : VR ρ H w x x') (d : Option TypeDesc) : AM.refFits d x' = AM.refFits d x := by
 cases h <;> rcases d with _ | d <;> (try cases d) <;> rfl
theorem aBin_run {op : BinOp} {t : TypeId} {xo yo : Operand} {x y x' y' v : Value} (h : aBin P op t xo yo x y = some v) (hx : VR ρ H w x x') (hy : VR ρ H w y y') (w1 : World) :
  (do eqGuard op t xo yo x' y'; binOp op t x' y' : Sem Value).run P w1 = .ok v w1 ∧ flat v = true := by
 unfold aBin at h
 split at h
 ·rename_i k a k' b
  cases hx; cases hy
  simp only [Sem.run_bind, eqGuard_int, Result.andThen_ok]
  split at h
  ·exact aShift_run (.inl rfl) h t
  ·exact aShift_run (.inr rfl) h t
  ·split at h
   ·rename_i hk
    have : k = k' := by simpa using hk
    subst this
    exact aInt_run h t
   ·cases h
 ·cases hx; cases hy
  simp only [Sem.run_bind, eqGuard_str, Result.andThen_ok]
  exact aStr_run h t
 ·split at h
  ·rename_i hf
   simp only [Bool.and_eq_true] at hf
   rw [hx.flat hf.1, hy.flat hf.2]
   exact ⟨(peelF_run h).1 w1, (peelF_run h).2⟩
  ·rename_i hnf
   have key : ∀ (a b : Bool), a ≠ b → (refFits (P.underlying t) x && refFits (P.underlying t) y) = true → isNil x = some a → isNil y = some b →
     (∀ xo yo op, (eqGuard op t xo yo x' y').run P w1 = .ok () w1) ∧ (binOp .eql t x' y').run P w1 = .ok (.bool false) w1 ∧ (binOp .neq t x' y').run P w1 = .ok (.bool true) w1 := by
    intro a b hne hr ha hb
    simp only [Bool.and_eq_true] at hr
    have hx1 : refFits (P.underlying t) x' = true := by rw [hx.refFits]; exact hr.1
    have hy1 : refFits (P.underlying t) y' = true := by rw [hy.refFits]; exact hr.2
    have ha1 : isNil x' = some a := by rw [hx.isNil]; exact ha
    have hb1 : isNil y' = some b := by rw [hy.isNil]; exact hb
    have he := nil_eql (P := P) (w := w1) hx1 hy1 ha1 hb1 hne
    clear hx hy h hnf
    have hg : ∀ xo yo op, (eqGuard op t xo yo x' y').run P w1 = .ok () w1 := by
     intro xo yo op
     unfold eqGuard
     cases hop : (match op with | .eql => true | .neq => true | _ => false) with
     | false => cases op <;> simp at hop <;> simp
     | true =>
      cases x' <;> simp only [AM.isNil, reduceCtorEq] at ha1 <;> cases y' <;> simp only [AM.isNil, reduceCtorEq] at hb1 <;> (try (cases op <;> simp; done))
      simp only [Option.some.injEq] at ha1 hb1
      exact absurd (ha1.symm.trans hb1) hne
    refine ⟨hg, ?_⟩
    cases x' <;> simp only [AM.isNil, reduceCtorEq] at ha1 <;> cases y' <;> simp only [AM.isNil, reduceCtorEq] at hb1 <;> simp [binOp, he]
   split at h
   ·rename_i h1 h2 h3
    injection h with h; subst h
    obtain ⟨k1, k2, k3⟩ := key _ _ (by decide) h1 h2 h3
    refine ⟨?_, rfl⟩
    simp only [Sem.run_bind, k1, Result.andThen_ok, k2]
   ·rename_i h1 h2 h3
    injection h with h; subst h
    obtain ⟨k1, k2, k3⟩ := key _ _ (by decide) h1 h2 h3
    refine ⟨?_, rfl⟩
    simp only [Sem.run_bind, k1, Result.andThen_ok, k2]
   ·rename_i h1 h2 h3
    injection h with h; subst h
    obtain ⟨k1, k2, k3⟩ := key _ _ (by decide) h1 h2 h3
    refine ⟨?_, rfl⟩
    simp only [Sem.run_bind, k1, Result.andThen_ok, k3]
   ·rename_i h1 h2 h3
    injection h with h; subst h
    obtain ⟨k1, k2, k3⟩ := key _ _ (by decide) h1 h2 h3
    refine ⟨?_, rfl⟩
    simp only [Sem.run_bind, k1, Result.andThen_ok, k3]
   ·cases h
theorem add_plain (c o k : Nat) : (⟨c, o, none⟩ : Addr).add k = ⟨c, o + k, none⟩ := by unfold Addr.add; split <;> simp_all
theorem run_load' {a : Addr} {v : Value} (h : w.cell? a = some v) (m : Mode) : (Go.load a m).run P w = .ok v w := by
 simp [h]
theorem run_loadCellsFrom (hr : Rel pr w0 ρ H w) {h c s : Nat} (hρ : ρ h = some (c, s)) : ∀ (n i k : Nat) (l : List Value) (acc : Array Value), s ≤ i → H.loadN h (i + k) n = some l →
  ∃ l', (∀ w1 : World, w1.heap = w.heap → (loadCellsFrom ⟨c, i - s, none⟩ k n acc).run P w1 = .ok (acc ++ l'.toArray) w1) ∧ VRs ρ H w l l' ∧ ∀ j, j < n → l'[j]? = w.cell? ⟨c, i + k + j - s, none⟩
 | 0, i, k, l, acc, _, hl => by
  simp only [AH.loadN, Option.some.injEq] at hl
  subst hl
  exact ⟨[], fun w1 _ => by simp [loadCellsFrom], .nil, fun j hj => by omega⟩
 | n + 1, i, k, l, acc, hs, hl => by
  simp only [AH.loadN] at hl
  split at hl
  ·cases hl
  ·rename_i v hv
   split at hl
   ·cases hl
   ·rename_i l1 hl1
    simp only [Option.some.injEq] at hl
    subst hl
    obtain ⟨v', h1, h2⟩ := hr.cell h c s _ v hρ hv
    rw [show i + k + 1 = i + (k + 1) by omega] at hl1
    obtain ⟨l', h3, h4, h5⟩ := run_loadCellsFrom hr hρ n i (k + 1) l1 (acc.push v') hs hl1
    refine ⟨v' :: l', ?_, .cons h2 h4, fun j hj => ?_⟩
    rotate_left
    ·cases j with
     | zero => simpa using h1.symm
     | succ j => rw [List.getElem?_cons_succ, h5 j (by omega)]; congr 2; omega
    intro w1 hw1
    have h1' : w1.cell? ⟨c, i + k - s, none⟩ = some v' := by rw [← h1]; simp only [World.cell?, hw1]
    simp only [loadCellsFrom, Sem.run_bind, add_plain]
    rw [show i - s + k = i + k - s by omega, run_load' h1']
    simp only [Result.andThen_ok]
    rw [h3 w1 hw1]
    simp
theorem run_loadCells (hr : Rel pr w0 ρ H w) {h c s i n : Nat} {l : List Value} (hρ : ρ h = some (c, s)) (hs : s ≤ i) (hl : H.loadN h i n = some l) :
  ∃ l', (∀ w1 : World, w1.heap = w.heap → (loadCells ⟨c, i - s, none⟩ n).run P w1 = .ok ⟨l'⟩ w1) ∧ VRs ρ H w l l' ∧ ∀ j, j < n → l'[j]? = w.cell? ⟨c, i + j - s, none⟩ := by
 obtain ⟨l', h1, h2, h3⟩ := run_loadCellsFrom (P := P) hr hρ n i 0 l #[] hs (by simpa using hl)
 exact ⟨l', fun w1 hw1 => by unfold loadCells; rw [h1 w1 hw1]; simp, h2, fun j hj => by simpa using h3 j hj⟩
theorem run_store' {a : Addr} {u v : Value} (h1 : AM.oneCell v = true) (h2 : w.cell? a = some u) (h3 : w.frozen? a = false) (m : Mode) : (Go.store a v m).run P w = .ok () (w.setCell a v) := by
 cases v <;> simp only [AM.oneCell, Bool.false_eq_true] at h1 <;> simp [Go.store, Sem.run, h2, h3]
theorem run_storeCells {h c s : Nat} (hρ : ρ h = some (c, s)) : ∀ (l l' : List Value) (i k : Nat) (H H' : AH) (w : World), Rel pr w0 ρ H w → s ≤ i → H.storeN h (i + k) l = some H' → VRs ρ H w l l' →
  ∃ w', (storeCells ⟨c, i - s, none⟩ l' k).run P w = .ok () w' ∧ Ext ρ H w ρ H' w' ∧ Rel pr w0 ρ H' w'
 | [], l', i, k, H, H', w, hr, _, hst, hv => by
  simp only [AH.storeN, Option.some.injEq] at hst
  subst hst
  rw [hv.nil_inv]
  exact ⟨w, rfl, Ext.refl _ _ _, hr⟩
 | v :: l, l', i, k, H, H', w, hr, hs, hst, hv => by
  simp only [AH.storeN] at hst
  split at hst
  ·cases hst
  ·rename_i H1 h1
   obtain ⟨v', r, rfl, hv1, hv2⟩ := hv.cons_inv
   obtain ⟨⟨u, k1⟩, k2, k3, k4⟩ := hr.store hρ (show s ≤ i + k by omega) h1 hv1
   rw [show i + k + 1 = i + (k + 1) by omega] at hst
   obtain ⟨w', m1, m2, m3⟩ := run_storeCells hρ l r i (k + 1) H1 H' _ k4 hs hst (k3.vrs hr.lt hv2)
   refine ⟨w', ?_, k3.trans k4 hr m2, m3⟩
   obtain ⟨r2, f, _, _, _, _, _, _, hone, _⟩ := store_some h1
   simp only [storeCells, Sem.run_bind, add_plain]
   rw [show i - s + k = i + k - s by omega, run_store' (by rw [hv1.oneCell]; exact hone) k1 k2]
   simp only [Result.andThen_ok]
   exact m1
end
end AM
end Go.Proofs.YtemcmblcogljkaaGreatDoor

namespace Go.Proofs.YtemcmblcogljkaaGreatDoor
namespace AM
open Go
section
variable {P : Program} {pr : Nat → Prop} {w0 : World} {ρ ρ' : Rho} {H H' : AH} {w w' : World}
structure TR (ρ : Rho) (H : AH) (w : World) (n : Nat) (t : Tr Value) (tmps : Array Value) : Prop where
 size : tmps.size = n
 get : ∀ i v, t.get i = some v → ∃ v', tmps[i]? = some v' ∧ VR ρ H w v v'
theorem TR.ext {n : Nat} {t : Tr Value} {tmps : Array Value} (h : TR ρ H w n t tmps) (he : Ext ρ H w ρ' H' w') (hlt : ∀ h x, ρ h = some x → h < H.next) : TR ρ' H' w' n t tmps :=
 ⟨h.size, fun i v hv => by obtain ⟨v', h1, h2⟩ := h.get i v hv; exact ⟨v', h1, he.vr hlt h2⟩⟩
theorem TR.put {n : Nat} {t t' : Tr Value} {tmps : Array Value} (h : TR ρ H w n t tmps) {dst : Option Tmp} {v v' : Value} (hp : putT n t dst v = some t') (hv : VR ρ H w v v') (ds : List Deferred) :
  TR ρ H w n t' ((⟨tmps, ds⟩ : Act).put dst v').tmps := by
 cases dst with
 | none => simp only [putT, Option.some.injEq] at hp; subst hp; exact h
 | some d =>
  simp only [putT] at hp
  split at hp
  ·rename_i hd
   injection hp with hp
   subst hp
   have hd' : d < n := by simpa [Nat.blt_eq] using hd
   refine ⟨by simp [Act.put, h.size], fun i u hu => ?_⟩
   rw [Tr.get_put] at hu
   by_cases e : i = d
   ·subst e
    rw [if_pos rfl] at hu
    injection hu with hu
    subst hu
    exact ⟨v', by simp [Act.put, h.size, hd'], hv⟩
   ·rw [if_neg e] at hu
    obtain ⟨u', h1, h2⟩ := h.get i u hu
    exact ⟨u', by simp only [Act.put]; rw [Array.getElem?_setIfInBounds_ne (Ne.symm e)]; exact h1, h2⟩
  ·cases hp
theorem ev_sound {n : Nat} {t : Tr Value} {a : Act} (ht : TR ρ H w n t a.tmps) {x : Operand} {v : Value} (h : ev t x = some v) : VR ρ H w v (a.eval x) := by
 cases x with
 | tmp i =>
  obtain ⟨v', h1, h2⟩ := ht.get i v h
  simp only [Act.eval]
  rw [Array.getD_eq_getD_getElem?, h1]
  exact h2
 | const u =>
  simp only [ev] at h
  split at h
  ·rename_i hf; injection h with h; subst h; exact flat_refl u hf
  ·cases h
 | global g => simp [ev] at h
 | func f => simp only [ev, Option.some.injEq] at h; subst h; exact .func _ [] [] [] [] rfl (fun i v v' h => by simp at h) rfl (fun i v v' h => by simp at h)
theorem evs_sound {n : Nat} {t : Tr Value} {a : Act} (ht : TR ρ H w n t a.tmps) : ∀ {xs : List Operand} {l : List Value}, evs t xs = some l → VRs ρ H w l (xs.map a.eval)
 | [], l, h => by simp only [evs, Option.some.injEq] at h; subst h; exact .nil
 | x :: xs, l, h => by
  simp only [evs] at h
  split at h
  ·cases h
  ·rename_i v hv
   split at h
   ·cases h
   ·rename_i l1 hl
    injection h with h
    subst h
    exact .cons (ev_sound ht hv) (evs_sound ht hl)
def PRs (ρ : Rho) (H : AH) (w : World) : List (Nat × Value) → List (Nat × Value) → Prop
 | [], [] => True
 | (i, v) :: r, (j, v') :: r' => i = j ∧ VR ρ H w v v' ∧ PRs ρ H w r r'
 | _, _ => False
theorem evps_sound {n : Nat} {t : Tr Value} {a : Act} (ht : TR ρ H w n t a.tmps) : ∀ {xs : List (Nat × Operand)} {l : List (Nat × Value)}, evps t xs = some l → PRs ρ H w l (xs.map fun (i, x) => (i, a.eval x))
 | [], l, h => by simp only [evps, Option.some.injEq] at h; subst h; trivial
 | (i, x) :: xs, l, h => by
  simp only [evps] at h
  split at h
  ·cases h
  ·rename_i v hv
   split at h
   ·cases h
   ·rename_i l1 hl
    injection h with h
    subst h
    exact ⟨rfl, ev_sound ht hv, evps_sound ht hl⟩
def Does (P : Program) (a : Act) (o : Oper) (w : World) (v' : Value) (w' : World) : Prop :=
 (execOp a.eval o).run P w = .ok (.value v') w' ∨ ((execOp a.eval o).run P w = .ok .skip w' ∧ v' = undef)
theorem Does.wp {a : Act} {o : Oper} {v' : Value} {K : Act → World → Prop} {Q : Exit → Act → World → Prop} (h : Does P a o w v' w') (hk : K (a.put o.dst v') w') : o.wp P a w K Q := by
 unfold Oper.wp
 rcases h with h | ⟨h, rfl⟩ <;> rw [h] <;> exact hk
def Good (P : Program) (pr : Nat → Prop) (w0 : World) (ρ : Rho) (H : AH) (w : World) (a : Act) (o : Oper) (v : Value) (H' : AH) : Prop :=
 ∀ (K : Act → World → Prop) (Q : Exit → Act → World → Prop), (∀ ρ' w' v', Ext ρ H w ρ' H' w' → Rel pr w0 ρ' H' w' → VR ρ' H' w' v v' → K (a.put o.dst v') w') → o.wp P a w K Q
theorem Good.of {a : Act} {o : Oper} {v v' : Value} (he : Ext ρ H w ρ' H' w') (hr : Rel pr w0 ρ' H' w') (hv : VR ρ' H' w' v v') (hd : Does P a o w v' w') : Good P pr w0 ρ H w a o v H' :=
 fun _ _ hk => hd.wp (hk ρ' w' v' he hr hv)
theorem Good.light {a : Act} {o : Oper} {v v' : Value} (hr : Rel pr w0 ρ H w) (hv : VR ρ H w v v') (hd : Does P a o w v' w) : Good P pr w0 ρ H w a o v H :=
 Good.of (Ext.refl ρ H w) hr hv hd
theorem withH_some {x : Option Value} {v : Value} (h : withH H x = some (v, H')) : x = some v ∧ H' = H := by
 cases x with
 | none => cases h
 | some u => simp only [withH, Option.some.injEq, Prod.mk.injEq] at h; exact ⟨by rw [h.1], h.2.symm⟩
theorem run_sizeOf' {t : TypeId} {n : Nat} (h : sizeOf' P t = some n) (w : World) : (Go.sizeOf t).run P w = .ok n w := by
 unfold sizeOf' at h
 cases hi : P.info? t with
 | none => rw [hi] at h; cases h
 | some i =>
  rw [hi] at h
  simp only [Option.map_some, Option.some.injEq] at h
  simp [Go.sizeOf, typeInfo, hi, h]
theorem run_isAgg {t : TypeId} (hk : known P t = true) (w : World) : (isAgg t).run P w = .ok (aggSize P t).isSome w ∧ ∀ n, aggSize P t = some n → (Go.sizeOf t).run P w = .ok n w := by
 unfold known at hk
 simp only [Bool.and_eq_true, Option.isSome_iff_exists] at hk
 obtain ⟨⟨d, hd⟩, i, hi⟩ := hk
 unfold aggSize
 rw [hd]
 constructor
 ·cases d <;> simp [isAgg, run_underlying hd, hi]
 ·intro n hn
  cases d <;> simp only [hi, Option.map_some, Option.some.injEq, reduceCtorEq] at hn <;> simp [Go.sizeOf, typeInfo, hi, hn]
theorem load_run (hr : Rel pr w0 ρ H w) {ty : TypeId} {av av' v : Value} (hk : known P ty = true) (ha : VR ρ H w av av')
  (h : (match aggSize P ty with | some n => loadA H n av | none => load1 H av) = some v) : ∃ v', (Instr.loadAt ty av').run P w = .ok v' w ∧ VR ρ H w v v' := by
 obtain ⟨hi, hs⟩ := run_isAgg hk w
 cases hg : aggSize P ty with
 | some n =>
  rw [hg] at h hi
  simp only at h
  unfold loadA at h
  split at h
  ·rename_i g i
   cases ha with
   | ptr _ _ c s h1 h2 =>
    split at h
    ·rename_i l hl
     injection h with h
     subst h
     obtain ⟨l', k1, k2, _⟩ := run_loadCells (P := P) hr h1 h2 hl
     refine ⟨.agg ⟨l'⟩, ?_, .agg _ _ k2.1 k2.2⟩
     simp [Instr.loadAt, Instr.sureAddr, loadVar, hi, hs n hg, k1 w rfl]
    ·cases h
  ·cases h
 | none =>
  rw [hg] at h hi
  simp only at h
  unfold load1 at h
  split at h
  ·rename_i g i
   cases ha with
   | ptr _ _ c s h1 h2 =>
    obtain ⟨v', k1, k2⟩ := hr.cell _ _ _ _ v h1 h
    refine ⟨v', ?_, k2⟩
    simp [Instr.loadAt, Instr.sureAddr, loadVar, hi, k1]
  ·cases h
theorem store_run (hr : Rel pr w0 ρ H w) {ty : TypeId} {n : Nat} {av av' v v' : Value} (hn : sizeOf' P ty = some n) (ha : VR ρ H w av av') (hv : VR ρ H w v v') (h : storeV H n av v = some H') :
  ∃ w', (Instr.storeAt ty av' v').run P w = .ok () w' ∧ Ext ρ H w ρ H' w' ∧ Rel pr w0 ρ H' w' := by
 unfold storeV at h
 split at h
 ·rename_i g i
  cases ha with
  | ptr _ _ c s h1 h2 =>
   split at h
   ·rename_i hb
    have hb' : v.cells.size = n := Nat.eq_of_beq_eq_true hb
    have hc := hv.cells
    have hsz : v'.cells.size = n := by have := hc.1; simp at this; omega
    obtain ⟨w', k1, k2, k3⟩ := run_storeCells (P := P) h1 _ _ i 0 H H' w hr h2 (by simpa using h) hc
    refine ⟨w', ?_, k2, k3⟩
    have hs := run_sizeOf' hn w
    simp [Instr.storeAt, Instr.sureAddr, storeVar, hs, hsz, k1]
   ·cases h
 ·cases h
theorem zeroCells_run {t : TypeId} {cs : Array Value} (h : zeroCells' P t = some cs) (w : World) : ∃ z, (zeroValue t).run P w = .ok z w ∧ z.cells = cs ∧ flat z = true := by
 unfold zeroCells' at h
 split at h
 ·rename_i z hz
  split at h
  ·rename_i hf
   injection h with h
   cases hi : P.info? t with
   | none => rw [hi] at hz; cases hz
   | some i =>
    rw [hi] at hz
    simp only [Option.bind_some] at hz
    refine ⟨z, ?_, h, hf⟩
    simp [zeroValue, typeInfo, hi, hz]
  ·cases h
 ·cases h
theorem flat_cells {z : Value} (h : flat z = true) : VRs ρ H w z.cells.toList z.cells.toList := (flat_refl z h).cells
theorem newRow_good (hr : Rel pr w0 ρ H w) (sz : Nat) {cells cells' : List Value} (hv : VRs ρ H w cells cells') (e : TypeId) :
  Ext ρ H w (upR ρ H.next (w.heap.size, 0)) (H.new sz cells) { w with heap := w.heap.push (.cells ⟨cells'⟩ e) } ∧ Rel pr w0 (upR ρ H.next (w.heap.size, 0)) (H.new sz cells) { w with heap := w.heap.push (.cells ⟨cells'⟩ e) } :=
 hr.new sz hv (Pushed.mk' w _ w.drawn) (fun j u h => by simpa using h) (fun j _ h => by simp at h)
theorem partV_sound {ag : Option Nat} {off : Nat} {x x' v : Value} (hx : VR ρ H w x x') (h : partV ag off x = some v) {ty : TypeId} (hk : known P ty = true) (hg : aggSize P ty = ag) :
  ∃ v' cs', x' = .agg cs' ∧ (part ty cs' off).run P w = .ok v' w ∧ VR ρ H w v v' := by
 unfold partV at h
 split at h
 ·rename_i cs
  cases hx with
  | agg a a' ha ha' =>
   obtain ⟨hi, hs⟩ := run_isAgg hk w
   split at h
   ·rename_i n
    injection h with h
    subst h
    rw [hg] at hi
    refine ⟨.agg ⟨(a'.drop off).take n⟩, ⟨a'⟩, rfl, ?_, ?_⟩
    ·simp only [part, Sem.run_bind, hi, Result.andThen_ok, Option.isSome_some, if_true, hs n hg, Sem.run_pure]
     simp [List.extract]
    ·have := (VRs.take (VRs.drop (⟨ha, ha'⟩ : VRs ρ H w a a') off) n)
     have e : (Array.extract ⟨a⟩ off (off + n)) = (⟨(a.drop off).take n⟩ : Array Value) := by simp [List.extract]
     rw [e]
     exact .agg _ _ this.1 this.2
   ·rw [hg] at hi
    have h' : a[off]? = some v := by simpa using h
    obtain ⟨v', k1, k2⟩ := VRs.get (⟨ha, ha'⟩ : VRs ρ H w a a') h'
    refine ⟨v', _, rfl, ?_, k2⟩
    simp [part, hi, k1]
 ·cases h
end
end AM
end Go.Proofs.YtemcmblcogljkaaGreatDoor

namespace Go.Proofs.YtemcmblcogljkaaGreatDoor
namespace AM
open Go
section
variable {P : Program} {pr : Nat → Prop} {w0 : World} {ρ ρ' : Rho} {H H' : AH} {w w' : World}
theorem VRs.set {l l' : List Value} (h : VRs ρ H w l l') (i : Nat) {v v' : Value} (hv : VR ρ H w v v') : VRs ρ H w (l.set i v) (l'.set i v') := by
 refine ⟨by simp [h.1], fun j x x' hx hx' => ?_⟩
 rw [List.getElem?_set] at hx hx'
 split at hx
 ·rename_i e
  subst e
  rw [if_pos rfl] at hx'
  split at hx
  ·rename_i hl
   rw [if_pos (by rw [← h.1]; exact hl)] at hx'
   injection hx with hx; injection hx' with hx'
   subst hx; subst hx'; exact hv
  ·cases hx
 ·rename_i e
  rw [if_neg e] at hx'
  exact h.2 j x x' hx hx'
theorem foldl_set (off : Nat) : ∀ (vs vs' : List Value) (k : Nat) (l l' : List Value), VRs ρ H w vs vs' → VRs ρ H w l l' →
  ∃ m m', ((vs.zipIdx k).foldl (fun (cs : Array Value) (p : Value × Nat) => cs.setIfInBounds (off + p.2) p.1) ⟨l⟩) = ⟨m⟩ ∧ ((vs'.zipIdx k).foldl (fun (cs : Array Value) (p : Value × Nat) => cs.setIfInBounds (off + p.2) p.1) ⟨l'⟩) = ⟨m'⟩ ∧ VRs ρ H w m m'
 | [], vs', k, l, l', hv, hl => by
  rw [hv.nil_inv]
  exact ⟨l, l', rfl, rfl, hl⟩
 | v :: vs, vs', k, l, l', hv, hl => by
  obtain ⟨v', r, rfl, h1, h2⟩ := hv.cons_inv
  simp only [List.zipIdx_cons, List.foldl_cons]
  have e : ∀ (m : List Value) (x : Value), (⟨m⟩ : Array Value).setIfInBounds (off + k) x = ⟨m.set (off + k) x⟩ := fun m x => by simp
  rw [e, e]
  exact foldl_set off vs r (k + 1) _ _ h2 (hl.set _ h1)
theorem fill_sound (place : Nat → Option (Nat × Nat)) : ∀ (ps ps' : List (Nat × Value)) (cs cs' r : Array Value), PRs ρ H w ps ps' → VRs ρ H w cs.toList cs'.toList → Instr.fill place cs ps = some r →
  ∃ r', Instr.fill place cs' ps' = some r' ∧ VRs ρ H w r.toList r'.toList
 | [], ps', cs, cs', r, hp, hc, hf => by
  cases ps' with
  | nil => simp only [Instr.fill, Option.some.injEq] at hf; subst hf; exact ⟨cs', rfl, hc⟩
  | cons x r => exact hp.elim
 | (i, v) :: ps, ps', cs, cs', r, hp, hc, hf => by
  cases ps' with
  | nil => exact hp.elim
  | cons x ps' =>
   obtain ⟨j, v'⟩ := x
   obtain ⟨rfl, h1, h2⟩ := hp
   have hcell := h1.cells
   have hsz : v'.cells.size = v.cells.size := by have := hcell.1; simp at this; omega
   have hcs : cs'.size = cs.size := by have := hc.1; simp at this; omega
   simp only [Instr.fill] at hf ⊢
   cases hpl : place i with
   | none => rw [hpl] at hf; cases hf
   | some os =>
    obtain ⟨off, size⟩ := os
    rw [hpl] at hf
    simp only [hsz, hcs] at hf ⊢
    split at hf
    ·cases hf
    ·rename_i hb
     rw [if_neg hb]
     have e : ∀ (vs cs : Array Value), (vs.zipIdx.foldl (fun cs (c, j) => cs.setIfInBounds (off + j) c) cs) = ((vs.toList.zipIdx 0).foldl (fun (cs : Array Value) (p : Value × Nat) => cs.setIfInBounds (off + p.2) p.1) cs) := by
      intro vs cs
      rw [← Array.foldl_toList, Array.toList_zipIdx]
     rw [e] at hf ⊢
     obtain ⟨m, m', k1, k2, k3⟩ := foldl_set (ρ := ρ) (H := H) (w := w) off v.cells.toList v'.cells.toList 0 cs.toList cs'.toList hcell hc
     have k1' : ((v.cells.toList.zipIdx 0).foldl (fun (cs : Array Value) (p : Value × Nat) => cs.setIfInBounds (off + p.2) p.1) cs) = ⟨m⟩ := k1
     have k2' : ((v'.cells.toList.zipIdx 0).foldl (fun (cs : Array Value) (p : Value × Nat) => cs.setIfInBounds (off + p.2) p.1) cs') = ⟨m'⟩ := k2
     rw [k1'] at hf
     rw [k2']
     exact fill_sound place ps ps' _ _ r h2 k3 hf
theorem peel_bind {α β : Type} (x : Sem α) (f : α → Sem β) : peel P (x >>= f) = (peel P x).bind fun a => peel P (f a) := by
 show peel P (x.bind f) = _
 induction x with
 | pure a => rfl
 | program k ih => simp only [Sem.bind, peel]; exact ih P
 | _ => rfl
theorem build_sound {ty : TypeId} {ps ps' : List (Nat × Value)} {v : Value} (hp : PRs ρ H w ps ps') (h : peel P (Instr.build ty ⟨ps⟩) = some v) (hz : ∃ z, zeroCells' P ty = some z) : ∃ v', (Instr.build ty ⟨ps'⟩).run P w = .ok v' w ∧ VR ρ H w v v' := by
 obtain ⟨zc, hz⟩ := hz
 obtain ⟨z, z1, z2, z3⟩ := zeroCells_run hz w
 unfold Instr.build at h ⊢
 rw [peel_bind] at h
 cases hq : peel P (zeroValue ty) with
 | none => rw [hq] at h; cases h
 | some z' =>
  rw [hq] at h
  simp only [Option.bind_some] at h
  have e := peel_run hq w
  rw [z1] at e
  injection e with e _
  subst e
  rw [peel_bind] at h
  cases hd : peel P (underlying ty) with
  | none => rw [hd] at h; cases h
  | some d =>
   rw [hd] at h
   simp only [Option.bind_some] at h
   simp only [Sem.run_bind, z1, peel_run hd w, Result.andThen_ok]
   have hzc : VRs ρ H w z.cells.toList z.cells.toList := flat_cells z3
   cases d with
   | struct fields =>
    simp only at h ⊢
    rw [peel_bind] at h
    cases hpl : peel P (fields.mapM fun f => do pure (f.offset, ← Go.sizeOf f.type)) with
    | none => rw [hpl] at h; cases h
    | some places =>
     rw [hpl] at h
     simp only [Option.bind_some] at h
     simp only [Sem.run_bind, peel_run hpl w, Result.andThen_ok]
     cases hf : Instr.fill (fun x => places[x]?) z.cells ps with
     | none => rw [hf] at h; cases h
     | some cells =>
      rw [hf] at h
      obtain ⟨r', k1, k2⟩ := fill_sound _ ps ps' _ _ cells hp hzc hf
      rw [k1]
      have hv : v = .agg cells := by
       have : some (Value.agg cells) = some v := h
       injection this with this
       exact this.symm
      subst hv
      exact ⟨.agg r', rfl, .agg _ _ k2.1 k2.2⟩
   | array n elem =>
    simp only at h ⊢
    rw [peel_bind] at h
    cases hpl : peel P (Go.sizeOf elem) with
    | none => rw [hpl] at h; cases h
    | some size =>
     rw [hpl] at h
     simp only [Option.bind_some] at h
     simp only [Sem.run_bind, peel_run hpl w, Result.andThen_ok]
     cases hf : Instr.fill (fun i => some (i * size, size)) z.cells ps with
     | none => rw [hf] at h; cases h
     | some cells =>
      rw [hf] at h
      obtain ⟨r', k1, k2⟩ := fill_sound _ ps ps' _ _ cells hp hzc hf
      rw [k1]
      have hv : v = .agg cells := by
       have : some (Value.agg cells) = some v := h
       injection this with this
       exact this.symm
      subst hv
      exact ⟨.agg r', rfl, .agg _ _ k2.1 k2.2⟩
   | _ => cases h
theorem flatten_get (z : List Value) : ∀ (n i : Nat), i < n * z.length → (List.replicate n z).flatten[i]? = z[i % z.length]?
 | 0, i, h => by simp at h
 | n + 1, i, h => by
  rw [List.replicate_succ, List.flatten_cons]
  rcases Nat.lt_or_ge i z.length with hi | hi
  ·rw [List.getElem?_append_left hi, Nat.mod_eq_of_lt hi]
  ·rw [List.getElem?_append_right hi, flatten_get z n (i - z.length) (by rw [Nat.add_mul, Nat.one_mul] at h; omega)]
   congr 1
   rw [Nat.mod_eq_sub_mod hi]
theorem zeros_eq (z : Array Value) (n : Nat) : ((Array.range (n * z.size)).map (fun i => z[i % z.size]!)) = ⟨(List.replicate n z.toList).flatten⟩ := by
 apply Array.ext'
 apply List.ext_getElem?
 intro i
 rcases Nat.lt_or_ge i (n * z.size) with hi | hi
 ·have hz : 0 < z.size := by
   rcases Nat.eq_zero_or_pos z.size with e | e
   ·rw [e] at hi; simp at hi
   ·exact e
  have hm : i % z.size < z.size := Nat.mod_lt _ hz
  have h1 := flatten_get z.toList n i (by simpa using hi)
  simp only [Array.length_toList] at h1
  rw [h1]
  simp [hi, hm]
 ·rw [List.getElem?_eq_none (by simpa using hi), List.getElem?_eq_none (by simp; exact hi)]
theorem zeros_vrs {z : Array Value} (h : VRs ρ H w z.toList z.toList) (n : Nat) : VRs ρ H w (List.replicate n z.toList).flatten (List.replicate n z.toList).flatten := by
 induction n with
 | zero => exact .nil
 | succ n ih => rw [List.replicate_succ, List.flatten_cons]; exact h.append ih
theorem slice_new {sz n m : Nat} {cells : List Value} {arr : Array Value} {e : TypeId} {fr : Nat × Nat} (hw : w'.heap[w.heap.size]? = some (Obj.cells arr e fr)) (hroom : m * sz ≤ arr.size) {k : Nat} (hk : n ≤ k) (hk' : k ≤ m) :
  VR (upR ρ H.next (w.heap.size, 0)) (H.new sz cells) w' (.slice (some ⟨H.next, 0, none⟩) n k) (.slice (some ⟨w.heap.size, 0, none⟩) n m) := by
 refine .slc _ 0 n k (w.heap.size) 0 _ m (upR_same _ _ _) (Nat.le_refl _) hk hk' (fun _ => rfl) fun r hr => .inr ?_
 have : (H.new sz cells).rows.get H.next = some ⟨H.next, 0, cells.length, sz⟩ := Tr.get_put_same _ _ _
 rw [this] at hr
 injection hr with hr
 subst hr
 exact ⟨arr, e, fr, hw, by simpa using hroom⟩
def OR (ρ : Rho) (H : AH) (w : World) : Option Value → Option Value → Prop
 | none, none => True
 | some v, some v' => VR ρ H w v v'
 | _, _ => False
theorem evo_sound {n : Nat} {t : Tr Value} {a : Act} (ht : TR ρ H w n t a.tmps) {x : Option Operand} {v : Option Value} (h : evo t x = some v) : OR ρ H w v (x.map a.eval) := by
 cases x with
 | none => simp only [evo, Option.some.injEq] at h; subst h; trivial
 | some x =>
  simp only [evo] at h
  split at h
  ·cases h
  ·rename_i u hu
   injection h with h
   subst h
   exact ev_sound ht hu
theorem sliceBound_run {k : IntKind} {n : Int} {m : Nat} (h0 : 0 ≤ n) (h1 : n ≤ (m : Int)) (code : BoundsCode) : (Instr.sliceBound (.int k n) m code).run P w = .ok n.toNat w := by
 simp [Instr.sliceBound, asIntOf, h0, h1]
theorem cutAt_cases {d m r : Nat} {o : Option Value} (h : cutAtV d m o = some r) : (o = none ∧ r = d) ∨ ∃ k n, o = some (.int k n) ∧ 0 ≤ n ∧ n ≤ (m : Int) ∧ r = n.toNat := by
 unfold cutAtV at h
 split at h
 ·injection h with h; exact .inl ⟨rfl, h.symm⟩
 ·rename_i k n
  split at h
  ·rename_i hb
   simp only [Bool.and_eq_true, decide_eq_true_eq] at hb
   injection h with h
   exact .inr ⟨k, n, rfl, hb.1, hb.2, h.symm⟩
  ·cases h
 ·cases h
theorem bounds_run {isS : Bool} {len cap cap' h l : Nat} {lo hi lo' hi' : Option Value} (hc : cap ≤ cap') (hh : cutAtV len cap hi = some h) (hl : cutAtV 0 h lo = some l) (ho : OR ρ H w lo lo') (hi1 : OR ρ H w hi hi') :
  (Instr.sliceBounds isS len cap' lo' hi' none).run P w = .ok (l, h, cap') w ∧ l ≤ h ∧ (h ≤ len ∨ h ≤ cap) := by
 have h1 : (match hi' with | some v => Instr.sliceBound v cap' (if isS then BoundsCode.sliceAcap else .sliceAlen) | none => pure len : Sem Nat).run P w = .ok h w ∧ (h ≤ len ∨ h ≤ cap) := by
  rcases cutAt_cases hh with ⟨rfl, rfl⟩ | ⟨k, n, rfl, h0, h1, rfl⟩
  ·cases hi' with
   | none => exact ⟨rfl, .inl (Nat.le_refl _)⟩
   | some _ => exact hi1.elim
  ·cases hi' with
   | none => exact hi1.elim
   | some v' =>
    have hv : VR ρ H w (.int k n) v' := hi1
    cases hv
    exact ⟨sliceBound_run h0 (by omega) _, .inr (by omega)⟩
 have h2 : (match lo' with | some v => Instr.sliceBound v h BoundsCode.sliceB | none => pure 0 : Sem Nat).run P w = .ok l w ∧ l ≤ h := by
  rcases cutAt_cases hl with ⟨rfl, rfl⟩ | ⟨k, n, rfl, h0, h1, rfl⟩
  ·cases lo' with
   | none => exact ⟨rfl, Nat.zero_le _⟩
   | some _ => exact ho.elim
  ·cases lo' with
   | none => exact ho.elim
   | some v' =>
    have hv : VR ρ H w (.int k n) v' := ho
    cases hv
    exact ⟨sliceBound_run h0 h1 _, by omega⟩
 refine ⟨?_, h2.2, h1.2⟩
 unfold Instr.sliceBounds
 obtain ⟨e1, _⟩ := h1
 obtain ⟨e2, _⟩ := h2
 cases hi' with
 | none =>
  simp only [Sem.run_pure, Result.ok.injEq, and_true] at e1
  subst e1
  cases lo' with
  | none => simp only [Sem.run_pure, Result.ok.injEq, and_true] at e2; subst e2; rfl
  | some v =>
   simp only at e2
   simp only [Sem.run_bind, Sem.run_pure, Result.andThen_ok, Option.isSome_none, if_false, Bool.false_eq_true, e2]
 | some u =>
  simp only at e1
  cases lo' with
  | none =>
   simp only [Sem.run_pure, Result.ok.injEq, and_true] at e2
   subst e2
   simp only [Sem.run_bind, Sem.run_pure, Result.andThen_ok, e1]
  | some v =>
   simp only at e2
   simp only [Sem.run_bind, Sem.run_pure, Result.andThen_ok, Option.isSome_none, if_false, Bool.false_eq_true, e1, e2]
theorem slice_sound {t : TypeId} {x x' v : Value} {lo hi lo' hi' : Option Value} (hx : VR ρ H w x x') (ho : OR ρ H w lo lo') (hi1 : OR ρ H w hi hi') (h : aSlice P t x lo hi H = some v) :
  ∃ v', (Instr.sliceAt t x' lo' hi' none).run P w = .ok v' w ∧ VR ρ H w v v' := by
 unfold aSlice at h
 cases hd : P.underlying t with
 | none => rw [hd] at h; cases h
 | some d =>
  rw [hd] at h
  have hu := run_underlying hd w
  cases d with
  | string =>
   simp only at h
   unfold sliceS at h
   split at h
   ·rename_i s
    cases hx
    split at h
    ·cases h
    ·rename_i hh hhe
     split at h
     ·cases h
     ·rename_i l hle
      injection h with h
      subst h
      obtain ⟨k1, k2, k3⟩ := bounds_run (P := P) (isS := false) (Nat.le_refl _) hhe hle ho hi1
      refine ⟨_, ?_, .string _⟩
      simp [Instr.sliceAt, Instr.slice, hu, k1]
   ·cases h
  | slice e =>
   simp only at h
   cases hi2 : P.info? e with
   | none => rw [hi2] at h; cases h
   | some i =>
    rw [hi2] at h
    have hsz : ∀ w : World, (Go.sizeOf e).run P w = .ok i.size w := fun w => by simp [Go.sizeOf, typeInfo, hi2]
    simp only at h
    unfold sliceV at h
    split at h
    ·cases hx
     split at h
     ·rename_i a b ha hb
      injection h with h
      subst h
      have ha0 : a = 0 := by rcases cutAt_cases ha with ⟨_, rfl⟩ | ⟨_, n, _, _, _, rfl⟩ <;> omega
      subst ha0
      obtain ⟨k1, k2, k3⟩ := bounds_run (P := P) (isS := true) (Nat.le_refl _) ha hb ho hi1
      have hb0 : b = 0 := by omega
      subst hb0
      refine ⟨.slice none 0 0, ?_, .slcNil⟩
      simp [Instr.sliceAt, Instr.slice, hu, k1, hsz]
     ·cases h
    ·rename_i b i0 len cap
     cases hx with
     | slc _ _ _ _ c s a' cap' h1 h2 h3 h4 h5 h6 =>
      split at h
      ·cases h
      ·rename_i hh hhe
       split at h
       ·cases h
       ·rename_i l hle
        split at h
        ·cases h
        ·rename_i r hr
         split at h
         ·rename_i hb
          injection h with h
          subst h
          obtain ⟨k1, k2, k3⟩ := bounds_run (P := P) (isS := true) h4 hhe hle ho hi1
          refine ⟨.slice (if cap' = l then some a' else some (a'.add (l * i.size))) (hh - l) (cap' - l), ?_, ?_⟩
          ·simp [Instr.sliceAt, Instr.slice, hu, k1, hsz]
          ·have hsm : r.sz = 0 ∨ r.sz = i.size := by
            simp only [Bool.or_eq_true] at hb
            exact hb.imp Nat.eq_of_beq_eq_true Nat.eq_of_beq_eq_true
           have hval : (if cap' = l then some a' else some (a'.add (l * i.size))) = some (if cap' = l then a' else a'.add (l * i.size)) := by split <;> rfl
           rw [hval]
           refine .slc b _ _ _ c s _ _ h1 (by omega) (by omega) (by omega) (fun hp => ?_) fun r' hr' => ?_
           ·rw [if_neg (by omega), h5 (by omega), add_plain]
            congr 1
            omega
           ·rcases h6 r' hr' with e0 | ⟨arr, e1, fr, q1, q2⟩
            ·exact .inl e0
            ·rw [hr] at hr'; injection hr' with hr'; subst hr'
             rcases hsm with e0 | e0
             ·exact .inl e0
             ·refine .inr ⟨arr, e1, fr, q1, ?_⟩
              rw [e0] at q2 ⊢
              have : (cap' - l) * i.size + l * i.size = cap' * i.size := by rw [← Nat.add_mul]; congr 1; omega
              omega
         ·cases h
    ·cases h
  | array n e =>
   simp only at h
   cases hi2 : P.info? e with
   | none => rw [hi2] at h; cases h
   | some i =>
    rw [hi2] at h
    have hsz : ∀ w : World, (Go.sizeOf e).run P w = .ok i.size w := fun w => by simp [Go.sizeOf, typeInfo, hi2]
    simp only at h
    unfold sliceA at h
    split at h
    ·rename_i b i0
     cases hx with
     | ptr _ _ c s h1 h2 =>
      split at h
      ·cases h
      ·rename_i hh hhe
       split at h
       ·cases h
       ·rename_i l hle
        split at h
        ·cases h
        ·rename_i r hr
         split at h
         ·rename_i hb
          injection h with h
          subst h
          obtain ⟨k1, k2, k3⟩ := bounds_run (P := P) (isS := false) (Nat.le_refl n) hhe hle ho hi1
          refine ⟨.slice (some (if n = l then ⟨c, i0 - s, none⟩ else (⟨c, i0 - s, none⟩ : Addr).add (l * i.size))) (hh - l) (n - l), ?_, ?_⟩
          ·simp [Instr.sliceAt, Instr.sureAddr, hu, k1, hsz]
          ·refine .slc b _ _ _ c s _ _ h1 (by omega) (by omega) (Nat.le_refl _) (fun hp => ?_) fun r' hr' => ?_
           ·rw [if_neg (by omega), add_plain]
            congr 1
            omega
           ·rw [hr] at hr'; injection hr' with hr'; subst hr'
            exact .inl (Nat.eq_of_beq_eq_true hb)
         ·cases h
    ·cases h
  | _ => cases h
theorem elemS_sound {t e : TypeId} {sz : Nat} {x x' n n' v : Value} (hx : VR ρ H w x x') (hn : VR ρ H w n n') (hd : P.underlying t = some (.slice e)) (hs : sizeOf' P e = some sz) (h : elemS sz x n = some v) :
  ∃ v', (Instr.indexAt t x' n').run P w = .ok v' w ∧ VR ρ H w v v' := by
 have hu := run_underlying hd w
 unfold elemS at h
 split at h
 ·rename_i b i len cap k m
  cases hn
  cases hx with
  | slc _ _ _ _ c s a' cap' h1 h2 h3 h4 h5 h6 =>
   split at h
   ·rename_i hb
    simp only [Bool.and_eq_true, decide_eq_true_eq] at hb
    injection h with h
    subst h
    have ha := h5 (by omega)
    subst ha
    refine ⟨.pointer (some ⟨c, i + m.toNat * sz - s, none⟩), ?_, .ptr _ _ c s h1 (by omega)⟩
    have e1 : i - s + m.toNat * sz = i + m.toNat * sz - s := by omega
    simp [Instr.indexAt, asIntOf, hu, hb.1, hb.2, run_sizeOf' hs, add_plain, e1]
   ·cases h
 ·cases h
theorem elemA_sound {t e : TypeId} {len sz : Nat} {x x' n n' v : Value} (hx : VR ρ H w x x') (hn : VR ρ H w n n') (hd : P.underlying t = some (.array len e)) (hs : sizeOf' P e = some sz) (h : elemA sz len x n = some v) :
  ∃ v', (Instr.indexAt t x' n').run P w = .ok v' w ∧ VR ρ H w v v' := by
 have hu := run_underlying hd w
 unfold elemA at h
 split at h
 ·rename_i b i k m
  cases hn
  cases hx with
  | ptr _ _ c s h1 h2 =>
   split at h
   ·rename_i hb
    simp only [Bool.and_eq_true, decide_eq_true_eq] at hb
    injection h with h
    subst h
    refine ⟨.pointer (some ⟨c, i + m.toNat * sz - s, none⟩), ?_, .ptr _ _ c s h1 (by omega)⟩
    have e1 : i - s + m.toNat * sz = i + m.toNat * sz - s := by omega
    simp [Instr.indexAt, Instr.sureAddr, asIntOf, hu, hb.1, hb.2, run_sizeOf' hs, add_plain, e1]
   ·cases h
 ·cases h
theorem fieldP_sound {t : TypeId} {fs : Array Field} {f : Nat} {fl : Field} {n : Nat} {x x' v : Value} (hx : VR ρ H w x x') (hd : P.underlying t = some (.struct fs)) (hf : fs[f]? = some fl) (hs : sizeOf' P fl.type = some (n + 1)) (h : fieldP fl.offset x = some v) :
  ∃ v', (Instr.fieldAt t x' f).run P w = .ok v' w ∧ VR ρ H w v v' := by
 have hu := run_underlying hd w
 unfold fieldP at h
 split at h
 ·rename_i b i
  cases hx with
  | ptr _ _ c s h1 h2 =>
   injection h with h
   subst h
   refine ⟨.pointer (some ⟨c, i + fl.offset - s, none⟩), ?_, .ptr _ _ c s h1 (by omega)⟩
   have e1 : i - s + fl.offset = i + fl.offset - s := by omega
   simp [Instr.fieldAt, Instr.sureAddr, fieldPlace, hu, hf, run_sizeOf' hs, add_plain, e1]
 ·cases h
end
end AM
end Go.Proofs.YtemcmblcogljkaaGreatDoor

