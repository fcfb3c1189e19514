/- The abstract machine: more fuel changes nothing. The abstract machine, told backwards: what has to hold so that a run comes to its end with what is asked of it. The abstract machine, told backwards: regions, code, functions. Words for the printed texts. -/
import Derived.Test.YtemcmblcogljkaaGreatDoorMa
import Derived.KernelRfl
import Derived.Test.YtemcmblcogljkaaGreatDoorProg
set_option linter.all false
set_option linter.unusedSimpArgs false
set_option linter.unusedVariables false
namespace Go.Proofs.YtemcmblcogljkaaGreatDoor
namespace AM
open Go
def Sub (call call' : Callee) : Prop := ∀ f a H r, call f a H = some r → call' f a H = some r
theorem aOp_mono {P : Program} {call call' : Callee} (hs : Sub call call') {t : Tr Value} {o : Oper} {H : AH} {r : Value × AH} (h : aOp P call t o H = some r) : aOp P call' t o H = some r := by
 cases hop : o.op with
 | call c =>
  simp only [aOp, hop] at h ⊢
  cases hc : c.callee with
  | value f =>
   simp only [hc] at h ⊢
   cases h1 : ev t f with
   | none => simp [h1] at h
   | some fv =>
    cases h2 : evs t c.args.toList with
    | none => simp [h1, h2] at h
    | some args =>
     simp only [h1, h2] at h ⊢
     unfold aCall at h ⊢
     split at h
     ·exact hs _ _ _ _ h
     ·cases h
  | builtin b => simp only [hc] at h ⊢; exact h
  | invoke _ _ => simp [hc] at h
 | _ => simp only [aOp, hop] at h ⊢; exact h
theorem aOps_mono {P : Program} {call call' : Callee} (hs : Sub call call') {n : Nat} {ops : Array Oper} : ∀ {l : List Oper} {t : Tr Value} {H : AH} {r : Tr Value × AH}, aOps P call n ops l t H = some r → aOps P call' n ops l t H = some r
 | [], _, _, _, h => h
 | o :: l, t, H, r, h => by
  simp only [aOps] at h ⊢
  split at h
  ·cases h
  ·rename_i hw
   try simp only [hw]
   split at h
   ·cases h
   ·rename_i t' ht
    exact aOps_mono hs h
  ·rename_i hw
   try simp only [hw]
   split at h
   ·cases h
   ·rename_i v H' ha
    rw [aOp_mono hs ha]
    simp only at h ⊢
    split at h
    ·cases h
    ·rename_i t' ht
     exact aOps_mono hs h
theorem aOpsD_mono {P : Program} {call call' : Callee} (hs : Sub call call') {n : Nat} {ops : Array Oper} : ∀ {l : List Oper} {i : Nat} {t : Tr Value} {H : AH} {m : List Met} {r : Tr Value × AH × List Met}, aOpsD P call n ops i l t H m = some r → aOpsD P call' n ops i l t H m = some r
 | [], _, _, _, _, _, h => h
 | o :: l, i, t, H, m, r, h => by
  simp only [aOpsD] at h ⊢
  split at h
  ·cases h
  ·rename_i hw
   try simp only [hw]
   split at h
   ·cases h
   ·rename_i t' ht
    exact aOpsD_mono hs h
  ·rename_i hw
   try simp only [hw]
   split at h
   ·cases h
   ·rename_i v H' ha
    rw [aOp_mono hs ha]
    simp only at h ⊢
    split at h
    ·cases h
    ·rename_i t' ht
     split at h <;> exact aOpsD_mono hs h
theorem steady1_mono {P : Program} {call call' : Callee} (hs : Sub call call') {o : Oper} {t : Tr Value} {v : Value} {G : AH} (h : steady1 P call o t v G = true) : steady1 P call' o t v G = true := by
 unfold steady1 at h ⊢
 split at h
 ·rename_i u x hu
  rw [aOp_mono hs hu]
  exact h
 ·cases h
theorem steady_mono {P : Program} {call call' : Callee} (hs : Sub call call') {b : Array Nat} {es : List (Nat × AH)} {H : AH} {nw : Bool} {j : Nat} {o : Oper} {t : Tr Value} {v : Value} : ∀ {k : Nat}, steady P call b es H nw j o t v k = true → steady P call' b es H nw j o t v k = true
 | 0, h => h
 | k + 1, h => by
  simp only [steady, Bool.and_eq_true] at h ⊢
  refine ⟨?_, steady_mono hs h.2⟩
  have h1 := h.1
  split at h1
  ·exact steady1_mono hs h1
  ·rfl
theorem steadyAll_mono {P : Program} {call call' : Callee} (hs : Sub call call') {b : Array Nat} {es : List (Nat × AH)} {H : AH} {nw : Bool} : ∀ {l : List (Nat × Oper × Tr Value × Value)}, steadyAll P call b es H nw l = true → steadyAll P call' b es H nw l = true
 | [], h => h
 | (j, o, t, v) :: l, h => by
  simp only [steadyAll, Bool.and_eq_true] at h ⊢
  exact ⟨steady_mono hs h.1, steadyAll_mono hs h.2⟩
theorem aRegion1_mono {P : Program} {call call' : Callee} (hs : Sub call call') {n : Nat} {ops : Array Oper} {t : Tr Value} {H : AH} {r : Tr Value × AH} (h : aRegion1 P call n ops t H = some r) : aRegion1 P call' n ops t H = some r := by
 unfold aRegion1 at h ⊢
 split at h
 ·cases h
 ·rename_i hc
  try simp only [hc]
  split at h
  ·cases h
  ·rename_i t' H' m hm
   simp only [aOpsD_mono hs hm]
   split at h
   ·rename_i hcs
    simp only [Bool.and_eq_true] at hcs
    rw [hcs.1.1, hcs.1.2, steadyAll_mono hs hcs.2]
    exact h
   ·cases h
theorem aRegion_mono {P : Program} {call call' : Callee} (hs : Sub call call') {n : Nat} {hint : Option (List Nat)} {ops : Array Oper} {draw : Bool} {t : Tr Value} {H : AH} {r : Tr Value × AH} (h : aRegion P call n hint ops draw t H = some r) : aRegion P call' n hint ops draw t H = some r := by
 unfold aRegion at h ⊢
 split at h
 ·exact aOps_mono hs h
 ·split at h
  ·exact aRegion1_mono hs h
  ·split at h
   ·rename_i hp
    try simp only [hp]
    exact aRegion1_mono hs h
   ·cases h
theorem aIter_mono {f g : St → Option (AX × St)} (hs : ∀ s r, f s = some r → g s = some r) : ∀ {k k' : Nat} {s : St} {r : AX × St}, k ≤ k' → aIter f k s = some r → aIter g k' s = some r
 | 0, _, _, _, _, h => by simp [aIter] at h
 | k + 1, 0, _, _, hk, _ => by omega
 | k + 1, k' + 1, s, r, hk, h => by
  simp only [aIter] at h ⊢
  split at h
  ·cases h
  ·rename_i s' hb
   rw [hs _ _ hb]
   exact aIter_mono hs (by omega) h
  ·rename_i r' hn hb
   rw [hs _ _ hb]
   simp only [Option.some.injEq] at h
   subst h
   cases r' with
   | mk x s' => cases x <;> first | rfl | exact absurd rfl (hn s') | exact absurd hb (hn s')
theorem exec_mono {P : Program} {call call' : Callee} (hs : Sub call call') {ks : Keeps} {k k' n : Nat} (hk : k ≤ k') : ∀ (c : Code) {s : St} {r : AX × St}, exec P call ks k n c s = some r → exec P call' ks k' n c s = some r := by
 intro c
 induction c with
 | skip => exact fun h => h
 | region id ops draw =>
  intro s r h
  simp only [exec] at h ⊢
  split at h
  ·rename_i s' hr
   rw [aRegion_mono hs hr]
   exact h
  ·cases h
 | seq a b iha ihb =>
  intro s r h
  simp only [exec] at h ⊢
  split at h
  ·rename_i s' ha
   rw [iha ha]
   exact ihb h
  ·rename_i hn
   rw [iha h]
   cases r with
   | mk x s' => cases x <;> first | rfl | exact absurd h (hn s')
 | cond c x y ihx ihy =>
  intro s r h
  simp only [exec] at h ⊢
  split at h
  ·rename_i hc; exact ihx h
  ·rename_i hc; exact ihy h
  ·cases h
 | block id c ih =>
  intro s r h
  simp only [exec] at h ⊢
  split at h
  ·rename_i j s' hc
   rw [ih hc]
   exact h
  ·rename_i s' hc
   rw [ih hc]
   exact h
  ·rename_i hn hm
   rw [ih h]
   cases r with
   | mk x s' => cases x <;> first | rfl | exact absurd h (hn _ s') | exact absurd h (hm s')
 | loop c ih =>
  intro s r h
  simp only [exec] at h ⊢
  exact aIter_mono (fun s r hr => ih hr) hk h
 | exit id => exact fun h => h
 | ret => exact fun h => h
 | _ => intro s r h; simp [exec] at h
theorem run_mono {P : Program} {call call' : Callee} (hs : Sub call call') {ks : Keeps} {k k' : Nat} (hk : k ≤ k') {fn : Func} {args : Array Value} {H : AH} {r : Value × AH} (h : run P call ks k fn args H = some r) : run P call' ks k' fn args H = some r := by
 unfold run at h ⊢
 split at h
 ·cases h
 ·rename_i c hc
  split at h
  ·cases h
  ·rename_i hb
   try simp only [hb]
   split at h
   ·rename_i t H' he
    rw [exec_mono hs hk c he]
    exact h
   ·rename_i t H' he
    rw [exec_mono hs hk c he]
    exact h
   ·cases h
theorem callF_mono1 {P : Program} {prims : Prims} {ks : FuncId → Keeps} : ∀ (k : Nat), Sub (callF P prims ks k) (callF P prims ks (k + 1))
 | 0 => fun f a H r h => by simp [callF] at h
 | k + 1 => fun f a H r h => by
  have ih := callF_mono1 (P := P) (prims := prims) (ks := ks) k
  show (match prims f with
   | some p => p a H
   | none => match P.funcs[f]? with
    | none => none
    | some fn => run P (callF P prims ks (k + 1)) (ks f) (k + 1) fn a H) = some r
  replace h : (match prims f with
   | some p => p a H
   | none => match P.funcs[f]? with
    | none => none
    | some fn => run P (callF P prims ks k) (ks f) k fn a H) = some r := h
  split at h
  ·exact h
  ·rename_i hp
   split at h
   ·cases h
   ·rename_i fn hf
    exact run_mono ih (by omega) h
theorem callF_mono {P : Program} {prims : Prims} {ks : FuncId → Keeps} {k k' : Nat} (hk : k ≤ k') : Sub (callF P prims ks k) (callF P prims ks k') := by
 obtain ⟨d, rfl⟩ := Nat.le.dest hk
 induction d with
 | zero => exact fun _ _ _ _ h => h
 | succ d ih => exact fun f a H r h => callF_mono1 (k + d) f a H r (ih (by omega) f a H r h)
end AM
end Go.Proofs.YtemcmblcogljkaaGreatDoor

namespace Go.Proofs.YtemcmblcogljkaaGreatDoor
namespace AM
open Go
def obI (k : IntKind) (o : Option Value) (K : Int → Prop) : Prop :=
 match o with
 | some (.int k' x) => match decide (k' = k) with
  | true => K x
  | false => False
 | _ => False
def obB (o : Option Value) (K : Bool → Prop) : Prop :=
 match o with
 | some (.bool b) => K b
 | _ => False
def obS (o : Option Value) (K : ByteArray → Prop) : Prop :=
 match o with
 | some (.string s) => K s
 | _ => False
def obP (o : Option Value) (K : Option Addr → Prop) : Prop :=
 match o with
 | some (.pointer a) => K a
 | _ => False
def obL (o : Option Value) (K : Option Addr → Nat → Nat → Prop) : Prop :=
 match o with
 | some (.slice b n c) => K b n c
 | _ => False
def obV (o : Option Value) (K : Value → Prop) : Prop :=
 match o with
 | some v => K v
 | none => False
def obA (o : Option Value) (K : Nat → Nat → Prop) : Prop :=
 match o with
 | some (.pointer (some ⟨h, i, none⟩)) => K h i
 | _ => False
def obH (o : Option AH) (K : AH → Prop) : Prop :=
 match o with
 | some H => K H
 | none => False
def obG (o : Option (Value × AH)) (K : Option Addr → Nat → Nat → AH → Prop) : Prop :=
 match o with
 | some (.slice b n c, H) => K b n c H
 | _ => False
def obJ (o : Option (Value × AH)) (K : Int → AH → Prop) : Prop :=
 match o with
 | some (.int .i64 n, H) => K n H
 | _ => False
def ifB (b : Bool) (A B : Prop) : Prop :=
 match b with
 | true => A
 | false => B
def obE (o : Option Value) (v : Value) (A : Prop) : Prop :=
 match o with
 | some u => match same u v with
  | true => A
  | false => False
 | none => False
theorem obI_out {k : IntKind} {o : Option Value} {K : Int → Prop} (h : obI k o K) : ∃ x, o = some (.int k x) ∧ K x := by
 unfold obI at h
 split at h
 ·split at h
  ·rename_i hd; have := of_decide_eq_true hd; subst this; exact ⟨_, rfl, h⟩
  ·exact h.elim
 ·exact h.elim
theorem obB_out {o : Option Value} {K : Bool → Prop} (h : obB o K) : ∃ x, o = some (.bool x) ∧ K x := by
 unfold obB at h; split at h
 ·exact ⟨_, rfl, h⟩
 ·exact h.elim
theorem obS_out {o : Option Value} {K : ByteArray → Prop} (h : obS o K) : ∃ x, o = some (.string x) ∧ K x := by
 unfold obS at h; split at h
 ·exact ⟨_, rfl, h⟩
 ·exact h.elim
theorem obL_out {o : Option Value} {K : Option Addr → Nat → Nat → Prop} (h : obL o K) : ∃ b n c, o = some (.slice b n c) ∧ K b n c := by
 unfold obL at h; split at h
 ·exact ⟨_, _, _, rfl, h⟩
 ·exact h.elim
theorem obV_out {o : Option Value} {K : Value → Prop} (h : obV o K) : ∃ v, o = some v ∧ K v := by
 unfold obV at h; split at h
 ·exact ⟨_, rfl, h⟩
 ·exact h.elim
theorem obA_out {o : Option Value} {K : Nat → Nat → Prop} (h : obA o K) : ∃ a i, o = some (.pointer (some ⟨a, i, none⟩)) ∧ K a i := by
 unfold obA at h; split at h
 ·exact ⟨_, _, rfl, h⟩
 ·exact h.elim
theorem obH_out {o : Option AH} {K : AH → Prop} (h : obH o K) : ∃ H, o = some H ∧ K H := by
 unfold obH at h; split at h
 ·exact ⟨_, rfl, h⟩
 ·exact h.elim
theorem obG_out {o : Option (Value × AH)} {K : Option Addr → Nat → Nat → AH → Prop} (h : obG o K) : ∃ b n c H, o = some (.slice b n c, H) ∧ K b n c H := by
 unfold obG at h; split at h
 ·exact ⟨_, _, _, _, rfl, h⟩
 ·exact h.elim
theorem obJ_out {o : Option (Value × AH)} {K : Int → AH → Prop} (h : obJ o K) : ∃ n H, o = some (.int .i64 n, H) ∧ K n H := by
 unfold obJ at h; split at h
 ·exact ⟨_, _, rfl, h⟩
 ·exact h.elim
theorem obE_out {o : Option Value} {v : Value} {A : Prop} (h : obE o v A) : ∃ u, o = some u ∧ same u v = true ∧ A := by
 unfold obE at h; split at h
 ·split at h
  ·rename_i hs; exact ⟨_, rfl, hs, h⟩
  ·exact h.elim
 ·exact h.elim
def ob1 (z : Value) (o : Option Value) (K : Value → Prop) : Prop :=
 match z with
 | .int k _ => obI k o fun x => K (.int k x)
 | .bool _ => obB o fun x => K (.bool x)
 | .string _ => obS o fun x => K (.string x)
 | .pointer _ => obA o fun h i => K (.pointer (some ⟨h, i, none⟩))
 | .slice _ _ _ => obL o fun b n c => K (.slice b n c)
 | _ => obV o K
theorem ob1_out {z : Value} {o : Option Value} {K : Value → Prop} (h : ob1 z o K) : ∃ v, o = some v ∧ K v := by
 unfold ob1 at h
 split at h
 ·obtain ⟨x, h1, h2⟩ := obI_out h; exact ⟨_, h1, h2⟩
 ·obtain ⟨x, h1, h2⟩ := obB_out h; exact ⟨_, h1, h2⟩
 ·obtain ⟨x, h1, h2⟩ := obS_out h; exact ⟨_, h1, h2⟩
 ·obtain ⟨x, _, h1, h2⟩ := obA_out h; exact ⟨_, h1, h2⟩
 ·obtain ⟨x, _, _, h1, h2⟩ := obL_out h; exact ⟨_, h1, h2⟩
 ·exact obV_out h
def cellAt : Value → Nat → Option Value
 | .agg cs, i => cs.toList[i]?
 | _, _ => none
def obC (v : Value) (zs : List Value) (i : Nat) (K : List Value → Prop) : Prop :=
 match zs with
 | [] => K []
 | z :: zs => ob1 z (cellAt v i) fun c => obC v zs (i + 1) fun l => K (c :: l)
theorem obC_out {v : Value} : ∀ {zs : List Value} {i : Nat} {K : List Value → Prop}, obC v zs i K → ∃ l, l.length = zs.length ∧ (∀ j, j < l.length → cellAt v (i + j) = l[j]?) ∧ K l
 | [], i, K, h => ⟨[], rfl, fun j hj => by simp at hj, h⟩
 | z :: zs, i, K, h => by
  obtain ⟨c, h1, h2⟩ := ob1_out (z := z) h
  obtain ⟨l, k1, k2, k3⟩ := obC_out h2
  refine ⟨c :: l, by simp [k1], fun j hj => ?_, k3⟩
  cases j with
  | zero => simpa using h1
  | succ j =>
   rw [show i + (j + 1) = i + 1 + j by omega, k2 j (by simpa using hj)]
   rfl
def isAgg (n : Nat) : Value → Bool
 | .agg cs => Nat.beq cs.toList.length n
 | _ => false
def obZ (z : Value) (o : Option Value) (K : Value → Prop) : Prop :=
 match z with
 | .agg ⟨zs⟩ => obV o fun v => match isAgg zs.length v with
  | true => obC v zs 0 fun l => K (.agg ⟨l⟩)
  | false => False
 | z => ob1 z o K
theorem obZ_out {z : Value} {o : Option Value} {K : Value → Prop} (h : obZ z o K) : ∃ v, o = some v ∧ K v := by
 unfold obZ at h
 split at h
 ·rename_i zs
  obtain ⟨v, h1, h2⟩ := obV_out h
  split at h2
  ·rename_i ha
   obtain ⟨l, k1, k2, k3⟩ := obC_out h2
   refine ⟨v, h1, ?_⟩
   unfold isAgg at ha
   split at ha
   ·rename_i cs
    obtain ⟨m⟩ := cs
    have hl := Nat.eq_of_beq_eq_true ha
    have : m = l := by
     apply List.ext_getElem?
     intro j
     by_cases hj : j < l.length
     ·have := k2 j hj
      simp only [cellAt, Nat.zero_add] at this
      exact this
     ·rw [List.getElem?_eq_none (by simp at hl; omega), List.getElem?_eq_none (by omega)]
    subst this
    exact k3
   ·cases ha
  ·exact h2.elim
 ·exact ob1_out h
def obM (H : AH) (h i : Nat) (zs : List Value) (j : Nat) (K : List Value → Prop) : Prop :=
 match zs with
 | [] => K []
 | z :: zs => ob1 z (H.load h (i + j)) fun c => obM H h i zs (j + 1) fun l => K (c :: l)
theorem obM_out {H : AH} {h i : Nat} : ∀ {zs : List Value} {j : Nat} {K : List Value → Prop}, obM H h i zs j K → ∃ l, H.loadN h (i + j) zs.length = some l ∧ K l
 | [], j, K, hh => ⟨[], rfl, hh⟩
 | z :: zs, j, K, hh => by
  obtain ⟨c, h1, h2⟩ := ob1_out (z := z) hh
  obtain ⟨l, k1, k2⟩ := obM_out h2
  refine ⟨c :: l, ?_, k2⟩
  rw [List.length_cons, AH.loadN, h1, show i + j + 1 = i + (j + 1) by omega, k1]
def obE1 (o : Option Value) (v : Value) (A : Prop) : Prop :=
 match o with
 | some u => match same1 u v with
  | true => A
  | false => False
 | none => False
theorem obE1_out {o : Option Value} {v : Value} {A : Prop} (h : obE1 o v A) : ∃ u, o = some u ∧ same1 u v = true ∧ A := by
 unfold obE1 at h; split at h
 ·split at h
  ·rename_i hs; exact ⟨_, rfl, hs, h⟩
  ·exact h.elim
 ·exact h.elim
theorem same_of_same1 {u v : Value} (h : same1 u v = true) : same u v = true := by
 unfold same
 split
 ·simp [same1] at h
 ·exact h
def obEs (H : AH) (h i j : Nat) (vs : List Value) (A : Prop) : Prop :=
 match vs with
 | [] => A
 | v :: vs => obE1 (H.load h (i + j)) v (obEs H h i (j + 1) vs A)
theorem obEs_out {H : AH} {h i : Nat} {A : Prop} : ∀ {vs : List Value} {j : Nat}, obEs H h i j vs A → ∃ l, H.loadN h (i + j) vs.length = some l ∧ sameL l vs = true ∧ A
 | [], j, hh => ⟨[], rfl, rfl, hh⟩
 | v :: vs, j, hh => by
  obtain ⟨u, h1, h2, h3⟩ := obE1_out hh
  obtain ⟨l, k1, k2, k3⟩ := obEs_out h3
  exact ⟨u :: l, by rw [List.length_cons, AH.loadN, h1, show i + j + 1 = i + (j + 1) by omega, k1], by rw [sameL, h2, k2]; rfl, k3⟩
abbrev CallW := FuncId → Array Value → AH → (Value → AH → Prop) → Prop
def zeroV (P : Program) (t : TypeId) : Option Value := (P.info? t).bind (·.zero)
def obT (P : Program) (t : TypeId) (o : Option Value) (K : Value → Prop) : Prop :=
 match zeroV P t with
 | some z => obZ z o K
 | none => obV o K
theorem obT_out {P : Program} {t : TypeId} {o : Option Value} {K : Value → Prop} (h : obT P t o K) : ∃ v, o = some v ∧ K v := by
 unfold obT at h
 split at h
 ·exact obZ_out h
 ·exact obV_out h
def vOp (P : Program) (t : Tr Value) (o : Oper) (H : AH) : Option Value :=
 match o.op with
 | .move x => ev t x
 | .assign x => ev t x
 | .pick c a b => match ev t c with
  | some (.bool true) => ev t a
  | some (.bool false) => ev t b
  | _ => none
 | .build ty parts => match evps t parts.toList, zeroCells' P ty with
  | some ps, some _ => peel P (Instr.build ty ⟨ps⟩)
  | _, _ => none
 | .binOp op ty x y _ => match ev t x, ev t y with
  | some v, some w => aBin P op ty x y v w
  | _, _ => none
 | .unOp op _ x => match ev t x with
  | some v => match flat v with
   | true => peelF P (Op.unary op v)
   | false => none
  | none => none
 | .convert src dst x => match ev t x with
  | some v => match P.underlying src, P.underlying dst with
   | some .string, some (.slice e) => match P.underlying e with
    | some (.int .u8) => none
    | _ => none
   | some (.slice e), some .string => match P.underlying e with
    | some (.int .u8) => ofBytes H v
    | _ => none
   | _, _ => match flat v with
    | true => peelF P (convert src dst v)
    | false => none
  | none => none
 | .makeInterface ty x => match ev t x, P.underlying ty with
  | some _, some (.interface _) => none
  | some v, some _ => some (.iface ty v)
  | _, _ => none
 | .makeFunc fn first captured => match evs t first.toList, evs t captured.toList with
  | some a, some b => some (.func fn ⟨a⟩ ⟨b⟩)
  | _, _ => none
 | .slice ty x lo hi mx => match ev t x, evo t lo, evo t hi, mx with
  | some v, some l, some h, none => aSlice P ty v l h H
  | _, _, _, _ => none
 | .fieldAddr s x f => match ev t x, P.underlying s with
  | some v, some (.struct fs) => match fs[f]? with
   | some fl => match sizeOf' P fl.type with
    | some (_ + 1) => fieldP fl.offset v
    | _ => none
   | none => none
  | _, _ => none
 | .field s x f => match ev t x, P.underlying s with
  | some v, some (.struct fs) => match fs[f]? with
   | some fl => match known P fl.type with
    | true => partV (aggSize P fl.type) fl.offset v
    | false => none
   | none => none
  | _, _ => none
 | .indexAddr ty x i => match ev t x, ev t i, P.underlying ty with
  | some v, some n, some (.slice e) => match sizeOf' P e with
   | some sz => elemS sz v n
   | none => none
  | some v, some n, some (.array len e) => match sizeOf' P e with
   | some sz => elemA sz len v n
   | none => none
  | _, _, _ => none
 | .index ty x i => match ev t x, ev t i, P.underlying ty with
  | some v, some n, some (.array len e) => match sizeOf' P e, known P e with
   | some sz, true => idxA (aggSize P e) sz len v n
   | _, _ => none
  | some v, some n, some .string => idxS v n
  | _, _, _ => none
 | .extract x n => match ev t x with
  | some v => tupV n v
  | none => none
 | _ => none
def noCall : Callee := fun _ _ _ => none
theorem withH_vOp {P : Program} {call : Callee} {t : Tr Value} {o : Oper} {H : AH} {v : Value} (h : vOp P t o H = some v) : aOp P call t o H = some (v, H) := by
 cases hop : o.op <;> simp only [vOp, hop] at h <;> simp only [aOp, hop] <;> try (cases h; done)
 all_goals first
  | (rw [h]; rfl)
  | ((repeat' split at h) <;> first | (cases h; done) | (simp_all [withH]; done))
def constO : Operand → Bool
 | .const _ => true
 | _ => false
def plain (P : Program) (o : Oper) : Bool :=
 match o.op with
 | .binOp op ty _ y _ => match op, P.underlying ty with
  | .quo, _ => false
  | .rem, _ => false
  | .shl, _ => constO y
  | .shr, _ => constO y
  | .add, some .string => false
  | _, some (.int _) => true
  | _, some .string => true
  | _, some .bool => true
  | _, _ => false
 | .convert _ dst _ => match P.underlying dst with
  | some (.int _) => true
  | _ => false
 | .slice .. | .index .. | .extract .. => false
 | _ => true
def opW (P : Program) (cw : CallW) (t : Tr Value) (o : Oper) (H : AH) (K : Value → AH → Prop) : Prop :=
 match o.op with
 | .load ty a => match ev t a, known P ty with
  | some (.pointer (some ⟨h, i, none⟩)), true => match aggSize P ty, zeroV P ty with
   | some n, some (.agg ⟨zs⟩) => match Nat.beq zs.length n with
    | true => obM H h i zs 0 fun l => K (.agg ⟨l⟩) H
    | false => False
   | none, some z => ob1 z (H.load h i) fun v => K v H
   | none, none => obV (H.load h i) fun v => K v H
   | _, _ => False
  | _, _ => False
 | .store ty a x => match ev t a, ev t x, sizeOf' P ty with
  | some (.pointer (some ⟨h, i, none⟩)), some v, some n => match Nat.beq v.cells.size n with
   | true => obH (H.storeN h i v.cells.toList) fun H' => K undef H'
   | false => False
  | _, _, _ => False
 | .alloc _ | .box _ _ | .buildSlice _ _ _ => match aOp P noCall t o H with
  | some (v, H') => K v H'
  | none => False
 | .makeSlice _ _ _ => obG (aOp P noCall t o H) fun b n c H' => K (.slice b n c) H'
 | .nilCheck x => match ev t x with
  | some (.pointer (some ⟨h, i, none⟩)) => K (.pointer (some ⟨h, i, none⟩)) H
  | _ => False
 | .indexAddr _ _ _ => obA (vOp P t o H) fun h i => K (.pointer (some ⟨h, i, none⟩)) H
 | .convert src dst x => match ev t x with
  | some v => match P.underlying src, P.underlying dst with
   | some .string, some (.slice e) => match P.underlying e with
    | some (.int .u8) => match toBytes H v with
     | some (v, H') => K v H'
     | none => False
    | _ => False
   | _, some (.int _) => match vOp P t o H with
    | some v => K v H
    | none => False
   | _, _ => obT P dst (vOp P t o H) fun v => K v H
  | none => False
 | .call c => match c.callee with
  | .value f => match ev t f, evs t c.args.toList with
   | some (.func (.func f) first captured), some args => cw f ⟨first.toList ++ args ++ captured.toList⟩ H fun v H' => obT P o.type (some v) fun v => K v H'
   | _, _ => False
  | .builtin .append => match evs t c.args.toList with
   | some args => obG (aBuiltin P .append c.argTypes o.type args H) fun b n c H' => K (.slice b n c) H'
   | none => False
  | .builtin .copy => match evs t c.args.toList with
   | some args => obJ (aBuiltin P .copy c.argTypes o.type args H) fun n H' => K (.int .i64 n) H'
   | none => False
  | .builtin b => match evs t c.args.toList with
   | some args => match aBuiltin P b c.argTypes o.type args H with
    | some (v, H') => K v H'
    | none => False
   | none => False
  | .invoke _ _ => False
 | _ => match plain P o with
  | true => match vOp P t o H with
   | some v => K v H
   | none => False
  | false => obT P o.type (vOp P t o H) fun v => K v H
def Ok (P : Program) (prims : Prims) (ks : FuncId → Keeps) : CallW := fun f args H K => ∃ k v H', callF P prims ks k f args H = some (v, H') ∧ K v H'
section
variable {P : Program} {prims : Prims} {ks : FuncId → Keeps}
theorem opW_out {t : Tr Value} {o : Oper} {H : AH} {K : Value → AH → Prop} (h : opW P (Ok P prims ks) t o H K) : ∃ k v H', aOp P (callF P prims ks k) t o H = some (v, H') ∧ K v H' := by
 cases hop : o.op with
 | load ty a =>
  simp only [opW, hop] at h
  simp only [aOp, hop]
  split at h
  ·rename_i p i h1 h2
   have h4 := h
   simp only [h1, h2]
   split at h4
   ·rename_i n zs g1 g2
    split at h4
    ·rename_i hn
     obtain ⟨l, k1, k2⟩ := obM_out h4
     have := Nat.eq_of_beq_eq_true hn
     refine ⟨0, _, _, ?_, k2⟩
     simp only [g1, loadA]
     rw [← this, show i = i + 0 by omega, k1]
     rfl
    ·exact h4.elim
   ·rename_i z g1 g2
    obtain ⟨v, k1, k2⟩ := ob1_out h4
    exact ⟨0, _, _, by simp only [g1, load1, k1, withH], k2⟩
   ·rename_i g1 g2
    obtain ⟨v, k1, k2⟩ := obV_out h4
    exact ⟨0, _, _, by simp only [g1, load1, k1, withH], k2⟩
   ·exact h4.elim
  ·exact h.elim
 | store ty a x =>
  simp only [opW, hop] at h
  simp only [aOp, hop]
  split at h
  ·rename_i p i v n h1 h2 h3
   have h4 := h
   split at h4
   ·rename_i hn
    obtain ⟨H', k1, k2⟩ := obH_out h4
    exact ⟨0, _, _, by simp only [h1, h2, h3, storeV, hn, k1, noV], k2⟩
   ·exact h4.elim
  ·exact h.elim
 | alloc e =>
  simp only [opW, hop] at h
  split at h
  ·rename_i v H' ha; exact ⟨0, v, H', aOp_mono (fun _ _ _ _ hh => by simp [noCall] at hh) ha, h⟩
  ·exact h.elim
 | box e x =>
  simp only [opW, hop] at h
  split at h
  ·rename_i v H' ha; exact ⟨0, v, H', aOp_mono (fun _ _ _ _ hh => by simp [noCall] at hh) ha, h⟩
  ·exact h.elim
 | buildSlice a b c =>
  simp only [opW, hop] at h
  split at h
  ·rename_i v H' ha; exact ⟨0, v, H', aOp_mono (fun _ _ _ _ hh => by simp [noCall] at hh) ha, h⟩
  ·exact h.elim
 | makeSlice a b c =>
  simp only [opW, hop] at h
  obtain ⟨b', n, c', H', ha, hk⟩ := obG_out h
  exact ⟨0, _, H', aOp_mono (fun _ _ _ _ hh => by simp [noCall] at hh) ha, hk⟩
 | nilCheck x =>
  simp only [opW, hop] at h
  simp only [aOp, hop]
  split at h
  ·rename_i p i h1
   exact ⟨0, _, _, by rw [h1], h⟩
  ·exact h.elim
 | indexAddr a b c =>
  simp only [opW, hop] at h
  obtain ⟨p, i, h3, h4⟩ := obA_out h
  exact ⟨0, _, _, withH_vOp h3, h4⟩
 | convert src dst x =>
  simp only [opW, hop] at h
  split at h
  ·rename_i v h1
   split at h
   ·rename_i e g1 g2
    split at h
    ·rename_i g3
     split at h
     ·rename_i u H' k1
      exact ⟨0, _, _, by simp only [aOp, hop, h1, g1, g2, g3]; exact k1, h⟩
     ·exact h.elim
    ·exact h.elim
   ·split at h
    ·rename_i u hu
     exact ⟨0, _, _, withH_vOp hu, h⟩
    ·exact h.elim
   ·obtain ⟨u, k1, k2⟩ := obT_out h
    exact ⟨0, _, _, withH_vOp k1, k2⟩
  ·exact h.elim
 | call c =>
  simp only [opW, hop] at h
  simp only [aOp, hop]
  split at h
  ·rename_i f hc
   split at h
   ·rename_i g first captured args h1 h2
    obtain ⟨k, v, H', k1, k2⟩ := h
    obtain ⟨u, k3, k4⟩ := obT_out k2
    simp only [Option.some.injEq] at k3
    subst k3
    exact ⟨k, _, _, by simp only [hc, h1, h2, aCall]; exact k1, k4⟩
   ·exact h.elim
  ·rename_i hc
   split at h
   ·rename_i args h2
    obtain ⟨b, n, c, H', k1, k2⟩ := obG_out h
    exact ⟨0, _, _, by simp only [hc, h2]; exact k1, k2⟩
   ·exact h.elim
  ·rename_i hc
   split at h
   ·rename_i args h2
    obtain ⟨n, H', k1, k2⟩ := obJ_out h
    exact ⟨0, _, _, by simp only [hc, h2]; exact k1, k2⟩
   ·exact h.elim
  ·rename_i b _ _ hc
   split at h
   ·rename_i args h2
    split at h
    ·rename_i v H' ha
     exact ⟨0, _, _, by simp only [hc, h2]; exact ha, h⟩
    ·exact h.elim
   ·exact h.elim
  ·exact h.elim
 | _ =>
  simp only [opW, hop] at h
  split at h
  ·split at h
   ·rename_i u hu
    exact ⟨0, _, _, withH_vOp hu, h⟩
   ·exact h.elim
  ·obtain ⟨u, k1, k2⟩ := obT_out h
   exact ⟨0, _, _, withH_vOp k1, k2⟩
end
end AM
end Go.Proofs.YtemcmblcogljkaaGreatDoor

namespace Go.Proofs.YtemcmblcogljkaaGreatDoor
namespace AM
open Go
theorem Tr.set_get {α : Type} : ∀ (f : Nat) (t : Tr α) (k : Nat) (v : α), k < f → t.get k = some v → Tr.set f t k v = t
 | 0, _, _, _, h, _ => by omega
 | f + 1, .leaf, k, v, _, hg => by rw [Tr.get_leaf] at hg; cases hg
 | f + 1, .node x l r, 0, v, _, hg => by simp only [Tr.get] at hg; subst hg; rfl
 | f + 1, .node x l r, k + 1, v, h, hg => by
  simp only [Tr.get] at hg
  simp only [Tr.set]
  split at hg
  ·rename_i hb
   try simp only [hb]
   rw [Tr.set_get f l (k / 2) v (by omega) hg]
  ·rename_i hb
   try simp only [hb]
   rw [Tr.set_get f r (k / 2) v (by omega) hg]
theorem Tr.put_get {α : Type} {t : Tr α} {k : Nat} {v : α} (h : t.get k = some v) : t.put k v = t := Tr.set_get (k + 1) t k v (by omega) h
def guardW (ops : Array Oper) (t : Tr Value) (o : Oper) (no yes : Tr Value → Prop) : Prop :=
 match o.guard with
 | none => yes t
 | some (j, want) => match (ops[j]?).bind (·.dst) with
  | none => False
  | some d => match t.get d with
   | some (.bool b) => ifB b (match want with
    | true => yes (t.put d (.bool true))
    | false => no (t.put d (.bool true))) (match want with
    | true => no (t.put d (.bool false))
    | false => yes (t.put d (.bool false)))
   | some (.tuple _) => no t
   | _ => False
theorem guardW_out {ops : Array Oper} {t : Tr Value} {o : Oper} {no yes : Tr Value → Prop} (h : guardW ops t o no yes) : (wants ops t o = some true ∧ yes t) ∨ (wants ops t o = some false ∧ no t) := by
 unfold guardW at h
 unfold wants
 cases hg : o.guard with
 | none => rw [hg] at h; exact .inl ⟨rfl, h⟩
 | some jw =>
  obtain ⟨j, want⟩ := jw
  rw [hg] at h
  simp only at h ⊢
  cases hd : (ops[j]?).bind (·.dst) with
  | none => rw [hd] at h; exact h.elim
  | some d =>
   rw [hd] at h
   simp only at h ⊢
   split at h
   ·rename_i b hb
    unfold ifB at h
    cases b <;> cases want <;> simp only [Tr.put_get hb] at h <;> simp [hb, h]
   ·rename_i hb
    exact .inr ⟨by simp only [hb], h⟩
   ·exact h.elim
def opsW (P : Program) (cw : CallW) (n : Nat) (ops : Array Oper) : List Oper → Tr Value → AH → (Tr Value → AH → Prop) → Prop
 | [], t, H, K => K t H
 | o :: r, t, H, K => guardW ops t o
  (fun t => match putT n t o.dst undef with
   | some t' => opsW P cw n ops r t' H K
   | none => False)
  (fun t => opW P cw t o H fun v H' => match putT n t o.dst v with
   | some t' => opsW P cw n ops r t' H' K
   | none => False)
section
variable {P : Program} {prims : Prims} {ks : FuncId → Keeps}
theorem opsW_out {n : Nat} {ops : Array Oper} : ∀ {l : List Oper} {t : Tr Value} {H : AH} {K : Tr Value → AH → Prop}, opsW P (Ok P prims ks) n ops l t H K → ∃ k t' H', aOps P (callF P prims ks k) n ops l t H = some (t', H') ∧ K t' H'
 | [], t, H, K, h => ⟨0, t, H, rfl, h⟩
 | o :: l, t, H, K, h => by
  simp only [opsW] at h
  rcases guardW_out h with ⟨hw, h⟩ | ⟨hw, h⟩
  ·obtain ⟨k, v, H', h1, h2⟩ := opW_out h
   split at h2
   ·rename_i t' ht
    obtain ⟨k2, t2, H2, h3, h4⟩ := opsW_out h2
    refine ⟨max k k2, t2, H2, ?_, h4⟩
    simp only [aOps, hw, aOp_mono (callF_mono (Nat.le_max_left k k2)) h1, ht]
    exact aOps_mono (callF_mono (Nat.le_max_right k k2)) h3
   ·exact h2.elim
  ·split at h
   ·rename_i t' ht
    obtain ⟨k2, t2, H2, h3, h4⟩ := opsW_out h
    exact ⟨k2, t2, H2, by simp only [aOps, hw, ht]; exact h3, h4⟩
   ·exact h.elim
end
def opsDW (P : Program) (cw : CallW) (n : Nat) (ops : Array Oper) : Nat → List Oper → Tr Value → AH → List Met → (Tr Value → AH → List Met → Prop) → Prop
 | _, [], t, H, m, K => K t H m.reverse
 | i, o :: r, t, H, m, K => guardW ops t o
  (fun t => match putT n t o.dst undef with
   | some t' => opsDW P cw n ops (i + 1) r t' H m K
   | none => False)
  (fun t => opW P cw t o H fun v H' => match putT n t o.dst v with
   | some t' => match kindOf P o with
    | 0 => opsDW P cw n ops (i + 1) r t' H' m K
    | 1 => opsDW P cw n ops (i + 1) r t' H' (.read i o t v :: m) K
    | 2 => opsDW P cw n ops (i + 1) r t' H' (.new i :: m) K
    | _ => opsDW P cw n ops (i + 1) r t' H' (.eff i H :: m) K
   | none => False)
def sameW (P : Program) (o : Oper) (t : Tr Value) (v : Value) (G : AH) (A : Prop) : Prop :=
 match o.op with
 | .load ty a => match ev t a, known P ty with
  | some (.pointer (some ⟨h, i, none⟩)), true => match aggSize P ty, v with
   | some n, .agg ⟨vs⟩ => match Nat.beq vs.length n with
    | true => obEs G h i 0 vs A
    | false => False
   | none, v => obE1 (G.load h i) v A
   | _, _ => False
  | _, _ => False
 | _ => obE (vOp P t o G) v A
theorem sameW_out {P : Program} {call : Callee} {o : Oper} {t : Tr Value} {v : Value} {G : AH} {A : Prop} (h : sameW P o t v G A) : steady1 P call o t v G = true ∧ A := by
 unfold steady1
 cases hop : o.op with
 | load ty a =>
  simp only [sameW, hop] at h
  simp only [aOp, hop]
  split at h
  ·rename_i p i h1 h2
   have h4 := h
   simp only [h1, h2]
   split at h4
   ·rename_i n vs g1
    split at h4
    ·rename_i hn
     obtain ⟨l, k1, k2, k3⟩ := obEs_out h4
     have := Nat.eq_of_beq_eq_true hn
     refine ⟨?_, k3⟩
     simp only [g1, loadA]
     rw [← this, show i = i + 0 by omega, k1]
     exact k2
    ·exact h4.elim
   ·rename_i v g1
    obtain ⟨u, k1, k2, k3⟩ := obE1_out h4
    exact ⟨by simp only [g1, load1, k1, withH]; exact same_of_same1 k2, k3⟩
   ·exact h4.elim
  ·exact h.elim
 | _ =>
  simp only [sameW, hop] at h
  obtain ⟨u, k1, k2, k3⟩ := obE_out h
  rw [withH_vOp k1]
  exact ⟨k2, k3⟩
def steadyW (P : Program) (b : Array Nat) (es : List (Nat × AH)) (H : AH) (nw : Bool) (j : Nat) (o : Oper) (t : Tr Value) (v : Value) : Nat → Prop → Prop
 | 0, A => A
 | k + 1, A => match mayCome b j k es && (nw || !Nat.beq k (ahead j es)) with
  | true => sameW P o t v (heapAt H k es) (steadyW P b es H nw j o t v k A)
  | false => steadyW P b es H nw j o t v k A
theorem steadyW_out {P : Program} {call : Callee} {b : Array Nat} {es : List (Nat × AH)} {H : AH} {nw : Bool} {j : Nat} {o : Oper} {t : Tr Value} {v : Value} {A : Prop} : ∀ {k : Nat}, steadyW P b es H nw j o t v k A → steady P call b es H nw j o t v k = true ∧ A
 | 0, h => ⟨rfl, h⟩
 | k + 1, h => by
  simp only [steadyW] at h
  simp only [steady]
  split at h
  ·rename_i hm
   obtain ⟨h1, h2⟩ := sameW_out (call := call) h
   obtain ⟨h3, h4⟩ := steadyW_out (call := call) h2
   exact ⟨by rw [hm]; simp only [h1, h3]; rfl, h4⟩
  ·rename_i hm
   obtain ⟨h3, h4⟩ := steadyW_out (call := call) h
   exact ⟨by rw [hm]; simp only [h3]; rfl, h4⟩
def steadyAllW (P : Program) (b : Array Nat) (es : List (Nat × AH)) (H : AH) (nw : Bool) : List (Nat × Oper × Tr Value × Value) → Prop → Prop
 | [], A => A
 | (j, o, t, v) :: r, A => steadyW P b es H nw j o t v (es.length + 1) (steadyAllW P b es H nw r A)
theorem steadyAllW_out {P : Program} {call : Callee} {b : Array Nat} {es : List (Nat × AH)} {H : AH} {nw : Bool} {A : Prop} : ∀ {l : List (Nat × Oper × Tr Value × Value)}, steadyAllW P b es H nw l A → steadyAll P call b es H nw l = true ∧ A
 | [], h => ⟨rfl, h⟩
 | (j, o, t, v) :: r, h => by
  obtain ⟨h1, h2⟩ := steadyW_out (call := call) h
  obtain ⟨h3, h4⟩ := steadyAllW_out (call := call) h2
  exact ⟨by simp only [steadyAll, h1, h3]; rfl, h4⟩
def region1W (P : Program) (cw : CallW) (n : Nat) (ops : Array Oper) (t : Tr Value) (H : AH) (K : Tr Value → AH → Prop) : Prop :=
 match edgesDown 0 ops.toList && ordOk ops (Region.before ops) 0 ops.toList with
 | false => False
 | true => opsDW P cw n ops 0 ops.toList t H [] fun t' H' m => match chained (Region.before ops) (effs m) && newsOk (Region.before ops) none m with
  | true => steadyAllW P (Region.before ops) (effs m) H' (anyNew m) (reads m) (K t' H')
  | false => False
def regionW (P : Program) (cw : CallW) (n : Nat) (hint : Option (List Nat)) (ops : Array Oper) (draw : Bool) (t : Tr Value) (H : AH) (K : Tr Value → AH → Prop) : Prop :=
 match draw with
 | false => opsW P cw n ops ops.toList t H K
 | true => match hint with
  | none => region1W P cw n ops t H K
  | some l => match isPerm ops.size l && refsOk ops with
   | true => region1W P cw n (permOps l ops) t H K
   | false => False
section
variable {P : Program} {prims : Prims} {ks : FuncId → Keeps}
theorem opsDW_out {n : Nat} {ops : Array Oper} : ∀ {l : List Oper} {i : Nat} {t : Tr Value} {H : AH} {m : List Met} {K : Tr Value → AH → List Met → Prop}, opsDW P (Ok P prims ks) n ops i l t H m K → ∃ k t' H' m', aOpsD P (callF P prims ks k) n ops i l t H m = some (t', H', m') ∧ K t' H' m'
 | [], i, t, H, m, K, h => ⟨0, t, H, _, rfl, h⟩
 | o :: l, i, t, H, m, K, h => by
  simp only [opsDW] at h
  rcases guardW_out h with ⟨hw, h⟩ | ⟨hw, h⟩
  ·obtain ⟨k, v, H', h1, h2⟩ := opW_out h
   split at h2
   ·rename_i t' ht
    have key : ∀ m1, opsDW P (Ok P prims ks) n ops (i + 1) l t' H' m1 K → (∀ call, aOpsD P call n ops i (o :: l) t H m = match aOp P call t o H with
      | none => none
      | some (v, H') => match putT n t o.dst v with
       | none => none
       | some t' => match kindOf P o with
        | 0 => aOpsD P call n ops (i + 1) l t' H' m
        | 1 => aOpsD P call n ops (i + 1) l t' H' (.read i o t v :: m)
        | 2 => aOpsD P call n ops (i + 1) l t' H' (.new i :: m)
        | _ => aOpsD P call n ops (i + 1) l t' H' (.eff i H :: m)) →
      (∀ call, (match kindOf P o with
        | 0 => aOpsD P call n ops (i + 1) l t' H' m
        | 1 => aOpsD P call n ops (i + 1) l t' H' (.read i o t v :: m)
        | 2 => aOpsD P call n ops (i + 1) l t' H' (.new i :: m)
        | _ => aOpsD P call n ops (i + 1) l t' H' (.eff i H :: m)) = aOpsD P call n ops (i + 1) l t' H' m1) →
      ∃ k t' H' m', aOpsD P (callF P prims ks k) n ops i (o :: l) t H m = some (t', H', m') ∧ K t' H' m' := by
     intro m1 hh he hk
     obtain ⟨k2, t2, H2, m2, h3, h4⟩ := opsDW_out hh
     refine ⟨max k k2, t2, H2, m2, ?_, h4⟩
     rw [he, aOp_mono (callF_mono (Nat.le_max_left k k2)) h1]
     simp only [ht]
     rw [hk]
     exact aOpsD_mono (callF_mono (Nat.le_max_right k k2)) h3
    have he : ∀ call, aOpsD P call n ops i (o :: l) t H m = match aOp P call t o H with
      | none => none
      | some (v, H') => match putT n t o.dst v with
       | none => none
       | some t' => match kindOf P o with
        | 0 => aOpsD P call n ops (i + 1) l t' H' m
        | 1 => aOpsD P call n ops (i + 1) l t' H' (.read i o t v :: m)
        | 2 => aOpsD P call n ops (i + 1) l t' H' (.new i :: m)
        | _ => aOpsD P call n ops (i + 1) l t' H' (.eff i H :: m) := fun call => by simp only [aOpsD, hw]; rfl
    split at h2
    ·rename_i hk; exact key _ h2 he fun call => by simp only [hk]
    ·rename_i hk; exact key _ h2 he fun call => by simp only [hk]
    ·rename_i hk; exact key _ h2 he fun call => by simp only [hk]
    ·rename_i x k0 k1 k2
     refine key _ h2 he fun call => ?_
     split
     ·rename_i hk; exact absurd hk k0
     ·rename_i hk; exact absurd hk k1
     ·rename_i hk; exact absurd hk k2
     ·rfl
   ·exact h2.elim
  ·split at h
   ·rename_i t' ht
    obtain ⟨k2, t2, H2, m2, h3, h4⟩ := opsDW_out h
    exact ⟨k2, t2, H2, m2, by simp only [aOpsD, hw, ht]; exact h3, h4⟩
   ·exact h.elim
theorem region1W_out {n : Nat} {ops : Array Oper} {t : Tr Value} {H : AH} {K : Tr Value → AH → Prop} (h : region1W P (Ok P prims ks) n ops t H K) : ∃ k t' H', aRegion1 P (callF P prims ks k) n ops t H = some (t', H') ∧ K t' H' := by
 unfold region1W at h
 split at h
 ·exact h.elim
 ·rename_i hc
  obtain ⟨k, t', H', m, h1, h2⟩ := opsDW_out h
  split at h2
  ·rename_i hcs
   obtain ⟨h3, h4⟩ := steadyAllW_out (call := callF P prims ks k) h2
   refine ⟨k, t', H', ?_, h4⟩
   unfold aRegion1
   simp only [hc, h1, hcs, h3]
   rfl
  ·exact h2.elim
theorem regionW_out {n : Nat} {hint : Option (List Nat)} {ops : Array Oper} {draw : Bool} {t : Tr Value} {H : AH} {K : Tr Value → AH → Prop} (h : regionW P (Ok P prims ks) n hint ops draw t H K) : ∃ k t' H', aRegion P (callF P prims ks k) n hint ops draw t H = some (t', H') ∧ K t' H' := by
 unfold regionW at h
 unfold aRegion
 split at h
 ·exact opsW_out h
 ·split at h
  ·exact region1W_out h
  ·split at h
   ·rename_i hp
    simp only [hp]
    exact region1W_out h
   ·exact h.elim
end
theorem putT_get {n : Nat} {t t' : Tr Value} {d : Option Tmp} {v : Value} (h : putT n t d v = some t') {x : Nat} (hx : d ≠ some x) : t'.get x = t.get x := by
 unfold putT at h
 split at h
 ·injection h with h; rw [h]
 ·rename_i y
  split at h
  ·injection h with h
   rw [← h, Tr.get_put_other]
   intro e; subst e; exact hx rfl
  ·cases h
theorem aOps_get {P : Program} {call : Callee} {n : Nat} {ops : Array Oper} {x : Nat} : ∀ {l : List Oper} {t t' : Tr Value} {H H' : AH}, aOps P call n ops l t H = some (t', H') → (∀ o ∈ l, o.dst ≠ some x) → t'.get x = t.get x
 | [], t, t', H, H', h, _ => by simp only [aOps, Option.some.injEq, Prod.mk.injEq] at h; rw [h.1]
 | o :: l, t, t', H, H', h, hx => by
  simp only [aOps] at h
  split at h
  ·cases h
  ·split at h
   ·cases h
   ·rename_i t1 ht
    rw [aOps_get h fun o ho => hx o (by simp [ho]), putT_get ht (hx o (by simp))]
  ·split at h
   ·cases h
   ·split at h
    ·cases h
    ·rename_i t1 ht
     rw [aOps_get h fun o ho => hx o (by simp [ho]), putT_get ht (hx o (by simp))]
theorem aOpsD_get {P : Program} {call : Callee} {n : Nat} {ops : Array Oper} {x : Nat} : ∀ {l : List Oper} {i : Nat} {t t' : Tr Value} {H H' : AH} {m m' : List Met}, aOpsD P call n ops i l t H m = some (t', H', m') → (∀ o ∈ l, o.dst ≠ some x) → t'.get x = t.get x
 | [], i, t, t', H, H', m, m', h, _ => by simp only [aOpsD, Option.some.injEq, Prod.mk.injEq] at h; rw [h.1]
 | o :: l, i, t, t', H, H', m, m', h, hx => by
  simp only [aOpsD] at h
  split at h
  ·cases h
  ·split at h
   ·cases h
   ·rename_i t1 ht
    rw [aOpsD_get h fun o ho => hx o (by simp [ho]), putT_get ht (hx o (by simp))]
  ·split at h
   ·cases h
   ·split at h
    ·cases h
    ·rename_i t1 ht
     split at h <;> rw [aOpsD_get h fun o ho => hx o (by simp [ho]), putT_get ht (hx o (by simp))]
theorem aRegion1_get {P : Program} {call : Callee} {n : Nat} {ops : Array Oper} {x : Nat} {t t' : Tr Value} {H H' : AH} (h : aRegion1 P call n ops t H = some (t', H')) (hx : ∀ o ∈ ops.toList, o.dst ≠ some x) : t'.get x = t.get x := by
 unfold aRegion1 at h
 split at h
 ·cases h
 ·split at h
  ·cases h
  ·rename_i t1 H1 m hd
   split at h
   ·simp only [Option.some.injEq, Prod.mk.injEq] at h
    rw [← h.1, aOpsD_get hd hx]
   ·cases h
theorem aRegion_get {P : Program} {call : Callee} {n : Nat} {hint : Option (List Nat)} {ops : Array Oper} {draw : Bool} {x : Nat} {t t' : Tr Value} {H H' : AH} (h : aRegion P call n hint ops draw t H = some (t', H')) (hx : ∀ o ∈ ops.toList, o.dst ≠ some x) : t'.get x = t.get x := by
 unfold aRegion at h
 split at h
 ·exact aOps_get h hx
 ·split at h
  ·exact aRegion1_get h hx
  ·split at h
   ·refine aRegion1_get h fun o ho => ?_
    simp only [permOps, List.mem_filterMap, Option.map_eq_some_iff] at ho
    obtain ⟨j, _, p, hp, rfl⟩ := ho
    obtain ⟨hlt, rfl⟩ := Array.getElem?_eq_some_iff.1 hp
    exact hx ops[j] (by simp)
   ·cases h
theorem keepT_congr {t t' : Tr Value} : ∀ {l : List Nat} {acc : Tr Value}, (∀ x ∈ l, t.get x = t'.get x) → keepT t l acc = keepT t' l acc
 | [], _, _ => rfl
 | k :: r, acc, h => by
  simp only [keepT]
  rw [h k (by simp)]
  split <;> exact keepT_congr fun x hx => h x (by simp [hx])
def oneOut (ops : List Oper) (live : List Nat) (d : Nat) : Bool :=
 match ops with
 | [] => true
 | o :: r => (match o.dst with
  | none => true
  | some x => Nat.beq x d || !live.contains x) && oneOut r live d
theorem oneOut_spec {live : List Nat} {d : Nat} : ∀ {ops : List Oper}, oneOut ops live d = true → ∀ x ∈ live, x ≠ d → ∀ o ∈ ops, o.dst ≠ some x
 | [], _, _, _, _, o, ho => by simp at ho
 | p :: r, h, x, hx, hne, o, ho => by
  simp only [oneOut, Bool.and_eq_true] at h
  rcases List.mem_cons.1 ho with rfl | ho
  ·intro e
   have h1 := h.1
   rw [e] at h1
   simp only [Bool.or_eq_true, Bool.not_eq_true', List.contains_eq_mem, decide_eq_false_iff_not] at h1
   rcases h1 with h1 | h1
   ·exact hne (Nat.eq_of_beq_eq_true h1)
   ·exact h1 hx
  ·exact oneOut_spec h.2 x hx hne o ho
def join2 {α : Type} (T : (α → AH → Prop) → Prop) (K : α → AH → Prop) : Prop := T K
def LoopP {σ : Type} (B : (σ → Prop) → σ → Prop) (s : σ) : Prop := ∀ R : σ → Prop, (∀ (R0 : σ → Prop) (s : σ), (∀ s', R0 s' → R s') → B R0 s → R s) → R s
theorem LoopP.step {σ : Type} {B : (σ → Prop) → σ → Prop} {s : σ} (h : B (LoopP B) s) : LoopP B s :=
 fun R hR => hR (LoopP B) s (fun _ hh => hh R hR) h
def kSeq (e : (AX → St → Prop) → St → Prop) (K : AX → St → Prop) : AX → St → Prop
 | .normal, s => e K s
 | x, s => K x s
def kBlock (ks : Keeps) (id : Nat) (K : AX → St → Prop) : AX → St → Prop
 | .exit j, s => match Nat.beq j id with
  | true => K .normal (cutR ks (id + 1000) s)
  | false => K (.exit j) s
 | .normal, s => K .normal (cutR ks (id + 1000) s)
 | .ret, s => K .ret s
def kLoop (ks : Keeps) (c : Code) (rec : St → Prop) (K : AX → St → Prop) : AX → St → Prop
 | .normal, s => rec (cutS ks c s)
 | x, s => K x s
def execW (P : Program) (cw : CallW) (ks : Keeps) (n : Nat) : Code → (AX → St → Prop) → St → Prop
 | .skip, K, s => K .normal s
 | .region id ops draw, K, s => match ks (id + 4000), ks (id + 2000) with
  | some [d], some live => match oneOut ops.toList live d with
   | true => join2 (fun J => regionW P cw n (ks (id + 1000)) ops draw s.1 s.2 fun t H => match t.get d with
    | some (.bool b) => J b H
    | _ => False) fun b H => K .normal (keepT (s.1.put d (.bool b)) live .leaf, H)
   | false => False
  | _, _ => regionW P cw n (ks (id + 1000)) ops draw s.1 s.2 fun t H => K .normal (cutR ks id (t, H))
 | .seq a b, K, s => execW P cw ks n a (kSeq (execW P cw ks n b) K) s
 | .cond c x y, K, s => match c with
  | .tmp d => match s.1.get d with
   | some (.bool b) => ifB b (execW P cw ks n x K (s.1.put d (.bool true), s.2)) (execW P cw ks n y K (s.1.put d (.bool false), s.2))
   | _ => False
  | .const (.bool true) => execW P cw ks n x K s
  | .const (.bool false) => execW P cw ks n y K s
  | _ => False
 | .block id c, K, s => execW P cw ks n c (kBlock ks id K) s
 | .loop c, K, s => LoopP (fun rec s => execW P cw ks n c (kLoop ks c rec K) s) (cutS ks c s)
 | .exit id, K, s => K (.exit id) s
 | .ret, K, s => K .ret s
 | _, _, _ => False
section
variable {P : Program} {prims : Prims} {ks : FuncId → Keeps} {kp : Keeps}
theorem execW_out {n : Nat} : ∀ (c : Code) {K : AX → St → Prop} {s : St}, execW P (Ok P prims ks) kp n c K s → ∃ k x s', exec P (callF P prims ks k) kp k n c s = some (x, s') ∧ K x s' := by
 intro c
 induction c with
 | skip => exact fun h => ⟨0, _, _, rfl, h⟩
 | region id ops draw =>
  intro K s h
  simp only [execW] at h
  split at h
  ·rename_i d live g1 g2
   split at h
   ·rename_i ho
    unfold join2 at h
    obtain ⟨k, t', H', h1, h2⟩ := regionW_out h
    split at h2
    ·rename_i b hb
     refine ⟨k, .normal, cutR kp id (t', H'), by simp only [exec, h1], ?_⟩
     unfold cutR
     rw [g2]
     simp only
     rw [keepT_congr (t' := s.1.put d (.bool b))]
     ·exact h2
     ·intro x hx
      rw [Tr.get_put]
      by_cases e : x = d
      ·subst e; rw [if_pos rfl]; exact hb
      ·rw [if_neg e]
       exact aRegion_get h1 (oneOut_spec ho x hx e)
    ·exact h2.elim
   ·exact h.elim
  ·obtain ⟨k, t', H', h1, h2⟩ := regionW_out h
   exact ⟨k, _, _, by simp only [exec, h1], h2⟩
 | seq a b iha ihb =>
  intro K s h
  obtain ⟨k, x, s1, h1, h2⟩ := iha h
  have other : (∀ _ : St, x = .normal → False) → K x s1 → ∃ k x s', exec P (callF P prims ks k) kp k n (a.seq b) s = some (x, s') ∧ K x s' := by
   intro hx hK
   refine ⟨k, x, s1, ?_, hK⟩
   simp only [exec, h1]
   cases x <;> first | rfl | exact absurd rfl (hx s1)
  cases x with
  | normal =>
   obtain ⟨k2, x2, s2, h3, h4⟩ := ihb h2
   refine ⟨max k k2, x2, s2, ?_, h4⟩
   simp only [exec, exec_mono (callF_mono (Nat.le_max_left k k2)) (Nat.le_max_left k k2) a h1]
   exact exec_mono (callF_mono (Nat.le_max_right k k2)) (Nat.le_max_right k k2) b h3
  | exit id => exact other (fun _ hh => by cases hh) h2
  | ret => exact other (fun _ hh => by cases hh) h2
 | cond c x y ihx ihy =>
  intro K s h
  simp only [execW] at h
  split at h
  ·rename_i d
   split at h
   ·rename_i b hb
    unfold ifB at h
    cases b with
    | true =>
     simp only [Tr.put_get hb] at h
     obtain ⟨k, x', s', h1, h2⟩ := ihx h
     exact ⟨k, x', s', by simp only [exec, ev, hb]; exact h1, h2⟩
    | false =>
     simp only [Tr.put_get hb] at h
     obtain ⟨k, x', s', h1, h2⟩ := ihy h
     exact ⟨k, x', s', by simp only [exec, ev, hb]; exact h1, h2⟩
   ·exact h.elim
  ·obtain ⟨k, x', s', h1, h2⟩ := ihx h
   exact ⟨k, x', s', by simp only [exec, ev, flat]; exact h1, h2⟩
  ·obtain ⟨k, x', s', h1, h2⟩ := ihy h
   exact ⟨k, x', s', by simp only [exec, ev, flat]; exact h1, h2⟩
  ·exact h.elim
 | block id c ih =>
  intro K s h
  obtain ⟨k, x, s1, h1, h2⟩ := ih h
  cases x with
  | normal => exact ⟨k, _, _, by simp only [exec, h1], h2⟩
  | ret => exact ⟨k, _, _, by simp only [exec, h1], h2⟩
  | exit j =>
   simp only [kBlock] at h2
   split at h2
   ·rename_i hj; exact ⟨k, _, _, by simp only [exec, h1, hj], h2⟩
   ·rename_i hj; exact ⟨k, _, _, by simp only [exec, h1, hj], h2⟩
 | loop c ih =>
  intro K s h
  refine h (fun s1 => ∀ s0, cutS kp c s0 = s1 → ∃ k x s', aIter (fun s => exec P (callF P prims ks k) kp k n c (cutS kp c s)) k s0 = some (x, s') ∧ K x s') (fun R0 s1 h0 hb s0 hs => ?_) s rfl
  obtain ⟨k, x, s2, h1, h2⟩ := ih hb
  have other : (∀ _ : St, x = .normal → False) → K x s2 → ∃ k x s', aIter (fun s => exec P (callF P prims ks k) kp k n c (cutS kp c s)) k s0 = some (x, s') ∧ K x s' := by
   intro hx hK
   refine ⟨k + 1, x, s2, ?_, hK⟩
   simp only [aIter, hs, exec_mono (callF_mono (Nat.le_succ k)) (Nat.le_succ k) c h1]
   cases x <;> first | rfl | exact absurd rfl (hx s2)
  cases x with
  | normal =>
   obtain ⟨k2, x2, s3, h3, h4⟩ := h0 _ h2 s2 rfl
   have e1 : k ≤ max k k2 + 1 := by omega
   have e2 : k2 ≤ max k k2 + 1 := by omega
   refine ⟨max k k2 + 1, x2, s3, ?_, h4⟩
   simp only [aIter, hs, exec_mono (callF_mono e1) e1 c h1]
   exact aIter_mono (fun s r hr => exec_mono (callF_mono e2) e2 c hr) (Nat.le_max_right k k2) h3
  | exit id => exact other (fun _ hh => by cases hh) h2
  | ret => exact other (fun _ hh => by cases hh) h2
 | exit id => exact fun h => ⟨0, _, _, rfl, h⟩
 | ret => exact fun h => ⟨0, _, _, rfl, h⟩
 | _ => intro K s h; simp [execW] at h
end
def resW (P : Program) (t : Tr Value) (H : AH) : List ResultVar → (List Value → Prop) → Prop
 | [], K => K []
 | .tmp i :: rs, K => match t.get i with
  | some v => resW P t H rs fun l => K (v :: l)
  | none => False
 | .cell a ty :: rs, K => match t.get a, known P ty with
  | some (.pointer (some ⟨h, i, none⟩)), true => match aggSize P ty, zeroV P ty with
   | some n, some (.agg ⟨zs⟩) => match Nat.beq zs.length n with
    | true => obM H h i zs 0 fun l => resW P t H rs fun r => K (.agg ⟨l⟩ :: r)
    | false => False
   | none, some z => ob1 z (H.load h i) fun v => resW P t H rs fun r => K (v :: r)
   | _, _ => False
  | _, _ => False
def kRet (P : Program) (fn : Func) (Q : Value → AH → Prop) : AX → St → Prop
 | .exit _, _ => False
 | _, s => resW P s.1 s.2 fn.results.toList fun l => Q (tupled l) s.2
def runW (P : Program) (cw : CallW) (ks : Keeps) (fn : Func) (args : Array Value) (H : AH) (Q : Value → AH → Prop) : Prop :=
 match fn.body with
 | some c => match Nat.ble args.size fn.ntmps with
  | true => execW P cw ks fn.ntmps c (kRet P fn Q) (argsT args, H)
  | false => False
 | none => False
section
variable {P : Program} {prims : Prims} {ks : FuncId → Keeps}
theorem resW_out {t : Tr Value} {H : AH} : ∀ {rs : List ResultVar} {K : List Value → Prop}, resW P t H rs K → ∃ l, resVs t H P rs = some l ∧ K l
 | [], K, h => ⟨[], rfl, h⟩
 | .tmp i :: rs, K, h => by
  simp only [resW] at h
  split at h
  ·rename_i v h1
   obtain ⟨l, h3, h4⟩ := resW_out h
   exact ⟨v :: l, by simp only [resVs, resV, h1, h3], h4⟩
  ·exact h.elim
 | .cell a ty :: rs, K, h => by
  simp only [resW] at h
  split at h
  ·rename_i p i g1 g2
   have h4 := h
   split at h4
   ·rename_i n zs g3 g4
    split at h4
    ·rename_i hn
     have hn := Nat.eq_of_beq_eq_true hn
     obtain ⟨l, k1, k2⟩ := obM_out h4
     obtain ⟨r, h5, h6⟩ := resW_out k2
     refine ⟨_, ?_, h6⟩
     simp only [resVs, resV, g1, g2, g3, loadA, h5]
     rw [← hn, show i = i + 0 by omega, k1]
    ·exact h4.elim
   ·rename_i z g3 g4
    obtain ⟨v, k1, k2⟩ := ob1_out h4
    obtain ⟨r, h5, h6⟩ := resW_out k2
    exact ⟨_, by simp only [resVs, resV, g1, g2, g3, load1, k1, h5], h6⟩
   ·exact h4.elim
  ·exact h.elim
theorem runW_out {kp : Keeps} {fn : Func} {args : Array Value} {H : AH} {Q : Value → AH → Prop} (h : runW P (Ok P prims ks) kp fn args H Q) : ∃ k v H', run P (callF P prims ks k) kp k fn args H = some (v, H') ∧ Q v H' := by
 unfold runW at h
 split at h
 ·rename_i c hc
  split at h
  ·rename_i hb
   obtain ⟨k, x, s, h1, h2⟩ := execW_out c h
   have key : resW P s.1 s.2 fn.results.toList (fun l => Q (tupled l) s.2) → (x = .normal ∨ x = .ret) → ∃ k v H', run P (callF P prims ks k) kp k fn args H = some (v, H') ∧ Q v H' := by
    intro h3 hx
    obtain ⟨l, h4, h5⟩ := resW_out h3
    refine ⟨k, tupled l, s.2, ?_, h5⟩
    unfold run
    simp only [hc, hb, h1]
    obtain ⟨t, H1⟩ := s
    simp only at h4
    rcases hx with rfl | rfl <;> simp only [h4]
   cases x with
   | normal => exact key h2 (.inl rfl)
   | ret => exact key h2 (.inr rfl)
   | exit id => exact h2.elim
  ·exact h.elim
 ·exact h.elim
theorem Ok.of_run {f : FuncId} {fn : Func} {args : Array Value} {H : AH} {Q : Value → AH → Prop} (hp : prims f = none) (hf : P.funcs[f]? = some fn) (h : runW P (Ok P prims ks) (ks f) fn args H Q) : Ok P prims ks f args H Q := by
 obtain ⟨k, v, H', h1, h2⟩ := runW_out h
 refine ⟨k + 1, v, H', ?_, h2⟩
 show (match prims f with
  | some p => p args H
  | none => match P.funcs[f]? with
   | none => none
   | some fn => run P (callF P prims ks k) (ks f) k fn args H) = _
 rw [hp]
 simp only [hf]
 exact h1
theorem Ok.mono {f : FuncId} {args : Array Value} {H : AH} {Q Q' : Value → AH → Prop} (h : Ok P prims ks f args H Q) (hq : ∀ v H', Q v H' → Q' v H') : Ok P prims ks f args H Q' := by
 obtain ⟨k, v, H', h1, h2⟩ := h
 exact ⟨k, v, H', h1, hq v H' h2⟩
end
end AM
end Go.Proofs.YtemcmblcogljkaaGreatDoor

namespace Go.Proofs.YtemcmblcogljkaaGreatDoor
namespace AM
open Go
abbrev I (x : Int) : Value := .int .i64 x
theorem of_eq {a b : Prop} (e : a = b) (h : b) : a := e ▸ h
def bs (l : List UInt8) : ByteArray := ⟨⟨l⟩⟩
def letH (H : AH) (K : AH → Prop) : Prop := K H
def obN (n : Nat) (v : Value) (A : Prop) : Prop := match isAgg n v with
  | true => A
  | false => False
def bodyOf (f : Func) : Code := match f.body with
  | some c => c
  | none => .skip
def cL : Code → Code
  | .seq a _ => a
  | .cond _ a _ => a
  | .block _ c => c
  | .loop c => c
  | c => c
def cR : Code → Code
  | .seq _ b => b
  | .cond _ _ b => b
  | c => c
end AM
end Go.Proofs.YtemcmblcogljkaaGreatDoor

