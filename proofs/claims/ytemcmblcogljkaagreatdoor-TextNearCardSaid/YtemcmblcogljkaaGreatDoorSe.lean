/- The abstract machine: regions that draw their order. The abstract machine: regions that draw their order, second part: what the run in the order of the text leaves behind. The abstract machine: regions that draw their order, third part: the run in the order of the text. -/
import Derived.Test.YtemcmblcogljkaaGreatDoorSc
set_option linter.all false
set_option linter.unusedSimpArgs false
set_option linter.unusedVariables false
namespace Go.Proofs.YtemcmblcogljkaaGreatDoor
namespace AM
open Go
def Agree (l : List Operand) (t u : Tr Value) : Prop := ∀ i, Operand.tmp i ∈ l → t.get i = u.get i
theorem ev_congr {t u : Tr Value} {x : Operand} (h : ∀ i, x = .tmp i → t.get i = u.get i) : ev t x = ev u x := by
 cases x with
 | tmp i => exact h i rfl
 | _ => rfl
theorem evs_congr {t u : Tr Value} : ∀ {l : List Operand}, Agree l t u → evs t l = evs u l
 | [], _ => rfl
 | x :: r, h => by
  have h1 : ev t x = ev u x := ev_congr fun i e => h i (by simp [e])
  have h2 : evs t r = evs u r := evs_congr fun i hi => h i (by simp [hi])
  simp only [evs, h1, h2]
theorem evo_congr {t u : Tr Value} {x : Option Operand} (h : ∀ i, x = some (.tmp i) → t.get i = u.get i) : evo t x = evo u x := by
 cases x with
 | none => rfl
 | some x =>
  have h1 : ev t x = ev u x := ev_congr fun i e => h i (by rw [e])
  simp only [evo, h1]
theorem evps_congr {t u : Tr Value} : ∀ {l : List (Nat × Operand)}, Agree (l.map (·.2)) t u → evps t l = evps u l
 | [], _ => rfl
 | (j, x) :: r, h => by
  have h1 : ev t x = ev u x := ev_congr fun i e => h i (by simp [e])
  have h2 : evps t r = evps u r := evps_congr fun i hi => h i (by simp only [List.map_cons, List.mem_cons]; exact .inr hi)
  simp only [evps, h1, h2]
theorem aOp_congr {P : Program} {call : Callee} {t u : Tr Value} {o : Oper} (H : AH) (h : Agree o.op.operands.toList t u) : aOp P call t o H = aOp P call u o H := by
 have e1 : ∀ x, x ∈ o.op.operands.toList → ev t x = ev u x := fun x hx => ev_congr fun i e => h i (e ▸ hx)
 unfold aOp
 cases hop : o.op with
 | move x => simp only [e1 x (by simp [hop, Op.operands])]
 | assign x => simp only [e1 x (by simp [hop, Op.operands])]
 | pick c x y => simp only [e1 c (by simp [hop, Op.operands]), e1 x (by simp [hop, Op.operands]), e1 y (by simp [hop, Op.operands])]
 | alloc e => rfl
 | box e x => simp only [e1 x (by simp [hop, Op.operands])]
 | build ty ps =>
  have : evps t ps.toList = evps u ps.toList := evps_congr (by simpa [hop, Op.operands] using h)
  simp only [this]
 | buildSlice ty len ps =>
  have : evps t ps.toList = evps u ps.toList := evps_congr (by simpa [hop, Op.operands] using h)
  simp only [this]
 | load ty x => simp only [e1 x (by simp [hop, Op.operands])]
 | store ty x y => simp only [e1 x (by simp [hop, Op.operands]), e1 y (by simp [hop, Op.operands])]
 | nilCheck x => simp only [e1 x (by simp [hop, Op.operands])]
 | binOp op ty x y yt => simp only [e1 x (by simp [hop, Op.operands]), e1 y (by simp [hop, Op.operands])]
 | unOp op ty x => simp only [e1 x (by simp [hop, Op.operands])]
 | convert src dst x => simp only [e1 x (by simp [hop, Op.operands])]
 | makeInterface ty x => simp only [e1 x (by simp [hop, Op.operands])]
 | makeFunc fn a b =>
  have h1 : evs t a.toList = evs u a.toList := evs_congr fun i hi => h i (by simp only [hop, Op.operands, Array.toList_append, List.mem_append]; exact .inl hi)
  have h2 : evs t b.toList = evs u b.toList := evs_congr fun i hi => h i (by simp only [hop, Op.operands, Array.toList_append, List.mem_append]; exact .inr hi)
  simp only [h1, h2]
 | makeSlice ty x y => simp only [e1 x (by simp [hop, Op.operands]), e1 y (by simp [hop, Op.operands])]
 | slice ty x lo hi mx =>
  have h1 : evo t lo = evo u lo := evo_congr fun i e => h i (by simp [hop, Op.operands, e])
  have h2 : evo t hi = evo u hi := evo_congr fun i e => h i (by simp [hop, Op.operands, e])
  simp only [e1 x (by simp [hop, Op.operands]), h1, h2]
 | fieldAddr s x f => simp only [e1 x (by simp [hop, Op.operands])]
 | field s x f => simp only [e1 x (by simp [hop, Op.operands])]
 | indexAddr ty x i => simp only [e1 x (by simp [hop, Op.operands]), e1 i (by simp [hop, Op.operands])]
 | index ty x i => simp only [e1 x (by simp [hop, Op.operands]), e1 i (by simp [hop, Op.operands])]
 | extract x i => simp only [e1 x (by simp [hop, Op.operands])]
 | call c =>
  have h1 : evs t c.args.toList = evs u c.args.toList := evs_congr fun i hi => h i (by
   simp only [hop, Op.operands, Call.operands, Array.toList_append, List.mem_append]; exact .inr hi)
  simp only [h1]
  cases hc : c.callee with
  | value f =>
   have h2 : ev t f = ev u f := e1 f (by simp [hop, Op.operands, Call.operands, hc])
   simp only [h2]
  | _ => rfl
 | _ => rfl
theorem withH_all {x : Option Value} {v : Value} {G G' : AH} (h : withH G x = some (v, G')) : G' = G ∧ ∀ C, withH C x = some (v, C) := by
 obtain ⟨rfl, rfl⟩ := withH_some h
 exact ⟨rfl, fun _ => rfl⟩
theorem aOp_light {P : Program} {call : Callee} {t : Tr Value} {o : Oper} {G G' : AH} {v : Value} (hk : kindOf P o = 0) (h : aOp P call t o G = some (v, G')) : G' = G ∧ ∀ C, aOp P call t o C = some (v, C) := by
 unfold aOp at h ⊢
 unfold kindOf at hk
 cases hop : o.op with
 | move x => simp only [hop] at h ⊢; exact withH_all h
 | assign x => simp only [hop] at h ⊢; exact withH_all h
 | pick c x y =>
  simp only [hop] at h ⊢
  split at h
  ·exact withH_all h
  ·exact withH_all h
  ·cases h
 | alloc e => simp [hop] at hk
 | box e x => simp [hop] at hk
 | build ty ps =>
  simp only [hop] at h ⊢
  split at h
  ·exact withH_all h
  ·cases h
 | buildSlice ty len ps => simp [hop] at hk
 | load ty x => simp [hop] at hk
 | store ty x y => simp [hop] at hk
 | nilCheck x =>
  simp only [hop] at h ⊢
  split at h
  ·simp only [Option.some.injEq, Prod.mk.injEq] at h
   obtain ⟨rfl, rfl⟩ := h
   exact ⟨rfl, fun _ => rfl⟩
  ·cases h
 | binOp op ty x y yt =>
  simp only [hop] at h ⊢
  split at h
  ·exact withH_all h
  ·cases h
 | unOp op ty x =>
  simp only [hop] at h ⊢
  split at h
  ·split at h
   ·exact withH_all h
   ·cases h
  ·cases h
 | convert src dst x =>
  simp only [hop] at h hk ⊢
  split at h
  ·split at h
   ·rename_i e1 e2; simp [e1, e2] at hk
   ·rename_i e1 e2; simp [e1, e2] at hk
   ·split at h
    ·exact withH_all h
    ·cases h
  ·cases h
 | makeInterface ty x =>
  simp only [hop] at h ⊢
  split at h
  ·cases h
  ·simp only [Option.some.injEq, Prod.mk.injEq] at h
   obtain ⟨rfl, rfl⟩ := h
   exact ⟨rfl, fun _ => rfl⟩
  ·cases h
 | makeFunc fn a b =>
  simp only [hop] at h ⊢
  split at h
  ·simp only [Option.some.injEq, Prod.mk.injEq] at h
   obtain ⟨rfl, rfl⟩ := h
   exact ⟨rfl, fun _ => rfl⟩
  ·cases h
 | makeSlice ty x y => simp [hop] at hk
 | slice ty x lo hi mx => simp [hop] at hk
 | fieldAddr s x f =>
  simp only [hop] at h ⊢
  split at h
  ·split at h
   ·split at h
    ·exact withH_all h
    ·cases h
   ·cases h
  ·cases h
 | field s x f =>
  simp only [hop] at h ⊢
  split at h
  ·split at h
   ·split at h
    ·exact withH_all h
    ·cases h
   ·cases h
  ·cases h
 | indexAddr ty x i =>
  simp only [hop] at h ⊢
  split at h
  ·split at h
   ·exact withH_all h
   ·cases h
  ·split at h
   ·exact withH_all h
   ·cases h
  ·cases h
 | index ty x i =>
  simp only [hop] at h ⊢
  split at h
  ·split at h
   ·exact withH_all h
   ·cases h
  ·exact withH_all h
  ·cases h
 | extract x i =>
  simp only [hop] at h ⊢
  split at h
  ·exact withH_all h
  ·cases h
 | call c =>
  simp only [hop] at h hk ⊢
  cases hc : c.callee with
  | value f => simp [hc] at hk
  | invoke a b => simp only [hc] at h; cases h
  | builtin b =>
   simp only [hc] at h hk ⊢
   split at h
   ·rename_i args ha
    have hlen : b = .len ∨ b = .min ∨ b = .max := by cases b <;> simp at hk <;> simp
    unfold aBuiltin at h ⊢
    rcases hlen with rfl | rfl | rfl
    ·split at h
     ·split at h
      ·simp only [Option.some.injEq, Prod.mk.injEq] at h; obtain ⟨rfl, rfl⟩ := h; exact ⟨rfl, fun _ => rfl⟩
      ·simp only [Option.some.injEq, Prod.mk.injEq] at h; obtain ⟨rfl, rfl⟩ := h; exact ⟨rfl, fun _ => rfl⟩
      ·simp only [Option.some.injEq, Prod.mk.injEq] at h; obtain ⟨rfl, rfl⟩ := h; exact ⟨rfl, fun _ => rfl⟩
      ·cases h
     all_goals (first | cases h | contradiction | (rename_i e1 _; cases e1) | (rename_i e1; cases e1) | skip)
    ·cases hf : flatL args with
     | true =>
      simp only [hf] at h ⊢
      exact withH_all h
     | false => simp only [hf] at h; cases h
    ·cases hf : flatL args with
     | true =>
      simp only [hf] at h ⊢
      exact withH_all h
     | false => simp only [hf] at h; cases h
   ·cases h
 | _ => simp only [hop] at h; cases h
end AM
end Go.Proofs.YtemcmblcogljkaaGreatDoor

namespace Go.Proofs.YtemcmblcogljkaaGreatDoor
namespace AM
open Go
theorem aOp_read {P : Program} {call : Callee} {t : Tr Value} {o : Oper} {G G' : AH} {v : Value} (hk : kindOf P o = 1) (h : aOp P call t o G = some (v, G')) : G' = G := by
 unfold aOp at h
 unfold kindOf at hk
 cases hop : o.op with
 | load ty x =>
  simp only [hop] at h
  split at h
  ·split at h <;> exact (withH_all h).1
  ·cases h
 | slice ty x lo hi mx =>
  simp only [hop] at h
  split at h
  ·exact (withH_all h).1
  ·cases h
 | convert src dst x =>
  simp only [hop] at h hk
  split at h
  ·split at h
   ·rename_i e1 e2; simp [e1, e2] at hk
   ·split at h
    ·exact (withH_all h).1
    ·cases h
   ·split at h
    ·exact (withH_all h).1
    ·cases h
  ·cases h
 | call c =>
  simp only [hop] at hk
  cases hc : c.callee with
  | builtin b => simp only [hc] at hk; cases b <;> simp at hk
  | _ => simp [hc] at hk
 | _ => simp [hop] at hk
theorem same1_eq {a b : Value} (h : same1 a b = true) : a = b := by
 unfold same1 at h
 split at h <;> simp_all
 rename_i a b
 cases a; cases b
 simp_all
theorem sameL_eq : ∀ {a b : List Value}, sameL a b = true → a = b
 | [], [], _ => rfl
 | [], _ :: _, h => by simp [sameL] at h
 | _ :: _, [], h => by simp [sameL] at h
 | x :: a, y :: b, h => by
  simp only [sameL, Bool.and_eq_true] at h
  rw [same1_eq h.1, sameL_eq h.2]
theorem same_eq {a b : Value} (h : same a b = true) : a = b := by
 unfold same at h
 split at h
 ·rw [sameL_eq h]
 ·exact same1_eq h
theorem before_fold (l : List Oper) : ∀ (acc : Array Nat), ∃ acc' : Array Nat, l.foldl (fun acc o => acc.push (o.after.foldl (fun s e => if Region.binds .any e then s ||| 2 ^ e.on ||| acc.getD e.on 0 else s) 0)) acc = acc' ∧ acc'.size = acc.size + l.length ∧
  (∀ i, i < acc.size → acc'[i]? = acc[i]?) ∧ ∀ i o, l[i]? = some o → ∀ j, (acc'.getD (acc.size + i) 0).testBit j = true → ∃ e ∈ o.after.toList, Region.binds .any e = true ∧ (e.on = j ∨ (e.on < acc.size + i ∧ (acc'.getD e.on 0).testBit j = true)) := by
 induction l with
 | nil => exact fun acc => ⟨acc, rfl, rfl, fun _ _ => rfl, fun i o h => by simp at h⟩
 | cons o l ih =>
  intro acc
  obtain ⟨acc', h1, h2, h3, h4⟩ := ih (acc.push (o.after.foldl (fun s e => if Region.binds .any e then s ||| 2 ^ e.on ||| acc.getD e.on 0 else s) 0))
  refine ⟨acc', h1, by rw [h2]; simp; omega, fun i hi => by rw [h3 i (by simp; omega), Array.getElem?_push_lt hi, Array.getElem?_eq_getElem hi], fun i o' ho j hj => ?_⟩
  cases i with
  | zero =>
   simp only [List.getElem?_cons_zero, Option.some.injEq] at ho
   subst ho
   rw [Nat.add_zero, Array.getD_eq_getD_getElem?, h3 acc.size (by simp), Array.getElem?_push_size] at hj
   simp only [Option.getD_some] at hj
   have hold : ∀ k, k < acc.size → acc'.getD k 0 = acc.getD k 0 := fun k hk => by
    rw [Array.getD_eq_getD_getElem?, Array.getD_eq_getD_getElem?, h3 k (by simp; omega), Array.getElem?_push_lt hk, Array.getElem?_eq_getElem hk]
   rw [← Array.foldl_toList] at hj
   have key : ∀ (es : List Edge) (s : Nat), (es.foldl (fun s e => if Region.binds .any e then s ||| 2 ^ e.on ||| acc.getD e.on 0 else s) s).testBit j = true → s.testBit j = true ∨ ∃ e ∈ es, Region.binds .any e = true ∧ (e.on = j ∨ (acc.getD e.on 0).testBit j = true) := by
    intro es
    induction es with
    | nil => intro s h; exact .inl h
    | cons e es ihe =>
     intro s h
     rw [List.foldl_cons] at h
     rcases ihe _ h with h | ⟨e', he', h⟩
     ·split at h
      ·rename_i hbd
       simp only [Nat.testBit_or, Bool.or_eq_true, Nat.testBit_two_pow, decide_eq_true_eq] at h
       rcases h with (h | h) | h
       ·exact .inl h
       ·exact .inr ⟨e, by simp, hbd, .inl h⟩
       ·exact .inr ⟨e, by simp, hbd, .inr h⟩
      ·exact .inl h
     ·exact .inr ⟨e', by simp [he'], h⟩
   rcases key _ 0 hj with h | ⟨e, he, hbd, h⟩
   ·simp at h
   ·refine ⟨e, he, hbd, ?_⟩
    rcases h with h | h
    ·exact .inl h
    ·have hlt : e.on < acc.size := by
      rcases Nat.lt_or_ge e.on acc.size with hlt | hge
      ·exact hlt
      ·rw [Array.getD_eq_getD_getElem?, Array.getElem?_eq_none hge] at h
       simp at h
     exact .inr ⟨by omega, by rw [hold _ hlt]; exact h⟩
  | succ i =>
   simp only [List.getElem?_cons_succ] at ho
   have := h4 i o' ho j (by rw [Array.size_push, show acc.size + 1 + i = acc.size + (i + 1) by omega]; exact hj)
   obtain ⟨e, he, hbd, h⟩ := this
   exact ⟨e, he, hbd, h.imp id fun ⟨a, b⟩ => ⟨by rw [Array.size_push] at a; omega, b⟩⟩
theorem before_spec {ops : Array Oper} {i : Nat} {o : Oper} (ho : ops[i]? = some o) {j : Nat} (hj : ((Region.before ops).getD i 0).testBit j = true) : ∃ e ∈ o.after.toList, Region.binds .any e = true ∧ (e.on = j ∨ (e.on < i ∧ ((Region.before ops).getD e.on 0).testBit j = true)) := by
 obtain ⟨acc', h1, h2, h3, h4⟩ := before_fold ops.toList #[]
 have e : Region.before ops = acc' := by
  unfold Region.before
  rw [← Array.foldl_toList]
  exact h1
 rw [e] at hj ⊢
 have := h4 i o (by simpa using ho) j (by simpa using hj)
 simpa using this
theorem edgesDown_spec : ∀ {l : List Oper} {k : Nat}, edgesDown k l = true → ∀ (i : Nat) (o : Oper), l[i]? = some o → ∀ e ∈ o.after.toList, Region.binds .any e = true → e.on < k + i
 | [], k, _, i, o, ho => by simp at ho
 | x :: l, k, h, i, o, ho => by
  simp only [edgesDown, Bool.and_eq_true] at h
  cases i with
  | zero =>
   simp only [List.getElem?_cons_zero, Option.some.injEq] at ho
   subst ho
   intro e he
   have := List.all_eq_true.1 h.1 e he
   intro hb
   rw [hb] at this
   simp only [Bool.not_true, Bool.false_or, Nat.blt_eq] at this
   omega
  | succ i =>
   intro e he
   have := edgesDown_spec h.2 i o (by simpa using ho) e he
   intro hb
   have := this hb
   omega
theorem ordOk1_spec {b : Array Nat} {i : Nat} {l : List Tmp} : ∀ {r : List Oper} {k : Nat}, ordOk1 b i l k r = true → ∀ (j : Nat) (o : Oper) (d : Tmp), r[j]? = some o → o.dst = some d → d ∈ l → i ≠ k + j → (b.getD (Nat.max i (k + j)) 0).testBit (Nat.min i (k + j)) = true
 | [], k, _, j, o, d, ho, _, _, _ => by simp at ho
 | x :: r, k, h, j, o, d, ho, hd, hl, hne => by
  simp only [ordOk1, Bool.and_eq_true] at h
  cases j with
  | zero =>
   simp only [List.getElem?_cons_zero, Option.some.injEq] at ho
   subst ho
   have h1 := h.1
   rw [hd] at h1
   simp only [Bool.or_eq_true, Bool.not_eq_true', List.contains_eq_mem, decide_eq_false_iff_not] at h1
   rcases h1 with (h1 | h1) | h1
   ·exact absurd hl h1
   ·exact absurd (Nat.eq_of_beq_eq_true h1) (by simpa using hne)
   ·simpa using h1
  | succ j =>
   have := ordOk1_spec h.2 j o d (by simpa using ho) hd hl (by omega)
   rwa [show k + 1 + j = k + (j + 1) by omega] at this
theorem ordOk_spec {ops : Array Oper} {b : Array Nat} : ∀ {r : List Oper} {k : Nat}, ordOk ops b k r = true → ∀ (i : Nat) (o : Oper), r[i]? = some o → ∀ (j : Nat) (p : Oper) (d : Tmp), ops[j]? = some p → p.dst = some d → (d ∈ looks ops o ∨ o.dst = some d) → k + i ≠ j →
  (b.getD (Nat.max (k + i) j) 0).testBit (Nat.min (k + i) j) = true
 | [], k, _, i, o, ho => by simp at ho
 | x :: r, k, h, i, o, ho => by
  intro j p d hp hd hl hne
  simp only [ordOk, Bool.and_eq_true] at h
  cases i with
  | zero =>
   simp only [List.getElem?_cons_zero, Option.some.injEq] at ho
   subst ho
   have := ordOk1_spec h.1 j p d (by simpa using hp) hd (by
    rw [List.mem_append]
    rcases hl with hl | hl
    ·exact .inr hl
    ·exact .inl (by rw [hl]; simp)) (by omega)
   simpa using this
  | succ i =>
   have := ordOk_spec h.2 i o (by simpa using ho) j p d hp hd hl (by omega)
   rwa [show k + 1 + i = k + (i + 1) by omega] at this
end AM
end Go.Proofs.YtemcmblcogljkaaGreatDoor

namespace Go.Proofs.YtemcmblcogljkaaGreatDoor
namespace AM
open Go
structure Tra where
 T : Nat → Tr Value
 G : Nat → AH
 W : Nat → Bool
 V : Nat → Value
def Tra.step (P : Program) (call : Callee) (n : Nat) (ops : Array Oper) (r : Tra) (j : Nat) (o : Oper) : Prop :=
 wants ops (r.T j) o = some (r.W j) ∧ putT n (r.T j) o.dst (r.V j) = some (r.T (j + 1)) ∧ (r.W j = false → r.V j = undef ∧ r.G (j + 1) = r.G j) ∧ (r.W j = true → aOp P call (r.T j) o (r.G j) = some (r.V j, r.G (j + 1)))
def mets1 (P : Program) (r : Tra) (i : Nat) (o : Oper) : List Met :=
 match r.W i with
 | false => []
 | true => match kindOf P o with
  | 0 => []
  | 1 => [.read i o (r.T i) (r.V i)]
  | 2 => [.new i]
  | _ => [.eff i (r.G i)]
def mets (P : Program) (r : Tra) : Nat → List Oper → List Met
 | _, [] => []
 | i, o :: l => mets1 P r i o ++ mets P r (i + 1) l
theorem mets_congr {P : Program} {r s : Tra} : ∀ {l : List Oper} {i : Nat}, (∀ j, i ≤ j → r.T j = s.T j ∧ r.G j = s.G j ∧ r.W j = s.W j ∧ r.V j = s.V j) → mets P r i l = mets P s i l
 | [], i, h => rfl
 | o :: l, i, h => by
  obtain ⟨h1, h2, h3, h4⟩ := h i (Nat.le_refl _)
  simp only [mets, mets1, h1, h2, h3, h4]
  rw [mets_congr fun j hj => h j (by omega)]
theorem trace_of {P : Program} {call : Callee} {n : Nat} {ops : Array Oper} : ∀ {l : List Oper} {i : Nat} {t t' : Tr Value} {H H' : AH} {m m' : List Met}, aOpsD P call n ops i l t H m = some (t', H', m') →
  ∃ r : Tra, r.T i = t ∧ r.G i = H ∧ r.T (i + l.length) = t' ∧ r.G (i + l.length) = H' ∧ (∀ j o, l[j]? = some o → r.step P call n ops (i + j) o) ∧ m' = m.reverse ++ mets P r i l
 | [], i, t, t', H, H', m, m', h => by
  simp only [aOpsD, Option.some.injEq, Prod.mk.injEq] at h
  obtain ⟨rfl, rfl, rfl⟩ := h
  exact ⟨⟨fun _ => t, fun _ => H, fun _ => false, fun _ => undef⟩, rfl, rfl, rfl, rfl, fun j o ho => by simp at ho, by simp [mets]⟩
 | o :: l, i, t, t', H, H', m, m', h => by
  -- one step, and the rest
  have key : ∀ (b : Bool) (v : Value) (t1 : Tr Value) (H1 : AH) (m1 : List Met), wants ops t o = some b → putT n t o.dst v = some t1 → (b = false → v = undef ∧ H1 = H) → (b = true → aOp P call t o H = some (v, H1)) →
    (∀ r : Tra, r.T i = t → r.G i = H → r.W i = b → r.V i = v → m1.reverse = m.reverse ++ mets1 P r i o) → aOpsD P call n ops (i + 1) l t1 H1 m1 = some (t', H', m') →
    ∃ r : Tra, r.T i = t ∧ r.G i = H ∧ r.T (i + (o :: l).length) = t' ∧ r.G (i + (o :: l).length) = H' ∧ (∀ j p, (o :: l)[j]? = some p → r.step P call n ops (i + j) p) ∧ m' = m.reverse ++ mets P r i (o :: l) := by
   intro b v t1 H1 m1 h1 h2 h3 h4 h5 h6
   obtain ⟨r, k1, k2, k3, k4, k5, k6⟩ := trace_of h6
   let s : Tra := ⟨fun j => if j = i then t else r.T j, fun j => if j = i then H else r.G j, fun j => if j = i then b else r.W j, fun j => if j = i then v else r.V j⟩
   have hs : ∀ j, i + 1 ≤ j → s.T j = r.T j ∧ s.G j = r.G j ∧ s.W j = r.W j ∧ s.V j = r.V j := fun j hj => by
    have : j ≠ i := by omega
    simp [s, this]
   have e : i + (o :: l).length = i + 1 + l.length := by simp; omega
   refine ⟨s, by simp [s], by simp [s], by rw [e, (hs _ (by omega)).1]; exact k3, by rw [e, (hs _ (by omega)).2.1]; exact k4, fun j p hp => ?_, ?_⟩
   ·cases j with
    | zero =>
     simp only [List.getElem?_cons_zero, Option.some.injEq] at hp
     subst hp
     have q := hs (i + 1) (Nat.le_refl _)
     refine ⟨by simpa [s] using h1, ?_, ?_, ?_⟩
     ·rw [Nat.add_zero, q.1, k1]; simpa [s] using h2
     ·rw [Nat.add_zero, q.2.1, k2]; simpa [s] using h3
     ·rw [Nat.add_zero, q.2.1, k2]; simpa [s] using h4
    | succ j =>
     have := k5 j p (by simpa using hp)
     rw [show i + 1 + j = i + (j + 1) by omega] at this
     obtain ⟨q1, q2, q3, q4⟩ := hs (i + (j + 1)) (by omega)
     obtain ⟨r1, r2, _, _⟩ := hs (i + (j + 1) + 1) (by omega)
     unfold Tra.step at this ⊢
     rw [q1, q2, q3, q4, r1, r2]
     exact this
   ·rw [k6, h5 s (by simp [s]) (by simp [s]) (by simp [s]) (by simp [s]), List.append_assoc]
    congr 1
    simp only [mets]
    rw [mets_congr (l := l) fun j hj => hs j hj]
  simp only [aOpsD] at h
  split at h
  ·cases h
  ·rename_i hw
   split at h
   ·cases h
   ·rename_i t1 hp
    exact key false undef t1 H m hw hp (fun _ => ⟨rfl, rfl⟩) (fun e => by cases e) (fun r _ _ e _ => by simp [mets1, e]) h
  ·rename_i hw
   split at h
   ·cases h
   ·rename_i v H1 hop
    split at h
    ·cases h
    ·rename_i t1 hp
     split at h
     ·rename_i hk
      exact key true v t1 H1 m hw hp (fun e => by cases e) (fun _ => hop) (fun r _ _ e _ => by simp [mets1, e, hk]) h
     ·rename_i hk
      exact key true v t1 H1 _ hw hp (fun e => by cases e) (fun _ => hop) (fun r e1 _ e e2 => by simp [mets1, e, hk, e1, e2]) h
     ·rename_i hk
      exact key true v t1 H1 _ hw hp (fun e => by cases e) (fun _ => hop) (fun r e1 _ e e2 => by simp [mets1, e, hk]) h
     ·rename_i hk0 hk1 hk2
      refine key true v t1 H1 _ hw hp (fun e => by cases e) (fun _ => hop) (fun r e1 e3 e e2 => ?_) h
      simp only [mets1, e, List.reverse_cons]
      rw [e3]
theorem effs_append : ∀ (a b : List Met), effs (a ++ b) = effs a ++ effs b
 | [], b => rfl
 | .read .. :: a, b => by simp only [List.cons_append, effs]; exact effs_append a b
 | .new .. :: a, b => by simp only [List.cons_append, effs]; exact effs_append a b
 | .eff .. :: a, b => by simp only [List.cons_append, effs]; rw [effs_append a b]
theorem reads_append : ∀ (a b : List Met), reads (a ++ b) = reads a ++ reads b
 | [], b => rfl
 | .read .. :: a, b => by simp only [List.cons_append, reads]; rw [reads_append a b]
 | .new .. :: a, b => by simp only [List.cons_append, reads]; exact reads_append a b
 | .eff .. :: a, b => by simp only [List.cons_append, reads]; exact reads_append a b
def effL (P : Program) (r : Tra) : Nat → List Oper → List Nat
 | _, [] => []
 | i, o :: l => (if r.W i = true ∧ kindOf P o ≠ 0 ∧ kindOf P o ≠ 1 ∧ kindOf P o ≠ 2 then [i] else []) ++ effL P r (i + 1) l
theorem effs_mets {P : Program} {r : Tra} : ∀ {l : List Oper} {i : Nat}, effs (mets P r i l) = (effL P r i l).map fun j => (j, r.G j)
 | [], i => rfl
 | o :: l, i => by
  simp only [mets, effL]
  rw [effs_append, effs_mets, List.map_append]
  congr 1
  unfold mets1
  cases hw : r.W i with
  | false => simp [effs]
  | true =>
   rcases hk : kindOf P o with _ | _ | _ | k <;> simp [effs]
theorem reads_mets {P : Program} {r : Tra} : ∀ {l : List Oper} {i : Nat} (j : Nat) (o : Oper), l[j]? = some o → r.W (i + j) = true → kindOf P o = 1 → (i + j, o, r.T (i + j), r.V (i + j)) ∈ reads (mets P r i l)
 | [], i, j, o, h, _, _ => by simp at h
 | x :: l, i, j, o, h, hw, hk => by
  simp only [mets]
  rw [reads_append, List.mem_append]
  cases j with
  | zero =>
   simp only [List.getElem?_cons_zero, Option.some.injEq] at h
   subst h
   left
   simp only [Nat.add_zero] at hw ⊢
   simp [mets1, hw, hk, reads]
  | succ j =>
   right
   have := reads_mets (i := i + 1) j o (by simpa using h) (by rwa [show i + 1 + j = i + (j + 1) by omega]) hk
   rwa [show i + 1 + j = i + (j + 1) by omega] at this
theorem effL_mem {P : Program} {r : Tra} : ∀ {l : List Oper} {i j : Nat}, j ∈ effL P r i l ↔ ∃ o, i ≤ j ∧ l[j - i]? = some o ∧ r.W j = true ∧ kindOf P o ≠ 0 ∧ kindOf P o ≠ 1 ∧ kindOf P o ≠ 2
 | [], i, j => by simp [effL]
 | x :: l, i, j => by
  simp only [effL, List.mem_append]
  rw [effL_mem (l := l)]
  constructor
  ·rintro (h | ⟨o, h1, h2, h3⟩)
   ·split at h
    ·rename_i hc
     simp only [List.mem_singleton] at h
     subst h
     exact ⟨x, Nat.le_refl _, by simp, hc⟩
    ·simp at h
   ·refine ⟨o, by omega, ?_, h3⟩
    rw [show j - i = (j - (i + 1)) + 1 by omega]
    simpa using h2
  ·rintro ⟨o, h1, h2, h3⟩
   rcases Nat.eq_or_lt_of_le h1 with e | e
   ·subst e
    rw [Nat.sub_self] at h2
    simp only [List.getElem?_cons_zero, Option.some.injEq] at h2
    subst h2
    left
    rw [if_pos h3]
    simp
   ·right
    refine ⟨o, e, ?_, h3⟩
    rw [show j - i = (j - (i + 1)) + 1 by omega] at h2
    simpa using h2
theorem effL_sorted {P : Program} {r : Tra} : ∀ {l : List Oper} {i : Nat}, (effL P r i l).Pairwise (· < ·)
 | [], i => by simp [effL]
 | x :: l, i => by
  simp only [effL]
  rw [List.pairwise_append]
  refine ⟨by split <;> simp, effL_sorted, fun a ha b hb => ?_⟩
  split at ha
  ·simp only [List.mem_singleton] at ha
   subst ha
   obtain ⟨_, h, _⟩ := effL_mem.1 hb
   omega
  ·simp at ha
theorem anyNew_append : ∀ (a b : List Met), anyNew (a ++ b) = (anyNew a || anyNew b)
 | [], b => rfl
 | .read .. :: a, b => by simp only [List.cons_append, anyNew]; exact anyNew_append a b
 | .new .. :: a, b => by simp [anyNew]
 | .eff .. :: a, b => by simp only [List.cons_append, anyNew]; exact anyNew_append a b
theorem anyNew_mets {P : Program} {r : Tra} : ∀ {l : List Oper} {i : Nat}, anyNew (mets P r i l) = false → ∀ (j : Nat) (o : Oper), l[j]? = some o → r.W (i + j) = true → kindOf P o ≠ 2
 | [], i, _, j, o, h, _ => by simp at h
 | x :: l, i, hn, j, o, h, hw => by
  simp only [mets, anyNew_append, Bool.or_eq_false_iff] at hn
  cases j with
  | zero =>
   simp only [List.getElem?_cons_zero, Option.some.injEq] at h
   subst h
   intro hk
   have := hn.1
   simp only [Nat.add_zero] at hw
   simp [mets1, hw, hk, anyNew] at this
  | succ j => exact anyNew_mets hn.2 j o (by simpa using h) (by rwa [show i + 1 + j = i + (j + 1) by omega])
theorem newsOk_append (b : Array Nat) : ∀ (a c : List Met) (l : Option Nat), newsOk b l (a ++ c) = true → ∃ l', newsOk b l' c = true ∧ newsOk b l a = true ∧ (l' = ((effs a).getLast?.map (·.1)).or l)
 | [], c, l, h => ⟨l, h, by cases l <;> rfl, by simp [effs]⟩
 | .read .. :: a, c, l, h => by
  obtain ⟨l', h1, h2, h3⟩ := newsOk_append b a c l (by cases l <;> simpa [newsOk] using h)
  exact ⟨l', h1, by cases l <;> simpa [newsOk] using h2, by simpa [effs] using h3⟩
 | .new j :: a, c, l, h => by
  cases l with
  | none =>
   obtain ⟨l', h1, h2, h3⟩ := newsOk_append b a c none (by simpa [newsOk] using h)
   exact ⟨l', h1, by simpa [newsOk] using h2, by simpa [effs] using h3⟩
  | some i =>
   simp only [List.cons_append, newsOk, Bool.and_eq_true] at h
   obtain ⟨l', h1, h2, h3⟩ := newsOk_append b a c (some i) h.2
   exact ⟨l', h1, by simp only [newsOk, Bool.and_eq_true]; exact ⟨h.1, h2⟩, by simpa [effs] using h3⟩
 | .eff i G :: a, c, l, h => by
  obtain ⟨l', h1, h2, h3⟩ := newsOk_append b a c (some i) (by cases l <;> simpa [newsOk] using h)
  refine ⟨l', h1, by cases l <;> simpa [newsOk] using h2, ?_⟩
  rw [h3]
  simp only [effs, List.getLast?_cons, Option.map_some]
  cases hg : (effs a).getLast? with
  | none => simp
  | some x => simp
theorem newsOk_mets {P : Program} {r : Tra} {b : Array Nat} : ∀ {l : List Oper} {i : Nat} {last : Option Nat}, newsOk b last (mets P r i l) = true → ∀ (j : Nat) (o : Oper), l[j]? = some o → r.W (i + j) = true → kindOf P o = 2 →
  ∀ e, (((effL P r i (l.take j)).getLast?).or last) = some e → (b.getD (i + j) 0).testBit e = true
 | [], i, last, _, j, o, h, _, _ => by simp at h
 | x :: l, i, last, hn, j, o, h, hw, hk => by
  intro e he
  simp only [mets] at hn
  obtain ⟨l', h1, h2, h3⟩ := newsOk_append b _ _ _ hn
  cases j with
  | zero =>
   simp only [List.getElem?_cons_zero, Option.some.injEq] at h
   subst h
   simp only [List.take_zero, effL, List.getLast?_nil, Option.none_or] at he
   subst he
   simp only [Nat.add_zero] at hw ⊢
   simpa [mets1, hw, hk, newsOk] using h2
  | succ j =>
   have := newsOk_mets h1 j o (by simpa using h) (by rwa [show i + 1 + j = i + (j + 1) by omega]) hk e ?_
   ·rwa [show i + 1 + j = i + (j + 1) by omega] at this
   ·rw [h3]
    simp only [List.take_succ_cons, effL] at he
    rw [← he, List.getLast?_append]
    have : (effs (mets1 P r i x)).map (·.1) = (if r.W i = true ∧ kindOf P x ≠ 0 ∧ kindOf P x ≠ 1 ∧ kindOf P x ≠ 2 then [i] else []) := by
     unfold mets1
     cases hw : r.W i with
     | false => simp [effs]
     | true => rcases hk : kindOf P x with _ | _ | _ | k <;> simp [effs]
    rw [← this]
    cases hq : (effL P r (i + 1) (l.take j)).getLast? with
    | none => simp [List.getLast?_map]
    | some y => simp
end AM
end Go.Proofs.YtemcmblcogljkaaGreatDoor

