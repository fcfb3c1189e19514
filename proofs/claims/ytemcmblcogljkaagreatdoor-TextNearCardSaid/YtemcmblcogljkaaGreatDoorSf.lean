/- The abstract machine: regions that draw their order, fourth part: whatever the order. The abstract machine: operations that make a row out of their operands alone. The abstract machine: regions that draw their order, fifth part: whatever the order, the end is the same. -/
import Derived.Test.YtemcmblcogljkaaGreatDoorSe
import Derived.Test.YtemcmblcogljkaaGreatDoorSd
set_option linter.all false
set_option linter.unusedSimpArgs false
set_option linter.unusedVariables false
namespace Go.Proofs.YtemcmblcogljkaaGreatDoor
namespace AM
open Go
theorem keepT_some {t : Tr Value} : ∀ {l : List Nat} {acc : Tr Value} {i : Nat} {v : Value}, (keepT t l acc).get i = some v → (i ∈ l ∧ t.get i = some v) ∨ acc.get i = some v
 | [], acc, i, v, h => .inr h
 | k :: r, acc, i, v, h => by
  simp only [keepT] at h
  split at h
  ·rename_i u hu
   rcases keepT_some h with h2 | h2
   ·exact .inl ⟨by simp [h2.1], h2.2⟩
   ·rw [Tr.get_put] at h2
    split at h2
    ·rename_i e; subst e; exact .inl ⟨by simp, hu.trans h2⟩
    ·exact .inr h2
  ·rcases keepT_some h with h2 | h2
   ·exact .inl ⟨by simp [h2.1], h2.2⟩
   ·exact .inr h2
theorem keepT_mem {t : Tr Value} : ∀ {l : List Nat} {acc : Tr Value} {i : Nat}, (acc.get i = t.get i ∨ (i ∈ l ∧ acc.get i = none)) → (keepT t l acc).get i = t.get i
 | [], acc, i, h => by
  rcases h with h | h
  ·exact h
  ·simp at h
 | k :: r, acc, i, h => by
  simp only [keepT]
  split
  ·rename_i u hu
   refine keepT_mem ?_
   rw [Tr.get_put]
   by_cases e : i = k
   ·left; rw [if_pos e, e, hu]
   ·rw [if_neg e]
    rcases h with h | h
    ·exact .inl h
    ·exact .inr ⟨(List.mem_cons.1 h.1).resolve_left e, h.2⟩
  ·rename_i hu
   refine keepT_mem ?_
   by_cases e : i = k
   ·subst e
    rcases h with h | h
    ·exact .inl h
    ·left; rw [h.2, hu]
   ·rcases h with h | h
    ·exact .inl h
    ·exact .inr ⟨(List.mem_cons.1 h.1).resolve_left e, h.2⟩
theorem wants_congr {ops : Array Oper} {t u : Tr Value} {o : Oper} (h : ∀ d, d ∈ looks ops o → t.get d = u.get d) : wants ops t o = wants ops u o := by
 unfold wants
 cases hg : o.guard with
 | none => rfl
 | some g =>
  obtain ⟨j, want⟩ := g
  simp only
  cases hd : (ops[j]?).bind (·.dst) with
  | none => rfl
  | some d =>
   simp only
   rw [h d (by simp [looks, hg, hd])]
theorem operand_looks {ops : Array Oper} {o : Oper} {d : Tmp} (h : Operand.tmp d ∈ o.op.operands.toList) : d ∈ looks ops o := by
 unfold looks
 rw [List.mem_append]
 left
 rw [List.mem_filterMap]
 exact ⟨.tmp d, h, rfl⟩
theorem steady_spec {P : Program} {call : Callee} {b : Array Nat} {es : List (Nat × AH)} {H : AH} {nw : Bool} {j : Nat} {o : Oper} {t : Tr Value} {v : Value} : ∀ {m : Nat}, steady P call b es H nw j o t v m = true → ∀ k, k < m → mayCome b j k es = true → (nw = false → k ≠ ahead j es) → steady1 P call o t v (heapAt H k es) = true
 | 0, _, k, hk, _, _ => by omega
 | m + 1, h, k, hk, hm, hne => by
  simp only [steady, Bool.and_eq_true] at h
  rcases Nat.lt_or_ge k m with hlt | hge
  ·exact steady_spec h.2 k hlt hm hne
  ·have e : k = m := by omega
   subst e
   have h1 := h.1
   have hb : (nw || !Nat.beq k (ahead j es)) = true := by
    cases hnw : nw with
    | true => rfl
    | false =>
     cases hq : Nat.beq k (ahead j es) with
     | false => rfl
     | true => exact absurd (Nat.eq_of_beq_eq_true hq) (hne hnw)
   rw [hm, hb] at h1
   simpa using h1
theorem steadyAll_spec {P : Program} {call : Callee} {b : Array Nat} {es : List (Nat × AH)} {H : AH} {nw : Bool} : ∀ {l : List (Nat × Oper × Tr Value × Value)}, steadyAll P call b es H nw l = true → ∀ j o t v, (j, o, t, v) ∈ l → steady P call b es H nw j o t v (es.length + 1) = true
 | [], _, j, o, t, v, h => by simp at h
 | (j', o', t', v') :: l, hs, j, o, t, v, h => by
  simp only [steadyAll, Bool.and_eq_true] at hs
  rcases List.mem_cons.1 h with e | e
  ·simp only [Prod.mk.injEq] at e
   obtain ⟨rfl, rfl, rfl, rfl⟩ := e
   exact hs.1
  ·exact steadyAll_spec hs.2 j o t v e
theorem mayCome_of {b : Array Nat} {j : Nat} : ∀ {k : Nat} {es : List (Nat × AH)}, (∀ q e, es[q]? = some e → q < k → (b.getD e.1 0).testBit j = false) → (∀ q e, es[q]? = some e → k ≤ q → (b.getD j 0).testBit e.1 = false) → mayCome b j k es = true
 | k, [], _, _ => by cases k <;> rfl
 | 0, (e, G) :: r, h1, h2 => by
  have := h2 0 (e, G) rfl (Nat.zero_le _)
  simp only [mayCome, Bool.and_eq_true, Bool.not_eq_true']
  exact ⟨this, mayCome_of (k := 0) (fun q e' hq hk => by omega) fun q e' hq hk => h2 (q + 1) e' (by simpa using hq) (Nat.zero_le _)⟩
 | k + 1, (e, G) :: r, h1, h2 => by
  have := h1 0 (e, G) rfl (by omega)
  simp only [mayCome, Bool.and_eq_true, Bool.not_eq_true']
  exact ⟨this, mayCome_of (fun q e' hq hk => h1 (q + 1) e' (by simpa using hq) (by omega)) fun q e' hq hk => h2 (q + 1) e' (by simpa using hq) (by omega)⟩
theorem chained_spec {b : Array Nat} : ∀ {es : List (Nat × AH)}, chained b es = true → ∀ q e e', es[q]? = some e → es[q + 1]? = some e' → (b.getD e'.1 0).testBit e.1 = true
 | [], _, q, e, e', h, _ => by simp at h
 | [x], _, q, e, e', h, h' => by simp at h'
 | (i, G) :: (j, G') :: r, hc, q, e, e', h, h' => by
  simp only [chained, Bool.and_eq_true] at hc
  cases q with
  | zero =>
   simp only [List.getElem?_cons_zero, Option.some.injEq, Nat.zero_add, List.getElem?_cons_succ] at h h'
   subst h; subst h'
   exact hc.1
  | succ q => exact chained_spec hc.2 q e e' (by simpa using h) (by simpa using h')
theorem heapAt_map {r : Tra} {HN : AH} : ∀ {k : Nat} {l : List Nat}, heapAt HN k (l.map fun j => (j, r.G j)) = match l[k]? with | some j => r.G j | none => HN
 | k, [] => by cases k <;> rfl
 | 0, j :: l => rfl
 | k + 1, j :: l => by
  simp only [List.map_cons, heapAt, List.getElem?_cons_succ]
  exact heapAt_map
section
variable {P : Program} {pr : Nat → Prop} {w0 : World} {call : Callee} {n : Nat} {ops : Array Oper} {r : Tra}
theorem T_step (hs : ∀ j o, ops[j]? = some o → r.step P call n ops j o) {j : Nat} {o : Oper} (ho : ops[j]? = some o) (d : Tmp) : (r.T (j + 1)).get d = if o.dst = some d then some (r.V j) else (r.T j).get d := by
 have h := (hs j o ho).2.1
 unfold putT at h
 split at h
 ·rename_i hd
  injection h with h
  rw [← h, if_neg (by rw [hd]; simp)]
 ·rename_i d' hd
  split at h
  ·injection h with h
   rw [← h, Tr.get_put, hd]
   by_cases e : d = d'
   ·subst e; simp
   ·rw [if_neg e, if_neg (by simp; exact fun e2 => e e2.symm)]
  ·cases h
theorem dst_lt (hs : ∀ j o, ops[j]? = some o → r.step P call n ops j o) {j : Nat} {o : Oper} (ho : ops[j]? = some o) {d : Tmp} (hd : o.dst = some d) : d < n := by
 have h := (hs j o ho).2.1
 rw [hd] at h
 simp only [putT] at h
 split at h
 ·rename_i hb; simpa [Nat.blt_eq] using hb
 ·cases h
theorem T_const (hs : ∀ j o, ops[j]? = some o → r.step P call n ops j o) {i : Nat} (d : Tmp) : ∀ (m : Nat), i + m ≤ ops.size → (∀ q o, i ≤ q → q < i + m → ops[q]? = some o → o.dst ≠ some d) → (r.T (i + m)).get d = (r.T i).get d
 | 0, _, _ => rfl
 | m + 1, hm, hn => by
  have ho : ops[i + m]? = some (ops[i + m]'(by omega)) := Array.getElem?_eq_getElem (by omega)
  rw [show i + (m + 1) = i + m + 1 by omega, T_step hs ho d, if_neg (hn _ _ (by omega) (by omega) ho)]
  exact T_const hs d m (by omega) fun q o h1 h2 => hn q o h1 (by omega)
theorem G_const (hs : ∀ j o, ops[j]? = some o → r.step P call n ops j o) {i : Nat} : ∀ (m : Nat), i + m ≤ ops.size → (∀ q o, ops[q]? = some o → r.W q = true → kindOf P o ≠ 2) → (∀ q, i ≤ q → q < i + m → q ∉ effL P r 0 ops.toList) → r.G (i + m) = r.G i
 | 0, _, _, _ => rfl
 | m + 1, hm, h2, hn => by
  have ho : ops[i + m]? = some (ops[i + m]'(by omega)) := Array.getElem?_eq_getElem (by omega)
  obtain ⟨_, _, h3, h4⟩ := hs _ _ ho
  have hq := hn (i + m) (by omega) (by omega)
  have h5 : r.G (i + m + 1) = r.G (i + m) := by
   cases hw : r.W (i + m) with
   | false => exact (h3 hw).2
   | true =>
    have h6 := h4 hw
    by_cases k0 : kindOf P (ops[i + m]'(by omega)) = 0
    ·exact (aOp_light k0 h6).1
    ·by_cases k1 : kindOf P (ops[i + m]'(by omega)) = 1
     ·exact aOp_read k1 h6
     ·exact absurd (effL_mem.2 ⟨_, Nat.zero_le _, by simpa using ho, hw, k0, k1, h2 _ _ ho hw⟩) hq
  rw [show i + (m + 1) = i + m + 1 by omega, h5]
  exact G_const hs m (by omega) h2 fun q h1 h2 => hn q h1 (by omega)
def newOf (P : Program) (t : Tr Value) (o : Oper) : Option (Nat × List Value × (Nat → Value)) :=
 match o.op with
 | .alloc e => match zeroCells' P e with
  | some cs => some (0, cs.toList, fun h => .pointer (some ⟨h, 0, none⟩))
  | none => none
 | .buildSlice ty len parts => match evps t parts.toList, P.underlying ty with
  | some ps, some (.slice e) => match P.info? e with
   | some i => match zeroCells' P e, Nat.ble (len * i.size) 16777216 with
    | some z, true => match Nat.beq z.size i.size with
     | true => match Instr.fill (fun j => some (j * i.size, i.size)) ⟨(List.replicate len z.toList).flatten⟩ ps with
      | some cells => match cells.toList.all oneCell && Nat.beq cells.size (len * i.size) with
       | true => some (i.size, cells.toList, fun h => .slice (some ⟨h, 0, none⟩) len len)
       | false => none
      | none => none
     | false => none
    | _, _ => none
   | none => none
  | _, _ => none
 | .makeSlice ty l c => match ev t l, ev t c, P.underlying ty with
  | some lv, some cv, some (.slice e) => match P.info? e with
   | some i => match zeroCells' P e with
    | some z => match Nat.beq z.size i.size with
     | true => makeN i.size i.bytes z.toList lv cv
     | false => none
    | none => none
   | none => none
  | _, _, _ => none
 | _ => none
theorem makeV_new {sz bytes : Nat} {zero : List Value} {l c : Value} (G : AH) : makeV sz bytes zero G l c = match makeN sz bytes zero l c with | some (sz, cs, mk) => some (mk G.next, G.new sz cs) | none => none := by
 unfold makeV makeN
 split
 ·split <;> rfl
 ·rfl
theorem aOp_new {t : Tr Value} {o : Oper} (hk : kindOf P o = 2) (G : AH) : aOp P call t o G = match newOf P t o with | some (sz, cs, mk) => some (mk G.next, G.new sz cs) | none => none := by
 unfold aOp newOf
 unfold kindOf at hk
 cases hop : o.op with
 | alloc e =>
  simp only []
  cases zeroCells' P e <;> rfl
 | buildSlice ty len ps =>
  simp only []
  cases evps t ps.toList with
  | none => cases P.underlying ty with
   | none => rfl
   | some d => cases d <;> rfl
  | some ps' =>
   cases P.underlying ty with
   | none => rfl
   | some d =>
    cases d with
    | slice e =>
     simp only []
     cases P.info? e with
     | none => rfl
     | some i =>
      simp only []
      cases zeroCells' P e with
      | none => cases Nat.ble (len * i.size) 16777216 <;> rfl
      | some z =>
       cases Nat.ble (len * i.size) 16777216 with
       | false => rfl
       | true =>
        simp only []
        cases Nat.beq z.size i.size with
        | false => rfl
        | true =>
         simp only []
         cases Instr.fill (fun j => some (j * i.size, i.size)) ⟨(List.replicate len z.toList).flatten⟩ ps' with
         | none => rfl
         | some cells =>
          simp only []
          cases cells.toList.all oneCell && Nat.beq cells.size (len * i.size) <;> rfl
    | _ => rfl
 | makeSlice ty x y =>
  simp only []
  cases ev t x with
  | none => rfl
  | some lv =>
   cases ev t y with
   | none => rfl
   | some cv =>
    cases P.underlying ty with
    | none => rfl
    | some d =>
     cases d with
     | slice e =>
      simp only []
      cases P.info? e with
      | none => rfl
      | some i =>
       simp only []
       cases zeroCells' P e with
       | none => rfl
       | some z =>
        simp only []
        cases Nat.beq z.size i.size with
        | false => rfl
        | true => exact makeV_new G
     | _ => rfl
 | convert src dst x => simp only [hop] at hk; split at hk <;> cases hk
 | call c => simp only [hop] at hk; split at hk <;> cases hk
 | _ => simp [hop] at hk
end
end AM
end Go.Proofs.YtemcmblcogljkaaGreatDoor

namespace Go.Proofs.YtemcmblcogljkaaGreatDoor
namespace AM
open Go
section
variable {P : Program} {pr : Nat → Prop} {w0 : World} {ρ ρ' : Rho} {H H' : AH} {w w' : World} {call : Callee}
theorem aNew_good {n sz : Nat} {cs : List Value} {mk : Nat → Value} {t : Tr Value} {a : Act} {o : Oper} (ht : TR ρ H w n t a.tmps) (h : newOf P t o = some (sz, cs, mk)) :
  ∃ (cs' : List Value) (e : TypeId) (v' : Value), VRs ρ H w cs cs' ∧ Does P a o w v' { w with heap := w.heap.push (.cells ⟨cs'⟩ e) } ∧
   ∀ (ρ' : Rho) (H' : AH) (w' : World) (h : Nat), ρ' h = some (w.heap.size, 0) → H'.rows.get h = some ⟨h, 0, cs.length, sz⟩ → w'.heap[w.heap.size]? = some (.cells ⟨cs'⟩ e) → VR ρ' H' w' (mk h) v' := by
 unfold newOf at h
 cases hop : o.op with
 | alloc e =>
  simp only [hop] at h
  split at h
  ·rename_i cs hz
   simp only [Option.some.injEq, Prod.mk.injEq] at h
   obtain ⟨rfl, rfl, rfl⟩ := h
   obtain ⟨z, h1, h2, h3⟩ := zeroCells_run hz w
   subst h2
   refine ⟨z.cells.toList, e, .pointer (some ⟨w.heap.size, 0, none⟩), flat_cells (ρ := ρ) (H := H) (w := w) h3, .inl (by simp [execOp, hop, Instr.alloc, h1, newVar, newRow]), ?_⟩
   intro ρ' H' w' h k1 k2 k3
   exact .ptr h 0 _ 0 k1 (Nat.le_refl _)
  ·cases h
 | buildSlice ty len parts =>
  simp only [hop] at h
  split at h
  ·rename_i ps e hps hd
   split at h
   ·rename_i i hi
    split at h
    ·rename_i z hz hle
     split at h
     ·rename_i hzs
      split at h
      ·rename_i cells hf
       split at h
       ·rename_i hb
        simp only [Option.some.injEq, Prod.mk.injEq] at h
        obtain ⟨rfl, rfl, rfl⟩ := h
        simp only [Bool.and_eq_true] at hb
        have hzs' : z.size = i.size := Nat.eq_of_beq_eq_true hzs
        have hle' := Nat.le_of_ble_eq_true hle
        have hlen := Nat.eq_of_beq_eq_true hb.2
        obtain ⟨zv, hz1, hz2, hz3⟩ := zeroCells_run hz w
        have hzz : VRs ρ H w z.toList z.toList := by rw [← hz2]; exact flat_cells hz3
        obtain ⟨r', k1, k2⟩ := fill_sound _ ps _ _ _ cells (evps_sound ht hps) (zeros_vrs hzz len) hf
        have ep : (parts.map fun (i, x) => (i, a.eval x)) = ⟨parts.toList.map fun (i, x) => (i, a.eval x)⟩ := by apply Array.ext'; simp
        have hszr : ∀ w : World, (Go.sizeOf e).run P w = .ok i.size w := fun w => by simp [Go.sizeOf, typeInfo, hi]
        refine ⟨r'.toList, e, .slice (some ⟨w.heap.size, 0, none⟩) len len, k2, .inl ?_, ?_⟩
        ·simp only [execOp, hop, Instr.buildSlice]
         rw [ep]
         have hno : ¬ (len * i.size > 2 ^ 24) := by
          have : (2 : Nat) ^ 24 = 16777216 := rfl
          omega
         have hze := zeros_eq z len
         simp only [Sem.run_bind, run_underlying hd, Result.andThen_ok, hszr]
         rw [if_neg hno]
         by_cases e0 : len * i.size = 0
         ·have e1 : len * z.size = 0 := by rw [hzs']; exact e0
          rw [e1] at hze
          have hr0 : Array.range 0 = #[] := rfl
          rw [hr0] at hze
          simp only [Array.map_empty] at hze
          simp only [e0, if_true, Sem.run_bind, Sem.run_pure, Result.andThen_ok, hr0, Array.map_empty]
          rw [hze, k1]
          rfl
         ·simp only [e0, if_false, Sem.run_bind, hz1, Sem.run_pure, Result.andThen_ok, hz2]
          rw [← hzs', hze, hzs', k1]
          rfl
        ·intro ρ' H' w' h j1 j2 j3
         refine .slc h 0 len len (w.heap.size) 0 _ len j1 (Nat.le_refl _) (Nat.le_refl _) (Nat.le_refl _) (fun _ => rfl) fun r hr => .inr ?_
         rw [j2] at hr
         injection hr with hr
         subst hr
         refine ⟨_, _, _, j3, ?_⟩
         have := k2.1
         simp at this
         simp
         omega
       ·cases h
      ·cases h
     ·cases h
    ·cases h
   ·cases h
  ·cases h
 | makeSlice ty x y =>
  simp only [hop] at h
  split at h
  ·rename_i lv cv e hx hy hs
   split at h
   ·rename_i i hi
    split at h
    ·rename_i z hz
     split at h
     ·rename_i hzs
      have hzs : z.size = i.size := Nat.eq_of_beq_eq_true hzs
      have hl := ev_sound ht hx
      have hc := ev_sound ht hy
      have hus := fun w => run_underlying hs w
      have hsz : ∀ w : World, (Go.sizeOf e).run P w = .ok i.size w := fun w => by simp [Go.sizeOf, typeInfo, hi]
      have hti : ∀ w : World, (typeInfo e).run P w = .ok i w := fun w => by simp [typeInfo, hi]
      obtain ⟨zv, hz1, hz2, hz3⟩ := zeroCells_run hz w
      unfold makeN at h
      split at h
      ·rename_i n m
       generalize hle : a.eval x = l' at hl
       generalize hce : a.eval y = c' at hc
       cases hl; cases hc
       split at h
       ·rename_i hb
        simp only [Bool.and_eq_true, decide_eq_true_eq, Nat.ble_eq] at hb
        obtain ⟨⟨⟨b1, b2⟩, b3⟩, b4⟩ := hb
        simp only [Option.some.injEq, Prod.mk.injEq] at h
        obtain ⟨rfl, rfl, rfl⟩ := h
        have hw1 : IntKind.i64.wrap n = n := by rw [IntKind.wrap_i64]; omega
        have hw2 : IntKind.i64.wrap m = m := by rw [IntKind.wrap_i64]; omega
        have hzz : VRs ρ H w z.toList z.toList := by rw [← hz2]; exact flat_cells hz3
        have hbytes : (i.bytes : Int) * m ≤ 281474976710656 := by
         have e1 : ((m.toNat * i.bytes : Nat) : Int) ≤ ((140737488355328 : Nat) : Int) := Int.ofNat_le.2 b3
         have e2 : ((m.toNat * i.bytes : Nat) : Int) = (i.bytes : Int) * m := by
          rw [Int.natCast_mul, Int.toNat_of_nonneg (by omega), Int.mul_comm]
         omega
        refine ⟨(List.replicate m.toNat z.toList).flatten, e, .slice (some ⟨w.heap.size, 0, none⟩) n.toNat m.toNat, zeros_vrs hzz m.toNat, .inl ?_, ?_⟩
        ·have c1 : ¬ (m < 0) := by omega
         have c2 : ¬ (281474976710656 < (i.bytes : Int) * m) := by omega
         have c3 : ¬ (n < 0) := by omega
         have c4 : ¬ (m < n) := by omega
         have key : (Instr.makeSlice ty (.int .i64 n) (.int .i64 m)).run P w = .ok (.slice (some ⟨w.heap.size, 0, none⟩) n.toNat m.toNat) { w with heap := w.heap.push (.cells ⟨(List.replicate m.toNat z.toList).flatten⟩ e) } := by
          unfold Instr.makeSlice
          simp only [Sem.run_bind, hus, Result.andThen_ok, asInt, asIntOf, Sem.run_pure, hti, hw1, hw2]
          have hcond : ((decide (m < 0) || decide ((i.bytes : Int) * m > 2 ^ 48)) || decide (n < 0) || decide (n > m)) = false := by
           simp [c1, c3]
           omega
          simp only [Bool.or_eq_true, decide_eq_true_eq] at hcond ⊢
          rw [if_neg (by
           rintro ((h | h) | h)
           ·rcases h with h | h <;> omega
           ·omega
           ·omega)]
          simp only [Result.andThen_ok, run_askRoom, Sem.run_bind, hsz]
          have hze := zeros_eq z m.toNat
          by_cases e0 : m.toNat * i.size = 0
          ·have e1 : m.toNat * z.size = 0 := by rw [hzs]; exact e0
           rw [e1] at hze
           have hr0 : Array.range 0 = #[] := rfl
           rw [hr0] at hze
           simp only [Array.map_empty] at hze
           simp only [e0, if_true, Sem.run_bind, Sem.run_pure, Result.andThen_ok, hr0, Array.map_empty, newRow, run_newObj]
           rw [hze]
          ·simp only [e0, if_false, Sem.run_bind, hz1, Sem.run_pure, Result.andThen_ok, hz2, newRow, run_newObj]
           rw [← hzs, hze]
         simp only [execOp, hop]
         rw [hle, hce]
         simp [key]
        ·intro ρ' H' w' h j1 j2 j3
         refine .slc h 0 _ _ (w.heap.size) 0 _ m.toNat j1 (Nat.le_refl _) (by omega) (Nat.le_refl _) (fun _ => rfl) fun r hr => .inr ?_
         rw [j2] at hr
         injection hr with hr
         subst hr
         refine ⟨_, _, _, j3, ?_⟩
         simp [hzs]
       ·cases h
      ·cases h
     ·cases h
    ·cases h
   ·cases h
  ·cases h
 | _ => simp [hop] at h
end
end AM
end Go.Proofs.YtemcmblcogljkaaGreatDoor

namespace Go.Proofs.YtemcmblcogljkaaGreatDoor
namespace AM
open Go
def inD (D : Array Bool) (i : Nat) : Prop := D.getD i false = true
theorem inD_set {D : Array Bool} {i j : Nat} (hi : i < D.size) : inD (D.setIfInBounds i true) j ↔ j = i ∨ inD D j := by
 unfold inD
 rw [Array.getD_eq_getD_getElem?, Array.getD_eq_getD_getElem?]
 by_cases e : j = i
 ·subst e; simp [hi]
 ·rw [Array.getElem?_setIfInBounds_ne (Ne.symm e)]; simp [e]
def left (N : Nat) (D : Array Bool) : Nat := ((List.range N).filter fun i => !D.getD i true).length
theorem filter_lt {p q : Nat → Bool} : ∀ {l : List Nat} {x : Nat}, (∀ y ∈ l, q y = true → p y = true) → x ∈ l → p x = true → q x = false → (l.filter q).length < (l.filter p).length
 | [], x, _, h, _, _ => by simp at h
 | a :: l, x, hpq, h, hp, hq => by
  have hle : ∀ {m : List Nat}, (∀ y ∈ m, q y = true → p y = true) → (m.filter q).length ≤ (m.filter p).length := by
   intro m
   induction m with
   | nil => intro _; simp
   | cons b m ih =>
    intro hm
    have h1 := ih fun y hy => hm y (by simp [hy])
    have h2 := hm b (by simp)
    rw [List.filter_cons, List.filter_cons]
    cases hqb : q b with
    | true => rw [h2 hqb]; simp; exact h1
    | false => cases p b <;> simp <;> omega
  have hpq' : ∀ y ∈ l, q y = true → p y = true := fun y hy => hpq y (by simp [hy])
  rw [List.filter_cons, List.filter_cons]
  rcases List.mem_cons.1 h with e | e
  ·subst e
   rw [hp, hq]
   have := hle hpq'
   simp
   omega
  ·have h1 := filter_lt hpq' e hp hq
   have h2 := hpq a (by simp)
   cases hqa : q a with
   | true => rw [h2 hqa]; simp; exact h1
   | false => cases p a <;> simp <;> omega
theorem left_set {N : Nat} {D : Array Bool} {i : Nat} (hi : i < N) (hD : D.size = N) (hn : D.getD i true = false) : left N (D.setIfInBounds i true) < left N D := by
 unfold left
 refine filter_lt (x := i) (fun y hy hq => ?_) (by simpa using hi) (by simp [hn]) ?_
 ·rw [Array.getD_eq_getD_getElem?] at hq ⊢
  by_cases e : y = i
  ·subst e; simp [hD, hi] at hq
  ·rw [Array.getElem?_setIfInBounds_ne (Ne.symm e)] at hq; exact hq
 ·rw [Array.getD_eq_getD_getElem?]; simp [hD, hi]
section
variable {P : Program} {pr : Nat → Prop} {w0 : World} {call : Callee} {n : Nat} {ops : Array Oper} {r : Tra}
structure Run (P : Program) (call : Callee) (n : Nat) (ops : Array Oper) (r : Tra) : Prop where
 step : ∀ j o, ops[j]? = some o → r.step P call n ops j o
 down : ∀ i o, ops[i]? = some o → ∀ e ∈ o.after.toList, Region.binds .any e = true → e.on < i
 ord : ∀ i o j p d, ops[i]? = some o → ops[j]? = some p → p.dst = some d → (d ∈ looks ops o ∨ o.dst = some d) → i ≠ j → ((Region.before ops).getD (Nat.max i j) 0).testBit (Nat.min i j) = true
 chain : ∀ q i j, (effL P r 0 ops.toList)[q]? = some i → (effL P r 0 ops.toList)[q + 1]? = some j → ((Region.before ops).getD j 0).testBit i = true
 news : ∀ p o, ops[p]? = some o → r.W p = true → kindOf P o = 2 → ∀ e, (effL P r 0 (ops.toList.take p)).getLast? = some e → ((Region.before ops).getD p 0).testBit e = true
 steady : ∀ j o, ops[j]? = some o → r.W j = true → kindOf P o = 1 → ∀ k, k ≤ (effL P r 0 ops.toList).length → mayCome (Region.before ops) j k ((effL P r 0 ops.toList).map fun j => (j, r.G j)) = true →
  ((∀ p q, ops[p]? = some q → r.W p = true → kindOf P q ≠ 2) → k ≠ ahead j ((effL P r 0 ops.toList).map fun j => (j, r.G j))) → steady1 P call o (r.T j) (r.V j) (heapAt (r.G ops.size) k ((effL P r 0 ops.toList).map fun j => (j, r.G j))) = true
def lim (P : Program) (ops : Array Oper) (r : Tra) (k : Nat) : Nat := match (effL P r 0 ops.toList)[k]? with | some j => j | none => ops.size
def hp (P : Program) (ops : Array Oper) (r : Tra) (k : Nat) : AH := r.G (lim P ops r k)
theorem hp_eq (k : Nat) : hp P ops r k = heapAt (r.G ops.size) k ((effL P r 0 ops.toList).map fun j => (j, r.G j)) := by
 rw [heapAt_map]
 unfold hp lim
 cases (effL P r 0 ops.toList)[k]? <;> rfl
variable {ρ0 : Rho} {H0 : AH} {ws : World}
def Birth (P : Program) (ops : Array Oper) (r : Tra) (p sz : Nat) (cs : List Value) : Prop := ∃ o mk, ops[p]? = some o ∧ r.W p = true ∧ kindOf P o = 2 ∧ newOf P (r.T p) o = some (sz, cs, mk)
structure At (P : Program) (pr : Nat → Prop) (w0 : World) (ops : Array Oper) (r : Tra) (ρ0 : Rho) (H0 : AH) (ws : World) (D : Array Bool) (m : Nat) (ρ : Rho) (w : World) : Prop where
 rel : Rel pr w0 ρ (r.G m) w
 ext : Ext ρ0 H0 ws ρ (r.G m) w
 pend : ∀ p sz cs, Birth P ops r p sz cs → p < m → ¬ inD D p → Waits ρ (r.G m) (r.G p).next sz cs ∧ H0.next ≤ (r.G p).next
 inj : ∀ p q sz cs sz' cs', Birth P ops r p sz cs → Birth P ops r q sz' cs' → p < q → q < m → ¬ inD D p → ¬ inD D q → (r.G p).next < (r.G q).next
theorem At.step (hr0 : Rel pr w0 ρ0 H0 ws) (hs : ∀ j o, ops[j]? = some o → r.step P call n ops j o) {D : Array Bool} {m : Nat} {ρ : Rho} {w : World} (h : At P pr w0 ops r ρ0 H0 ws D m ρ w) (hm : m < ops.size) (hne : m ∉ effL P r 0 ops.toList) :
  At P pr w0 ops r ρ0 H0 ws D (m + 1) ρ w ∧ ∀ v v', VR ρ (r.G m) w v v' → VR ρ (r.G (m + 1)) w v v' := by
 have ho : ops[m]? = some ops[m] := Array.getElem?_eq_getElem hm
 obtain ⟨_, _, h3, h4⟩ := hs _ _ ho
 have noBirth : (∀ sz cs, ¬ Birth P ops r m sz cs) → r.G (m + 1) = r.G m → At P pr w0 ops r ρ0 H0 ws D (m + 1) ρ w ∧ ∀ v v', VR ρ (r.G m) w v v' → VR ρ (r.G (m + 1)) w v v' := by
  intro hb he
  have hlt : ∀ p sz cs, Birth P ops r p sz cs → p < m + 1 → p < m := fun p sz cs k1 k2 => by
   rcases Nat.lt_or_ge p m with h5 | h5
   ·exact h5
   ·have : p = m := by omega
    subst this
    exact absurd k1 (hb sz cs)
  refine ⟨⟨by rw [he]; exact h.rel, by rw [he]; exact h.ext, fun p sz cs k1 k2 k3 => (by rw [he]; exact h.pend p sz cs k1 (hlt p sz cs k1 k2) k3), fun p q sz cs sz' cs' k1 k2 k3 k4 => h.inj p q sz cs sz' cs' k1 k2 k3 (hlt q sz' cs' k2 k4)⟩, fun v v' hv => by rw [he]; exact hv⟩
 cases hw : r.W m with
 | false => exact noBirth (fun sz cs ⟨o, _, _, k2, _, _⟩ => by rw [hw] at k2; cases k2) (h3 hw).2
 | true =>
  have h6 := h4 hw
  have nb : kindOf P ops[m] ≠ 2 → ∀ sz cs, ¬ Birth P ops r m sz cs := fun hk sz cs ⟨o, _, k1, _, k3, _⟩ => by
   rw [ho] at k1; injection k1 with k1; subst k1; exact hk k3
  by_cases k0 : kindOf P ops[m] = 0
  ·exact noBirth (nb (by omega)) (aOp_light k0 h6).1
  ·by_cases k1 : kindOf P ops[m] = 1
   ·exact noBirth (nb (by omega)) (aOp_read k1 h6)
   ·by_cases k2 : kindOf P ops[m] = 2
    ·rw [aOp_new k2] at h6
     split at h6
     ·rename_i sz cs mk hn
      simp only [Option.some.injEq, Prod.mk.injEq] at h6
      obtain ⟨_, h6⟩ := h6
      have hb : Birth P ops r m sz cs := ⟨_, mk, ho, hw, k2, hn⟩
      have uniq : ∀ sz' cs', Birth P ops r m sz' cs' → sz' = sz ∧ cs' = cs := fun sz' cs' ⟨o, _, j1, _, _, j4⟩ => by
       rw [ho] at j1; injection j1 with j1; subst j1
       rw [hn] at j4
       simp only [Option.some.injEq, Prod.mk.injEq] at j4
       exact ⟨j4.1.symm, j4.2.1.symm⟩
      obtain ⟨g1, g2⟩ := h.rel.skip sz cs
      rw [h6] at g1 g2
      refine ⟨⟨g1, Ext.trans h.rel hr0 h.ext g2, fun p sz' cs' j1 j2 j3 => ?_, fun p q sz1 cs1 sz2 cs2 j1 j2 j3 j4 j5 j6 => ?_⟩, fun v v' hv => g2.vr h.rel.lt hv⟩
      ·rcases Nat.lt_or_ge p m with h5 | h5
       ·obtain ⟨y1, y2⟩ := h.pend p sz' cs' j1 h5 j3
        exact ⟨y1.ext h.rel g2, y2⟩
       ·have : p = m := by omega
        subst this
        obtain ⟨rfl, rfl⟩ := uniq _ _ j1
        have := Waits.born h.rel sz' cs'
        rw [h6] at this
        exact ⟨this, h.ext.next⟩
      ·rcases Nat.lt_or_ge q m with h5 | h5
       ·exact h.inj p q sz1 cs1 sz2 cs2 j1 j2 j3 h5 j5 j6
       ·have : q = m := by omega
        subst this
        exact (h.pend p sz1 cs1 j1 j3 j5).1.lt
     ·cases h6
    ·exact absurd (effL_mem.2 ⟨_, Nat.zero_le _, by simpa using ho, hw, k0, k1, k2⟩) hne
theorem At.steps (hr0 : Rel pr w0 ρ0 H0 ws) (hs : ∀ j o, ops[j]? = some o → r.step P call n ops j o) {D : Array Bool} {m : Nat} {ρ : Rho} {w : World} (h : At P pr w0 ops r ρ0 H0 ws D m ρ w) : ∀ (d : Nat), m + d ≤ ops.size → (∀ q, m ≤ q → q < m + d → q ∉ effL P r 0 ops.toList) →
  At P pr w0 ops r ρ0 H0 ws D (m + d) ρ w ∧ ∀ v v', VR ρ (r.G m) w v v' → VR ρ (r.G (m + d)) w v v'
 | 0, _, _ => ⟨h, fun _ _ hv => hv⟩
 | d + 1, hd, hn => by
  obtain ⟨k1, k2⟩ := At.steps hr0 hs h d (by omega) fun q h1 h2 => hn q h1 (by omega)
  obtain ⟨k3, k4⟩ := k1.step hr0 hs (by omega) (hn _ (by omega) (by omega))
  exact ⟨k3, fun v v' hv => k4 v v' (k2 v v' hv)⟩
theorem At.on {D D' : Array Bool} {m m' : Nat} {ρ ρ' : Rho} {w w' : World} (hr0 : Rel pr w0 ρ0 H0 ws) (h : At P pr w0 ops r ρ0 H0 ws D m ρ w) (hD : ∀ i, ¬ inD D' i → ¬ inD D i) (hm : ∀ p sz cs, Birth P ops r p sz cs → p < m' → p < m) (hx : Ext ρ (r.G m) w ρ' (r.G m') w') (hr : Rel pr w0 ρ' (r.G m') w') :
  At P pr w0 ops r ρ0 H0 ws D' m' ρ' w' :=
 ⟨hr, Ext.trans h.rel hr0 h.ext hx, fun p sz cs k1 k2 k3 => by
  obtain ⟨y1, y2⟩ := h.pend p sz cs k1 (hm p sz cs k1 k2) (hD p k3)
  exact ⟨y1.ext h.rel hx, y2⟩, fun p q sz cs sz' cs' k1 k2 k3 k4 k5 k6 => h.inj p q sz cs sz' cs' k1 k2 k3 (hm q sz' cs' k2 k4) (hD p k5) (hD q k6)⟩
theorem At.came {D D' : Array Bool} {m i sz : Nat} {cs cs' : List Value} {ρ : Rho} {w w' : World} {e : TypeId} (h : At P pr w0 ops r ρ0 H0 ws D m ρ w) (hD : ∀ j, ¬ inD D' j → ¬ inD D j ∧ j ≠ i) (hb : Birth P ops r i sz cs) (hi : i < m) (hn : ¬ inD D i) (hv : VRs ρ (r.G m) w cs cs') (hp : Pushed w w' (.cells ⟨cs'⟩ e)) :
  At P pr w0 ops r ρ0 H0 ws D' m (upR ρ (r.G i).next (w.heap.size, 0)) w' ∧ (∀ v v', VR ρ (r.G m) w v v' → VR (upR ρ (r.G i).next (w.heap.size, 0)) (r.G m) w' v v') ∧ (r.G m).rows.get (r.G i).next = some ⟨(r.G i).next, 0, cs.length, sz⟩ := by
 obtain ⟨y1, y2⟩ := h.pend i sz cs hb hi hn
 obtain ⟨g1, g2⟩ := h.rel.adopt y1 hv hp (fun j u hu => by simpa using hu) (fun j _ hh => by simp at hh)
 refine ⟨⟨g2, h.ext.adopt y1 y2 hp, fun p sz' cs1 k1 k2 k3 => ?_, fun p q sz1 cs1 sz2 cs2 k1 k2 k3 k4 k5 k6 => h.inj p q sz1 cs1 sz2 cs2 k1 k2 k3 k4 (hD p k5).1 (hD q k6).1⟩, g1, y1.row⟩
 obtain ⟨z1, z2⟩ := h.pend p sz' cs1 k1 k2 (hD p k3).1
 have hne : (r.G p).next ≠ (r.G i).next := by
  rcases Nat.lt_trichotomy p i with e | e | e
  ·have := h.inj p i sz' cs1 sz cs k1 hb e hi (hD p k3).1 hn; omega
  ·exact absurd e (hD p k3).2
  ·have := h.inj i p sz cs sz' cs1 hb k1 e k2 hn (hD p k3).1; omega
 refine ⟨⟨z1.lt, by rw [upR_other _ _ hne]; exact z1.no, z1.row, z1.fam, fun g x rw1 j1 j2 e => ?_⟩, z2⟩
 by_cases eg : g = (r.G i).next
 ·subst eg
  rw [y1.row] at j2
  injection j2 with j2
  subst j2
  exact hne e.symm
 ·rw [upR_other _ _ eg] at j1
  exact z1.apart g x rw1 j1 j2 e
structure Inv (P : Program) (pr : Nat → Prop) (w0 : World) (n : Nat) (ops : Array Oper) (r : Tra) (ρ0 : Rho) (H0 : AH) (ws : World) (ds : List Deferred) (D : Array Bool) (k : Nat) (ρ : Rho) (a : Act) (w : World) : Prop where
 size : D.size = ops.size
 closed : ∀ i o, ops[i]? = some o → inD D i → ∀ e ∈ o.after.toList, Region.binds .any e = true → inD D e.on
 le : k ≤ (effL P r 0 ops.toList).length
 eff : ∀ q j, (effL P r 0 ops.toList)[q]? = some j → (inD D j ↔ q < k)
 here : At P pr w0 ops r ρ0 H0 ws D (lim P ops r k) ρ w
 tsz : a.tmps.size = n
 tmps : ∀ d j, j ≤ ops.size → (∀ i o, ops[i]? = some o → o.dst = some d → (inD D i ↔ i < j)) → ∀ v, (r.T j).get d = some v → ∃ v', a.tmps[d]? = some v' ∧ VR ρ (hp P ops r k) w v v'
 defs : a.defers = ds
variable {ρ ρ' : Rho} {w w' : World} {ds : List Deferred} {D : Array Bool} {k k' : Nat} {a : Act}
theorem wait_for (hr : Run P call n ops r) (hc : ∀ i o, ops[i]? = some o → inD D i → ∀ e ∈ o.after.toList, Region.binds .any e = true → inD D e.on) : ∀ (i : Nat) (o : Oper), ops[i]? = some o → (∀ e ∈ o.after.toList, Region.binds .any e = true → inD D e.on) → ∀ j, ((Region.before ops).getD i 0).testBit j = true → inD D j := by
 intro i
 induction i using Nat.strongRecOn with
 | _ i ih =>
  intro o ho he j hj
  obtain ⟨e, hm, hbd, h⟩ := before_spec ho hj
  rcases h with h | ⟨h1, h2⟩
  ·rw [← h]; exact he e hm hbd
  ·have hlt : e.on < ops.size := by have := (Array.getElem?_eq_some_iff.1 ho).1; omega
   have hoe : ops[e.on]? = some ops[e.on] := Array.getElem?_eq_getElem hlt
   exact ih e.on h1 _ hoe (hc _ _ hoe (he e hm hbd)) j h2
theorem Inv.next (hr : Run P call n ops r) (hi : Inv P pr w0 n ops r ρ0 H0 ws ds D k ρ a w) (hr0 : Rel pr w0 ρ0 H0 ws) {i : Nat} {o : Oper} (ho : ops[i]? = some o) (hn : ¬ inD D i) (he : ∀ e ∈ o.after.toList, Region.binds .any e = true → inD D e.on) (hk : k ≤ k') (hk' : k' ≤ (effL P r 0 ops.toList).length)
  (heff : ∀ q j, (effL P r 0 ops.toList)[q]? = some j → (j = i ∨ q < k ↔ q < k')) (hx : ∀ v v', VR ρ (hp P ops r k) w v v' → VR ρ' (hp P ops r k') w' v v') (hat : At P pr w0 ops r ρ0 H0 ws (D.setIfInBounds i true) (lim P ops r k') ρ' w') {v' : Value} (hv : VR ρ' (hp P ops r k') w' (r.V i) v') :
  Inv P pr w0 n ops r ρ0 H0 ws ds (D.setIfInBounds i true) k' ρ' (a.put o.dst v') w' := by
 have hiN : i < ops.size := (Array.getElem?_eq_some_iff.1 ho).1
 have hset : ∀ j, inD (D.setIfInBounds i true) j ↔ j = i ∨ inD D j := fun j => inD_set (by rw [hi.size]; exact hiN)
 refine ⟨by simp [hi.size], ?_, hk', ?_, hat, ?_, ?_, ?_⟩
 ·intro j p hp hj e hm hbd
  rw [hset] at hj ⊢
  rcases hj with rfl | hj
  ·rw [ho] at hp; injection hp with hp; subst hp; exact .inr (he e hm hbd)
  ·exact .inr (hi.closed j p hp hj e hm hbd)
 ·intro q j hq
  rw [hset, hi.eff q j hq]
  exact heff q j hq
 ·unfold Act.put; split <;> simp [hi.tsz]
 ·intro d j hj hcond v hget
  by_cases hd : o.dst = some d
  ·-- the slot that was written
   have hij : i < j := (hcond i o ho hd).1 ((hset i).2 (.inl rfl))
   have hlast : (r.T j).get d = some (r.V i) := by
    have h1 := T_const hr.step (i := i + 1) d (j - (i + 1)) (by omega) fun q p h1 h2 hq hpd => by
     have hqD := (hset q).1 ((hcond q p hq hpd).2 (by omega))
     rcases hqD with e | hqD
     ·omega
     ·have hb := hr.ord q p i o d hq ho hd (.inr hpd) (by omega)
      rw [show Nat.max q i = q by simp [Nat.max_def]; omega, show Nat.min q i = i by simp [Nat.min_def]; omega] at hb
      exact hn (wait_for hr hi.closed q p hq (hi.closed q p hq hqD) i hb)
    rw [show i + 1 + (j - (i + 1)) = j by omega] at h1
    rw [h1, T_step hr.step ho d, if_pos hd]
   rw [hlast] at hget
   injection hget with hget
   subst hget
   refine ⟨v', ?_, hv⟩
   have hlt := dst_lt hr.step ho hd
   simp [Act.put, hd, hi.tsz, hlt]
  ·have hcond' : ∀ q p, ops[q]? = some p → p.dst = some d → (inD D q ↔ q < j) := by
    intro q p hq hpd
    rw [← hcond q p hq hpd, hset]
    constructor
    ·exact .inr
    ·rintro (rfl | h)
     ·rw [ho] at hq; injection hq with hq; subst hq; exact absurd hpd hd
     ·exact h
   obtain ⟨u, h1, h2⟩ := hi.tmps d j hj hcond' v hget
   refine ⟨u, ?_, hx _ _ h2⟩
   unfold Act.put
   split
   ·rename_i d' hd'
    simp only
    rw [Array.getElem?_setIfInBounds_ne (fun e => hd (by rw [hd', e]))]
    exact h1
   ·exact h1
 ·unfold Act.put; split <;> exact hi.defs
end
end AM
end Go.Proofs.YtemcmblcogljkaaGreatDoor

