/-  -/
import Derived.Lib.ItoaNum
import Derived.Lib.AtoiAll
import Derived.Lib.Split
import Derived.Lib.Join
set_option linter.all false
set_option linter.unusedSimpArgs false
set_option linter.unusedVariables false
namespace Go.Proofs.YtemcmblcogljkaaGreatDoor
namespace TP
open Go.Lib
def cutAt (c : UInt8) : List UInt8 → List (List UInt8)
 | [] => [[]]
 | b :: r => if b = c then [] :: cutAt c r else (b :: (cutAt c r).headD []) :: (cutAt c r).tail
theorem cutAt_ne (c : UInt8) (s : List UInt8) : cutAt c s ≠ [] := by
 cases s with
 | nil => simp [cutAt]
 | cons b r => unfold cutAt; split <;> simp
theorem cutAt_cons_ne {c b : UInt8} (h : b ≠ c) (r : List UInt8) : cutAt c (b :: r) = (b :: (cutAt c r).headD []) :: (cutAt c r).tail := by
 rw [cutAt, if_neg h]
theorem cutAt_free {c : UInt8} : ∀ (p : List UInt8), c ∉ p → cutAt c p = [p]
 | [], _ => rfl
 | b :: r, h => by
  have hb : b ≠ c := fun e => h (by simp [e])
  have hr : c ∉ r := fun e => h (by simp [e])
  rw [cutAt_cons_ne hb, cutAt_free r hr]
  rfl
theorem cutAt_append {c : UInt8} : ∀ (p r : List UInt8), c ∉ p → cutAt c (p ++ c :: r) = p :: cutAt c r
 | [], r, _ => by simp [cutAt]
 | b :: p, r, h => by
  have hb : b ≠ c := fun e => h (by simp [e])
  have hr : c ∉ p := fun e => h (by simp [e])
  rw [List.cons_append, cutAt_cons_ne hb, cutAt_append p r hr]
  rfl
theorem cutAt_parts {c : UInt8} : ∀ (s : List UInt8), ∀ p ∈ cutAt c s, c ∉ p
 | [], p, h => by simp [cutAt] at h; simp [h]
 | b :: r, p, h => by
  have ih := cutAt_parts (c := c) r
  by_cases hb : b = c
  ·rw [cutAt, if_pos hb] at h
   rcases List.mem_cons.1 h with e | e
   ·simp [e]
   ·exact ih p e
  ·rw [cutAt_cons_ne hb] at h
   rcases List.mem_cons.1 h with e | e
   ·subst e
    intro hc
    rcases List.mem_cons.1 hc with e | e
    ·exact hb e.symm
    ·cases hq : cutAt c r with
     | nil => exact cutAt_ne c r hq
     | cons q qs =>
      rw [hq] at e
      exact ih q (by rw [hq]; simp) e
   ·exact ih p (List.mem_of_mem_tail e)
theorem cutAt_join {c : UInt8} : ∀ (s : List UInt8), [c].intercalate (cutAt c s) = s
 | [] => by simp [cutAt, List.intercalate]
 | b :: r => by
  have ih := cutAt_join (c := c) r
  cases hq : cutAt c r with
  | nil => exact absurd hq (cutAt_ne c r)
  | cons q qs =>
   rw [hq] at ih
   have h1 : Go.Lib.join (q :: qs) [c] = r := ih
   rw [join_cons] at h1
   by_cases hb : b = c
   ·rw [cutAt, if_pos hb, hq]
    show Go.Lib.join ([] :: q :: qs) [c] = b :: r
    rw [join_cons]
    rw [← h1, hb]
    simp [joinTail]
   ·rw [cutAt_cons_ne hb, hq]
    show Go.Lib.join ((b :: q) :: qs) [c] = b :: r
    rw [join_cons, ← h1]
    simp
theorem cutAt_of_join {c : UInt8} : ∀ (p : List UInt8) (ps : List (List UInt8)), c ∉ p → (∀ q ∈ ps, c ∉ q) → cutAt c (p ++ ps.flatMap fun q => c :: q) = p :: ps
 | p, [], h, _ => by simpa using cutAt_free p h
 | p, q :: qs, h, hq => by
  rw [List.flatMap_cons, List.cons_append, cutAt_append _ _ h, cutAt_of_join q qs (hq q (by simp)) fun x hx => hq x (by simp [hx])]
theorem cutAt_eq_join {c : UInt8} {s : List UInt8} {p : List UInt8} {ps : List (List UInt8)} (h : cutAt c s = p :: ps) : s = p ++ ps.flatMap fun q => c :: q := by
 have h1 := cutAt_join (c := c) s
 rw [h] at h1
 have h2 : Go.Lib.join (p :: ps) [c] = s := h1
 rw [join_cons] at h2
 rw [← h2, joinTail, List.flatMap_def]
 rfl
theorem span_byte (c : UInt8) (s : List UInt8) : c ∉ s ∨ ∃ p r, s = p ++ c :: r ∧ c ∉ p := by
 induction s with
 | nil => simp
 | cons b s ih =>
  by_cases hb : b = c
  ·exact .inr ⟨[], s, by simp [hb], by simp⟩
  ·rcases ih with h | ⟨p, r, e, h⟩
   ·exact .inl (by simp [h, Ne.symm hb])
   ·exact .inr ⟨b :: p, r, by simp [e], by simp [h, Ne.symm hb]⟩
theorem index_free {c : UInt8} : ∀ (s : List UInt8), c ∉ s → index s [c] = -1
 | [], _ => rfl
 | b :: r, h => by
  have hb : b ≠ c := fun e => h (by simp [e])
  have hr : c ∉ r := fun e => h (by simp [e])
  rw [index, index_free r hr]
  simp [List.isPrefixOf, Ne.symm hb]
theorem index_at {c : UInt8} : ∀ (p r : List UInt8), c ∉ p → index (p ++ c :: r) [c] = (p.length : Int)
 | [], r, _ => by simp [index, List.isPrefixOf]
 | b :: p, r, h => by
  have hb : b ≠ c := fun e => h (by simp [e])
  have hr : c ∉ p := fun e => h (by simp [e])
  rw [List.cons_append, index, index_at p r hr]
  have : ¬ ((p.length : Int) == -1) = true := by simp
  simp only [List.isPrefixOf, beq_iff_eq, Ne.symm hb, Bool.and_true, this]
  simp
theorem split_at (c : UInt8) (s : List UInt8) : Go.Lib.split s [c] = cutAt c s := by
 unfold Go.Lib.split
 induction hn : s.length using Nat.strongRecOn generalizing s with
 | _ n ih =>
  rcases span_byte c s with h | ⟨p, r, e, h⟩
  ·rw [count_miss (index_free s h), cutAt_free s h]
   rfl
  ·have hi := index_at p r h
   rw [← e] at hi
   rw [count_hit (by simp) hi, Nat.add_comm, splitK, hi]
   have hm : ¬ ((p.length : Int) == -1) = true := by simp
   rw [if_neg hm]
   have hd : s.drop (p.length + 1) = r := by
    rw [e, List.drop_append, List.drop_eq_nil_of_le (by omega)]
    simp
   simp only [Int.toNat_natCast, List.length_singleton, Nat.add_zero]
   rw [hd, ih r.length (by rw [← hn, e]; simp; omega) r rfl, e, cutAt_append p r h]
   congr 1
   simp
def isDig (b : UInt8) : Prop := 48 ≤ b.toNat ∧ b.toNat ≤ 57
theorem dig_of_lt {k : Nat} (h : k < 10) : isDig (UInt8.ofNat (48 + k)) ∧ (UInt8.ofNat (48 + k)).toNat = 48 + k := by
 have : (UInt8.ofNat (48 + k)).toNat = 48 + k := by simp; omega
 exact ⟨⟨by omega, by omega⟩, this⟩
theorem decDigits_dig (u : Nat) : ∀ b ∈ decDigits u, isDig b := by
 induction u using Nat.strongRecOn with
 | _ u ih =>
  intro b hb
  by_cases h : u < 10
  ·rw [decDigits, dif_pos h] at hb
   simp only [List.mem_singleton] at hb
   subst hb
   exact (dig_of_lt h).1
  ·rw [decDigits, dif_neg h] at hb
   rcases List.mem_append.1 hb with e | e
   ·exact ih (u / 10) (by omega) b e
   ·simp only [List.mem_singleton] at e
    subst e
    exact (dig_of_lt (Nat.mod_lt _ (by omega))).1
theorem decDigits_ne (u : Nat) : decDigits u ≠ [] := by
 have := decDigits_length u
 have h1 := nDigits_pos u
 intro e
 rw [e] at this
 simp at this
 omega
theorem parseUint10_append (l m : List UInt8) (acc u : Nat) (h : parseUint10 acc l = .ok u) : parseUint10 acc (l ++ m) = parseUint10 u m := by
 induction l generalizing acc with
 | nil => simp only [parseUint10] at h; injection h with h; subst h; rfl
 | cons c r ih =>
  simp only [parseUint10, List.cons_append] at h ⊢
  split at h
  ·rename_i h1
   rw [if_pos h1]
   split at h
   ·cases h
   ·rename_i h2
    rw [if_neg h2]
    split at h
    ·cases h
    ·rename_i h3
     rw [if_neg h3]
     exact ih _ h
  ·cases h
theorem parseUint10_dec (u : Nat) (hu : u < 18446744073709551616) : parseUint10 0 (decDigits u) = .ok u := by
 induction u using Nat.strongRecOn with
 | _ u ih =>
  by_cases h : u < 10
  ·rw [decDigits, dif_pos h]
   obtain ⟨⟨h1, h2⟩, h3⟩ := dig_of_lt h
   simp only [parseUint10]
   rw [if_pos ⟨h1, h2⟩, if_neg (by omega), if_neg (by omega), h3]
   congr 1
   omega
  ·rw [decDigits, dif_neg h, parseUint10_append _ _ _ _ (ih (u / 10) (by omega) (by omega))]
   obtain ⟨⟨h1, h2⟩, h3⟩ := dig_of_lt (Nat.mod_lt u (show 0 < 10 by omega))
   simp only [parseUint10]
   rw [if_pos ⟨h1, h2⟩, if_neg (by omega), if_neg (by omega), h3]
   congr 1
   omega
theorem itoa_nonneg (n : Nat) : itoa (n : Int) = decDigits n := by
 unfold itoa; rw [if_neg (by omega)]; simp
theorem itoa_neg (n : Nat) (h : 0 < n) : itoa (-(n : Int)) = 45 :: decDigits n := by
 unfold itoa; rw [if_pos (by omega)]; simp
theorem dec_head (u : Nat) : ∃ b r, decDigits u = b :: r ∧ isDig b := by
 cases h : decDigits u with
 | nil => exact absurd h (decDigits_ne u)
 | cons b r => exact ⟨b, r, rfl, decDigits_dig u b (by rw [h]; simp)⟩
theorem atoiAll_itoa (n : Int) (h0 : -9223372036854775808 ≤ n) (h1 : n ≤ 9223372036854775807) : atoiAll (itoa n) = .ok n := by
 rcases Int.lt_or_le n 0 with h | h
 ·obtain ⟨m, rfl⟩ : ∃ m : Nat, n = -(m : Int) := ⟨n.natAbs, by omega⟩
  rw [itoa_neg m (by omega)]
  simp only [atoiAll]
  rw [if_pos (.inr (by decide)), parseMag, if_neg (decDigits_ne m), parseUint10_dec m (by omega)]
  simp only []
  rw [if_neg (by simp), if_neg (by omega), if_pos (by decide)]
 ·obtain ⟨m, rfl⟩ : ∃ m : Nat, n = (m : Int) := ⟨n.toNat, by omega⟩
  rw [itoa_nonneg]
  obtain ⟨b, r, e, hb1, hb2⟩ := dec_head m
  have hp := parseUint10_dec m (by omega)
  have hne := decDigits_ne m
  rw [e] at hp hne ⊢
  simp only [atoiAll]
  rw [if_neg (by omega), parseMag, if_neg hne, hp]
  simp only []
  rw [if_neg (by omega), if_neg (by omega), if_neg (by omega)]
theorem itoa_bytes (n : Int) : ∀ b ∈ itoa n, b.toNat = 45 ∨ isDig b := by
 intro b hb
 unfold itoa at hb
 split at hb
 ·rcases List.mem_cons.1 hb with e | e
  ·exact .inl (by rw [e]; rfl)
  ·exact .inr (decDigits_dig _ b e)
 ·exact .inr (decDigits_dig _ b hb)
theorem itoa_no_space (n : Int) : (32 : UInt8) ∉ itoa n := fun h => by
 rcases itoa_bytes n 32 h with e | ⟨e1, e2⟩
 ·revert e; decide
 ·revert e1; decide
def small (n : Int) : Prop := -1099511627776 ≤ n ∧ n ≤ 1099511627776
instance (n : Int) : Decidable (small n) := inferInstanceAs (Decidable (_ ∧ _))
def spaced (ns : List Int) : List UInt8 := ns.flatMap fun n => 32 :: itoa n
def lineOf (word : List UInt8) (ns : List Int) : List UInt8 := word ++ spaced ns
def tokNum (p : List UInt8) : Option Int :=
 match atoiAll p with
 | .ok v => if itoa v = p ∧ small v then some v else none
 | _ => none
theorem tokNum_itoa {n : Int} (h : small n) : tokNum (itoa n) = some n := by
 unfold tokNum
 rw [atoiAll_itoa n (by unfold small at h; omega) (by unfold small at h; omega)]
 simp [h]
theorem tokNum_some {p : List UInt8} {n : Int} (h : tokNum p = some n) : p = itoa n ∧ small n := by
 unfold tokNum at h
 split at h
 ·split at h
  ·rename_i hh
   injection h with h
   subst h
   exact ⟨hh.1.symm, hh.2⟩
  ·cases h
 ·cases h
def tokNums : Nat → List (List UInt8) → Option (List Int)
 | 0, _ => some []
 | _ + 1, [] => none
 | k + 1, p :: ps => match tokNum p with
  | none => none
  | some n => (tokNums k ps).map (n :: ·)
theorem tokNums_some : ∀ {k : Nat} {ps : List (List UInt8)} {ns : List Int}, tokNums k ps = some ns → ns.length = k ∧ (∀ n ∈ ns, small n) ∧ k ≤ ps.length ∧ ps = ns.map itoa ++ ps.drop k
 | 0, ps, ns, h => by simp only [tokNums, Option.some.injEq] at h; subst h; simp
 | k + 1, [], ns, h => by simp [tokNums] at h
 | k + 1, p :: ps, ns, h => by
  simp only [tokNums] at h
  split at h
  ·cases h
  ·rename_i n hn
   cases hk : tokNums k ps with
   | none => rw [hk] at h; cases h
   | some ms =>
    rw [hk] at h
    simp only [Option.map_some, Option.some.injEq] at h
    subst h
    obtain ⟨h1, h2, h3, h4⟩ := tokNums_some hk
    obtain ⟨e, hs⟩ := tokNum_some hn
    refine ⟨by simp [h1], ?_, by simp; omega, ?_⟩
    ·intro x hx
     rcases List.mem_cons.1 hx with e | e
     ·exact e ▸ hs
     ·exact h2 x e
    ·simp only [List.map_cons, List.drop_succ_cons, List.cons_append, e]
     rw [← h4]
theorem tokNums_of : ∀ (ns : List Int) (ps : List (List UInt8)), (∀ n ∈ ns, small n) → tokNums ns.length (ns.map itoa ++ ps) = some ns
 | [], ps, _ => rfl
 | n :: ns, ps, h => by
  simp only [List.length_cons, List.map_cons, List.cons_append, tokNums]
  rw [tokNum_itoa (h n (by simp)), tokNums_of ns ps fun x hx => h x (by simp [hx])]
  rfl
def readLine (s word : List UInt8) (k : Nat) : Option (List Int × List (List UInt8)) :=
 match cutAt 32 s with
 | [] => none
 | p :: ps => if p = word then (tokNums k ps).map fun ns => (ns, ps.drop k) else none
theorem readLine_some {s word : List UInt8} {k : Nat} {ns : List Int} {rest : List (List UInt8)} (h : readLine s word k = some (ns, rest)) :
  ns.length = k ∧ (∀ n ∈ ns, small n) ∧ s = lineOf word ns ++ rest.flatMap (fun q => 32 :: q) ∧ ∀ q ∈ rest, (32 : UInt8) ∉ q := by
 unfold readLine at h
 split at h
 ·cases h
 ·rename_i p ps hc
  split at h
  ·rename_i hp
   subst hp
   cases hk : tokNums k ps with
   | none => rw [hk] at h; cases h
   | some ms =>
    rw [hk] at h
    simp only [Option.map_some, Option.some.injEq, Prod.mk.injEq] at h
    obtain ⟨rfl, rfl⟩ := h
    obtain ⟨h1, h2, h3, h4⟩ := tokNums_some hk
    refine ⟨h1, h2, ?_, fun q hq => cutAt_parts s q (by rw [hc]; exact List.mem_cons_of_mem _ (List.mem_of_mem_drop hq))⟩
    rw [cutAt_eq_join hc]
    conv => lhs; rw [h4]
    simp [lineOf, spaced, List.flatMap_append, List.flatMap_map]
  ·cases h
theorem readLine_of {word : List UInt8} (hw : (32 : UInt8) ∉ word) (ns : List Int) (rest : List (List UInt8)) (hn : ∀ n ∈ ns, small n) (hr : ∀ q ∈ rest, (32 : UInt8) ∉ q) :
  readLine (lineOf word ns ++ rest.flatMap fun q => 32 :: q) word ns.length = some (ns, rest) := by
 have h1 : lineOf word ns ++ rest.flatMap (fun q => 32 :: q) = word ++ (ns.map itoa ++ rest).flatMap fun q => 32 :: q := by
  simp [lineOf, spaced, List.flatMap_append, List.flatMap_map]
 unfold readLine
 rw [h1, cutAt_of_join word (ns.map itoa ++ rest) hw fun q hq => by
  rcases List.mem_append.1 hq with e | e
  ·obtain ⟨n, _, rfl⟩ := List.mem_map.1 e
   exact itoa_no_space n
  ·exact hr q e]
 simp only [if_true]
 rw [tokNums_of ns rest hn]
 simp
def wholeLine (s word : List UInt8) (k : Nat) : Option (List Int) :=
 match readLine s word k with
 | some (ns, []) => some ns
 | _ => none
theorem wholeLine_some {s word : List UInt8} {k : Nat} {ns : List Int} (h : wholeLine s word k = some ns) : ns.length = k ∧ (∀ n ∈ ns, small n) ∧ s = lineOf word ns := by
 unfold wholeLine at h
 split at h
 ·rename_i ms hm
  injection h with h
  subst h
  obtain ⟨h1, h2, h3, _⟩ := readLine_some hm
  exact ⟨h1, h2, by simpa using h3⟩
 ·cases h
theorem wholeLine_of {word : List UInt8} (hw : (32 : UInt8) ∉ word) (ns : List Int) (hn : ∀ n ∈ ns, small n) : wholeLine (lineOf word ns) word ns.length = some ns := by
 have := readLine_of hw ns [] hn (by simp)
 simp only [List.flatMap_nil, List.append_nil] at this
 unfold wholeLine
 rw [this]
def accNum : Nat → List UInt8 → Bool → Int → Int
 | 0, _, neg, n => if neg then -n else n
 | _ + 1, [], neg, n => if neg then -n else n
 | k + 1, b :: r, neg, n => if 48 ≤ b.toNat ∧ b.toNat ≤ 57 then accNum k r neg (n * 10 + (b.toNat - 48 : Nat)) else accNum k r neg n
def rawNum : List UInt8 → Int
 | b :: r => if b = 45 then accNum 14 r true 0 else accNum 15 (b :: r) false 0
 | [] => 0
def refNum (w : List UInt8) : Int := if small (rawNum w) then rawNum w else 0
theorem refNum_small (w : List UInt8) : small (refNum w) := by
 unfold refNum
 by_cases h : small (rawNum w)
 ·rw [if_pos h]; exact h
 ·rw [if_neg h]; unfold small; omega
theorem accNum_digs (neg : Bool) : ∀ (l m : List UInt8) (k : Nat) (acc u : Nat), (∀ b ∈ l, isDig b) → parseUint10 acc l = .ok u → accNum (l.length + k) (l ++ m) neg (acc : Int) = accNum k m neg (u : Int)
 | [], m, k, acc, u, _, h => by simp only [parseUint10] at h; injection h with h; subst h; simp
 | b :: l, m, k, acc, u, hd, h => by
  have hb : 48 ≤ b.toNat ∧ b.toNat ≤ 57 := hd b (by simp)
  simp only [parseUint10] at h
  rw [if_pos hb] at h
  split at h
  ·cases h
  ·split at h
   ·cases h
   ·have := accNum_digs neg l m k _ u (fun x hx => hd x (by simp [hx])) h
    rw [List.length_cons, List.cons_append, show l.length + 1 + k = (l.length + k) + 1 by omega, accNum, if_pos hb]
    rw [← this]
    congr 1
theorem nDigits_le {u k : Nat} (h : u < 10 ^ k) (hk : 1 ≤ k) : nDigits u ≤ k := by
 rcases Nat.eq_zero_or_pos u with e | e
 ·subst e; rw [nDigits_small (by omega)]; exact hk
 ·rcases Nat.lt_or_ge k (nDigits u) with hlt | hge
  ·exfalso
   have key : ∀ v : Nat, 0 < v → 10 ^ (nDigits v - 1) ≤ v := by
    intro v
    induction v using Nat.strongRecOn with
    | _ v ih =>
     intro hv
     by_cases hs : v < 10
     ·rw [nDigits_small hs]; simp; omega
     ·rw [nDigits_big hs]
      have := ih (v / 10) (by omega) (by omega)
      have hp := nDigits_pos (v / 10)
      obtain ⟨q, hq⟩ : ∃ q, nDigits (v / 10) = q + 1 := ⟨nDigits (v / 10) - 1, by omega⟩
      rw [hq] at this ⊢
      simp only [Nat.add_sub_cancel] at this ⊢
      rw [Nat.pow_succ]
      omega
   have h1 := key u e
   have h2 := Nat.pow_le_pow_right (n := 10) (by decide) (show k ≤ nDigits u - 1 by omega)
   omega
  ·exact hge
theorem refNum_itoa {n : Int} (h : small n) : refNum (itoa n) = n := by
 have hs := h
 unfold small at h
 rcases Int.lt_or_le n 0 with hn | hn
 ·obtain ⟨m, rfl⟩ : ∃ m : Nat, n = -(m : Int) := ⟨n.natAbs, by omega⟩
  have hl : (decDigits m).length ≤ 14 := by rw [decDigits_length]; exact nDigits_le (by omega) (by omega)
  have h1 := accNum_digs true (decDigits m) [] (14 - (decDigits m).length) 0 m (decDigits_dig m) (parseUint10_dec m (by omega))
  rw [List.append_nil, show (decDigits m).length + (14 - (decDigits m).length) = 14 by omega] at h1
  have h2 : ∀ k, accNum k [] true (m : Int) = -(m : Int) := fun k => by cases k <;> rfl
  rw [h2] at h1
  have h3 : rawNum (itoa (-(m : Int))) = -(m : Int) := by
   rw [itoa_neg m (by omega), rawNum, if_pos rfl]
   exact h1
  unfold refNum
  rw [h3, if_pos hs]
 ·obtain ⟨m, rfl⟩ : ∃ m : Nat, n = (m : Int) := ⟨n.toNat, by omega⟩
  have hl : (decDigits m).length ≤ 15 := by rw [decDigits_length]; exact nDigits_le (by omega) (by omega)
  have h1 := accNum_digs false (decDigits m) [] (15 - (decDigits m).length) 0 m (decDigits_dig m) (parseUint10_dec m (by omega))
  rw [List.append_nil, show (decDigits m).length + (15 - (decDigits m).length) = 15 by omega] at h1
  have h2 : ∀ k, accNum k [] false (m : Int) = (m : Int) := fun k => by cases k <;> rfl
  rw [h2] at h1
  obtain ⟨b, r, e, hb1, hb2⟩ := dec_head m
  have h3 : rawNum (itoa (m : Int)) = (m : Int) := by
   rw [itoa_nonneg]
   rw [e] at h1 ⊢
   rw [rawNum, if_neg (by rintro rfl; revert hb1; decide)]
   exact h1
  unfold refNum
  rw [h3, if_pos hs]
def refNums (s : List UInt8) (k : Nat) : List Int := (List.range k).map fun i => match (cutAt 32 s)[i + 1]? with
 | some w => refNum w
 | none => 0
theorem refNums_length (s : List UInt8) (k : Nat) : (refNums s k).length = k := by simp [refNums]
theorem refNums_small (s : List UInt8) (k : Nat) : ∀ n ∈ refNums s k, small n := by
 intro n hn
 obtain ⟨i, _, rfl⟩ := List.mem_map.1 hn
 split
 ·exact refNum_small _
 ·unfold small; omega
theorem refNums_of {word : List UInt8} (hw : (32 : UInt8) ∉ word) (ns : List Int) (rest : List (List UInt8)) (hn : ∀ n ∈ ns, small n) (hr : ∀ q ∈ rest, (32 : UInt8) ∉ q) :
  refNums (lineOf word ns ++ rest.flatMap fun q => 32 :: q) ns.length = ns := by
 have h1 : lineOf word ns ++ rest.flatMap (fun q => 32 :: q) = word ++ (ns.map itoa ++ rest).flatMap fun q => 32 :: q := by
  simp [lineOf, spaced, List.flatMap_append, List.flatMap_map]
 unfold refNums
 rw [h1, cutAt_of_join word (ns.map itoa ++ rest) hw fun q hq => by
  rcases List.mem_append.1 hq with e | e
  ·obtain ⟨n, _, rfl⟩ := List.mem_map.1 e
   exact itoa_no_space n
  ·exact hr q e]
 apply List.ext_getElem
 ·simp
 ·intro i hi hj
  have hj' : i < ns.length := hj
  simp only [List.getElem_map, List.getElem_range, List.getElem?_cons_succ]
  rw [List.getElem?_append_left (by simpa using hj'), List.getElem?_map, List.getElem?_eq_getElem hj']
  simp only [Option.map_some]
  exact refNum_itoa (hn _ (List.getElem_mem hj'))
theorem whole_iff {word : List UInt8} (hw : (32 : UInt8) ∉ word) (s : List UInt8) (k : Nat) : wholeLine s word k = if lineOf word (refNums s k) = s then some (refNums s k) else none := by
 split
 ·rename_i h
  have := wholeLine_of hw (refNums s k) (refNums_small s k)
  rw [h, refNums_length] at this
  exact this
 ·rename_i h
  cases hq : wholeLine s word k with
  | none => rfl
  | some ns =>
   exfalso
   obtain ⟨h1, h2, h3⟩ := wholeLine_some hq
   apply h
   have := refNums_of hw ns [] h2 (by simp)
   simp only [List.flatMap_nil, List.append_nil] at this
   rw [h1, ← h3] at this
   rw [this, ← h3]
def hexDig (n : Nat) : UInt8 := if n < 10 then UInt8.ofNat (48 + n) else UInt8.ofNat (87 + n)
def hexOf (l : List UInt8) : List UInt8 := l.flatMap fun b => [hexDig (b.toNat / 16), hexDig (b.toNat % 16)]
def hexVal (c : UInt8) : Nat := if 48 ≤ c.toNat ∧ c.toNat ≤ 57 then c.toNat - 48 else if 97 ≤ c.toNat ∧ c.toNat ≤ 102 then c.toNat - 87 else 0
def unhex : List UInt8 → List UInt8
 | a :: b :: r => UInt8.ofNat (hexVal a * 16 + hexVal b) :: unhex r
 | _ => []
theorem hexVal_lt (c : UInt8) : hexVal c < 16 := by
 unfold hexVal
 split
 ·omega
 ·split <;> omega
theorem hexVal_dig : ∀ n, n < 16 → hexVal (hexDig n) = n := by decide +kernel
theorem unhex_hexOf : ∀ l : List UInt8, unhex (hexOf l) = l
 | [] => rfl
 | b :: l => by
  have hb := b.toNat_lt
  show UInt8.ofNat (hexVal (hexDig (b.toNat / 16)) * 16 + hexVal (hexDig (b.toNat % 16))) :: unhex (hexOf l) = b :: l
  rw [hexVal_dig _ (by omega), hexVal_dig _ (by omega), unhex_hexOf l, show b.toNat / 16 * 16 + b.toNat % 16 = b.toNat by omega]
  simp
theorem hexDig_bytes : ∀ n, n < 16 → hexDig n ≠ 32 ∧ hexDig n ≠ 10 := by decide +kernel
theorem hexOf_no (l : List UInt8) : (32 : UInt8) ∉ hexOf l ∧ (10 : UInt8) ∉ hexOf l := by
 constructor <;>
 ·intro h
  obtain ⟨b, _, hb⟩ := List.mem_flatMap.1 h
  have hlt := b.toNat_lt
  have h1 := hexDig_bytes (b.toNat / 16) (by omega)
  have h2 := hexDig_bytes (b.toNat % 16) (by omega)
  simp only [List.mem_cons, List.not_mem_nil, or_false] at hb
  rcases hb with e | e
  ·first | exact h1.1 e.symm | exact h1.2 e.symm
  ·first | exact h2.1 e.symm | exact h2.2 e.symm
def packetLine (s word : List UInt8) (k : Nat) : Option (List Int × List UInt8) :=
 match readLine s word k with
 | some (ns, [q]) => if unhex q ≠ [] ∧ hexOf (unhex q) = q then some (ns, unhex q) else none
 | _ => none
theorem packetLine_some {s word : List UInt8} {k : Nat} {ns : List Int} {d : List UInt8} (h : packetLine s word k = some (ns, d)) :
  ns.length = k ∧ (∀ n ∈ ns, small n) ∧ d ≠ [] ∧ s = lineOf word ns ++ 32 :: hexOf d := by
 unfold packetLine at h
 split at h
 ·rename_i ms q hm
  split at h
  ·rename_i hh
   simp only [Option.some.injEq, Prod.mk.injEq] at h
   obtain ⟨rfl, rfl⟩ := h
   obtain ⟨h1, h2, h3, _⟩ := readLine_some hm
   exact ⟨h1, h2, hh.1, by rw [hh.2]; simpa using h3⟩
  ·cases h
 ·cases h
theorem packetLine_of {word : List UInt8} (hw : (32 : UInt8) ∉ word) (ns : List Int) (d : List UInt8) (hn : ∀ n ∈ ns, small n) (hd : d ≠ []) :
  packetLine (lineOf word ns ++ 32 :: hexOf d) word ns.length = some (ns, d) := by
 have := readLine_of hw ns [hexOf d] hn (by simp [(hexOf_no d).1])
 simp only [List.flatMap_cons, List.flatMap_nil, List.append_nil] at this
 unfold packetLine
 rw [this]
 simp only [unhex_hexOf]
 rw [if_pos ⟨hd, trivial⟩]
def refBytes (s : List UInt8) : List UInt8 := unhex ((cutAt 32 s).getLast (cutAt_ne 32 s))
theorem packet_iff {word : List UInt8} (hw : (32 : UInt8) ∉ word) (s : List UInt8) (k : Nat) :
  packetLine s word k = if lineOf word (refNums s k) ++ 32 :: hexOf (refBytes s) = s ∧ refBytes s ≠ [] then some (refNums s k, refBytes s) else none := by
 split
 ·rename_i h
  have := packetLine_of hw (refNums s k) (refBytes s) (refNums_small s k) h.2
  rw [h.1, refNums_length] at this
  exact this
 ·rename_i h
  cases hq : packetLine s word k with
  | none => rfl
  | some nd =>
   obtain ⟨ns, d⟩ := nd
   exfalso
   obtain ⟨h1, h2, h3, h4⟩ := packetLine_some hq
   apply h
   have e1 := refNums_of hw ns [hexOf d] h2 (by simp [(hexOf_no d).1])
   simp only [List.flatMap_cons, List.flatMap_nil, List.append_nil] at e1
   rw [h1, ← h4] at e1
   have e2 : refBytes s = d := by
    have e3 : cutAt 32 s = word :: (ns.map itoa ++ [hexOf d]) := by
     rw [h4, show lineOf word ns ++ 32 :: hexOf d = word ++ (ns.map itoa ++ [hexOf d]).flatMap fun q => 32 :: q by simp [lineOf, spaced, List.flatMap_append, List.flatMap_map]]
     exact cutAt_of_join word _ hw fun q hq => by
      rcases List.mem_append.1 hq with e | e
      ·obtain ⟨n, _, rfl⟩ := List.mem_map.1 e
       exact itoa_no_space n
      ·simp only [List.mem_singleton] at e; rw [e]; exact (hexOf_no d).1
    unfold refBytes
    simp only [e3]
    rw [List.getLast_cons (by simp), List.getLast_append_of_ne_nil (h₂ := by simp)]
    simp [unhex_hexOf]
   rw [e1, e2]
   exact ⟨h4.symm, h3⟩
end TP
end Go.Proofs.YtemcmblcogljkaaGreatDoor

