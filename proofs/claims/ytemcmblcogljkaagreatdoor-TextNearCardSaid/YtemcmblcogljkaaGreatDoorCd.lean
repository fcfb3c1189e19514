/- Bytes read by the reference. Numbers read by the reference. The lines of a network: what is written. The lines of a network: bearers. The lines of a network: terminals, fades, all. -/
import Derived.Test.YtemcmblcogljkaaGreatDoorCc
set_option linter.all false
set_option linter.unusedSimpArgs false
set_option linter.unusedVariables false
namespace Go.Proofs.YtemcmblcogljkaaGreatDoor
namespace AM
open Go
open Go.Lib (decDigits itoa nDigits)
open TP
theorem hexVal_out : ∀ n, n < 256 → (∀ k, k < 16 → hexDig k ≠ UInt8.ofNat n) → hexVal (UInt8.ofNat n) = 0 := by decide +kernel
theorem nib_or : ∀ p, p < 16 → ∀ q, q < 16 → IntKind.wrap .u8 (BitVec.ofInt (IntKind.bits .u8) (IntKind.wrap .u8 ((p : Nat) * 2 ^ min (Int.toNat 4) (IntKind.bits .u8))) ||| BitVec.ofInt (IntKind.bits .u8) ((q : Nat) : Int)).toNat = ((p * 16 + q : Nat) : Int) := by decide +kernel
section
variable {pm : Prims}
theorem c91 (hp : Only pm) {c : UInt8} {H : AH} {Q : Value → AH → Prop} (hQ : Q (.int .u8 (hexVal c : Int)) H) : OK pm 91 ⟨[.int .u8 (c.toNat : Int)]⟩ H Q := by
 apply f91_ok hp
 simp only [f91R]
 have key : ∀ d i, i + d = 16 → (∀ k, k < i → hexDig k ≠ c) → f91L0 (OK pm) Q (c.toNat : Int) (i : Int) H := by
  intro d
  induction d with
  | zero =>
   intro i hi hk
   apply f91L0_step
   simp only [f91B0]
   rw [decide_eq_false (by omega), ifB_false]
   have e := hexVal_out c.toNat c.toNat_lt fun k hk' => by simpa using hk k (by omega)
   simp only [UInt8.ofNat_toNat] at e
   rw [e] at hQ
   exact hQ
  | succ d ih =>
   intro i hi hk
   apply f91L0_step
   simp only [f91B0]
   rw [decide_eq_true (by omega), ifB_true, show bs [48, 49, 50, 51, 52, 53, 54, 55, 56, 57, 97, 98, 99, 100, 101, 102] = bs digs from rfl, idx_dig (by omega), obI_some]
   refine ifB_intro (fun h => ?_) (fun h => ?_)
   ·have e : hexDig i = c := UInt8.toNat_inj.1 (by simp only [beq_iff_eq] at h; omega)
    rw [wrap_u8 (by omega) (by omega)]
    have := hexVal_dig i (by omega)
    rw [e] at this
    rw [this] at hQ
    exact hQ
   ·rw [wrap_of (by omega) (by omega)]
    refine ih (i + 1) (by omega) fun k hk' => ?_
    by_cases e : k = i
    ·subst e; intro e; subst e; simp at h
    ·exact hk k (by omega)
 exact key 16 0 (by omega) fun k hk => by omega
theorem e91 (hp : Only pm) (c : UInt8) (H : AH) (K : Value → AH → Prop) : OK pm 91 ⟨[.int .u8 (c.toNat : Int)]⟩ H K = K (.int .u8 (hexVal c : Int)) H := OK.eq (c91 hp ⟨rfl, rfl⟩) K
theorem unhex_short : ∀ {s : List UInt8}, s.length ≤ 1 → unhex s = []
 | [], _ => rfl
 | [_], _ => rfl
 | _ :: _ :: _, h => by simp at h
theorem c60 (hp : Only pm) {s : List UInt8} (hl : s.length ≤ 1000000000) {H : AH} {Q : Value → AH → Prop} (hw : WF H)
  (hQ : ∀ H' b n, Le H H' → Sli H' 1 b n n (byteVals (unhex s)) → (∀ g, rootB H' b g → H.next ≤ g) → (∀ a, b = some a → a.spot = none) → Q (.slice b n n) H') : OK pm 60 ⟨[.string (bs s)]⟩ H Q := by
 apply f60_ok hp
 simp only [f60R]
 have hz : (bs s).size = s.length := rfl
 have key : ∀ d i (P : List UInt8) G b n, d = s.length - i → i ≤ s.length → Le H G → n = P.length → P.length ≤ i → Sli G 1 b n n (byteVals P) → (∀ g, rootB G b g → H.next ≤ g) → (∀ a, b = some a → a.spot = none) → unhex s = P ++ unhex (s.drop i) → f60L0 (OK pm) Q (bs s) b n n (i : Int) G := by
  intro d
  induction d using Nat.strongRecOn with
  | _ d ih =>
   intro i P G b n hd hi hg hn hPi hs hroot hspot hun
   apply f60L0_step
   simp only [f60B0]
   rw [wrap_of (by omega) (by omega)]
   refine ifB_intro (fun h => ?_) (fun h => ?_)
   ·simp only [decide_eq_true_eq, hz] at h
    obtain ⟨x, hix⟩ : ∃ x, s[i]? = some x := ⟨_, List.getElem?_eq_getElem (by omega)⟩
    obtain ⟨y, hiy⟩ : ∃ y, s[i + 1]? = some y := ⟨_, List.getElem?_eq_getElem (by omega)⟩
    have hdrop : s.drop i = x :: y :: s.drop (i + 2) := by
     rw [List.drop_eq_getElem_cons (by omega), List.drop_eq_getElem_cons (by omega)]
     rw [(List.getElem?_eq_some_iff.1 hix).2, (List.getElem?_eq_some_iff.1 hiy).2]
    rw [idx_byte hix, obI_some, show (i : Int) + 1 = ((i + 1 : Nat) : Int) by omega, idx_byte hiy, obI_some, e91 hp, obI_some, e91 hp, obI_some, letH_eq, nib_or _ (hexVal_lt x) _ (hexVal_lt y)]
    have hv : ((hexVal x * 16 + hexVal y : Nat) : Int) = ((UInt8.ofNat (hexVal x * 16 + hexVal y)).toNat : Int) := by
     have := hexVal_lt x; have := hexVal_lt y
     rw [UInt8.toNat_ofNat']; omega
    rw [hv]
    have l1 := new_le hg.wf 1 [.int .u8 ((UInt8.ofNat (hexVal x * 16 + hexVal y)).toNat : Int)]
    obtain ⟨b2, G2, a1, a2, a3, a4, ⟨h2, i2, a5⟩⟩ := append_ok l1.wf (sz := 1) (bytes := 1) (by omega) (hs.le hg.wf l1) (x := .slice (some ⟨G.next, 0, none⟩) 1 1) (m := 1) (news := [.int .u8 ((UInt8.ofNat (hexVal x * 16 + hexVal y)).toNat : Int)]) rfl (src_slice rfl fun j _ => by rw [Nat.zero_add, new_load]) (by omega) rfl (by simp [oneCell]) (by omega) (by omega)
    rw [a1, obG_some, wrap_of (by omega) (by omega)]
    have hroot1 : ∀ g, rootB (G.new 1 [.int .u8 ((UInt8.ofNat (hexVal x * 16 + hexVal y)).toNat : Int)]) b g → H.next ≤ g := fun g hh => hroot g ((rootB_keep hg.wf l1 hs g).1 hh)
    have g2 : Le H G2 := Keep.trans (hg.trans l1) a3 fun g hgl hh => by have := hroot1 g hh; omega
    refine ih (s.length - (i + 2)) (by omega) (i + 2) (P ++ [UInt8.ofNat (hexVal x * 16 + hexVal y)]) G2 b2 (n + 1) rfl (by omega) g2 (by simp; omega) (by simp; omega) (by simpa [byteVals] using a2) (fun g hh => ?_) (fun a ha => ?_) ?_
    ·rcases a4 g hh with hh | hh
     ·exact hroot1 g hh
     ·have := hg.next; simp only [new_next] at hh; omega
    ·rw [a5] at ha; injection ha with ha; subst ha; rfl
    ·rw [hun, hdrop, unhex, List.append_assoc]; rfl
   ·simp only [decide_eq_false_iff_not, hz] at h
    have hu : unhex s = P := by
     rw [hun, unhex_short (by simp; omega), List.append_nil]
    rw [← hu] at hs
    exact hQ G b n hg hs hroot hspot
 exact key s.length 0 [] H none 0 rfl (by omega) (Keep.refl hw) rfl (Nat.le_refl _) .nil (fun g hh => hh.elim) (fun a ha => by cases ha) rfl
end
end AM
end Go.Proofs.YtemcmblcogljkaaGreatDoor

namespace Go.Proofs.YtemcmblcogljkaaGreatDoor
namespace AM
open Go
open Go.Lib (decDigits itoa nDigits)
open TP
structure NumInv (H0 : AH) (k : Nat) (f : Nat → Int) (G : AH) : Prop where
 le : Le H0 G
 own : Own G H0.next k
 root : rootOf G H0.next = H0.next
 vals : ∀ j, j < k → G.load H0.next j = some (I (f j))
theorem NumInv.store {H0 G : AH} {k : Nat} {f : Nat → Int} (h : NumInv H0 k f G) {i : Nat} (hi : i < k) (x : Int) : ∃ G', G.storeN H0.next i [I x] = some G' ∧ NumInv H0 k (fun j => if j = i then x else f j) G' := by
 obtain ⟨G', a1, a2, a3, a4, a5⟩ := storeN_ok h.le.wf h.own (i := i) (vs := [I x]) (by simp; omega) (by simp [oneCell])
 refine ⟨G', a1, ⟨Keep.trans h.le a2 fun g hg hh => ?_, a3, ?_, fun j hj => ?_⟩⟩
 ·rw [h.root] at hh; omega
 ·rw [a2.root (h.own.lt h.le.wf), h.root]
 ·rw [a5]
  simp only [List.length_cons, List.length_nil, Nat.zero_add]
  by_cases e : j = i
  ·subst e; rw [if_pos ⟨Nat.le_refl _, by omega⟩, if_pos rfl, Nat.sub_self]; rfl
  ·rw [if_neg (by omega), if_neg e, h.vals j hj]
theorem el {h k i : Nat} (hi : i < k) : elemS 1 (.slice (some ⟨h, 0, none⟩) k k) (.int .i64 (i : Int)) = some (.pointer (some ⟨h, i, none⟩)) := by
 rw [elemS_eq (by omega) (by omega), Int.toNat_natCast, Nat.zero_add, Nat.mul_one]
theorem make_n (G : AH) {k : Nat} (hk : k ≤ 1000) : makeV 1 8 [.int .i64 0] G (.int .i64 (k : Int)) (.int .i64 (k : Int)) = some (.slice (some ⟨G.next, 0, none⟩) k k, G.new 1 (List.replicate k (I 0))) := by
 unfold makeV
 have e : (List.replicate k [Value.int .i64 0]).flatten = List.replicate k (I 0) := by simp
 simp only [decide_eq_true (show (0 : Int) ≤ (k : Int) by omega), decide_eq_true (show (k : Int) ≤ (k : Int) by omega), Int.toNat_natCast, ble_of (show k * 8 ≤ 140737488355328 by omega), ble_of (show k ≤ 4611686018427387904 by omega), Bool.and_self, e]
theorem digit_sub {x : UInt8} (h : 48 ≤ x.toNat) (h' : x.toNat ≤ 57) : IntKind.wrap .i64 (IntKind.wrap .u8 ((x.toNat : Int) - 48)) = ((x.toNat - 48 : Nat) : Int) := by
 rw [wrap_u8 (by omega) (by omega), wrap_of (by omega) (by omega)]; omega
theorem pow14 {t : Nat} (h : t ≤ 14) : (10 : Int) ^ t ≤ 100000000000000 := by
 have h2 := Nat.pow_le_pow_right (n := 10) (by decide) h
 have h3 : (10 : Nat) ^ 14 = 100000000000000 := by decide
 have h4 : ((10 ^ t : Nat) : Int) = (10 : Int) ^ t := Int.natCast_pow 10 t
 rw [h3] at h2
 omega
theorem rawNum_neg {x : UInt8} (h : x = 45) (r : List UInt8) : rawNum (x :: r) = accNum 14 r true 0 := if_pos h
theorem rawNum_pos {x : UInt8} (h : x ≠ 45) (r : List UInt8) : rawNum (x :: r) = accNum 15 (x :: r) false 0 := if_neg h
theorem NumInv.congr {H0 G : AH} {k : Nat} {f g : Nat → Int} (h : NumInv H0 k f G) (e : ∀ j, j < k → f j = g j) : NumInv H0 k g G :=
 ⟨h.le, h.own, h.root, fun j hj => by rw [h.vals j hj, e j hj]⟩
section
variable {pm : Prims}
theorem inner59 (hp : Only pm) {w : List UInt8} (hwl : w.length ≤ 1000000000) {k i : Nat} (hk : k ≤ 1000) (hi : i < k) {H0 : AH} {b5 : Option Addr} {n5 k5 : Nat} {Q : Value → AH → Prop} {f : Nat → Int}
  (fin : ∀ G, NumInv H0 k (fun j => if j = i then refNum w else f j) G → f59L0 (OK pm) Q (k : Int) b5 n5 k5 (some ⟨H0.next, 0, none⟩) k k ((i : Int) + 1) G) :
  ∀ d t (neg : Bool) (acc : Int) G, t + d = 15 → (t = 0 → acc = 0 ∧ neg = false) → (1 ≤ t → t ≤ w.length → accNum (15 - t) (w.drop t) neg acc = rawNum w) → (t ≤ w.length) → 0 ≤ acc → acc < 10 ^ t →
   NumInv H0 k (fun j => if j = i then acc else f j) G →
   f59L1 (OK pm) Q (LoopP (f59W0 (OK pm) Q)) (k : Int) b5 n5 k5 (some ⟨H0.next, 0, none⟩) k k (i : Int) (bs w) (if neg then -1 else 1) (t : Int) G := by
 have hz : (bs w).size = w.length := rfl
 have last : ∀ (neg : Bool) (acc : Int) G, (if neg then -acc else acc) = rawNum w → 0 ≤ acc → acc < 10 ^ 15 → NumInv H0 k (fun j => if j = i then acc else f j) G →
   (obA (elemS 1 (.slice (some ⟨H0.next, 0, none⟩) k k) (.int .i64 (i : Int))) fun h18 i18 =>
   obI .i64 (G.load h18 i18) fun x19 =>
   obA (elemS 1 (.slice (some ⟨H0.next, 0, none⟩) k k) (.int .i64 (i : Int))) fun h20 i20 =>
   obH (G.storeN h20 i20 [.int .i64 (IntKind.wrap .i64 ((if neg then -1 else 1) * x19))]) fun H21 =>
   obA (elemS 1 (.slice (some ⟨H0.next, 0, none⟩) k k) (.int .i64 (i : Int))) fun h22 i22 =>
   obI .i64 (H21.load h22 i22) fun x23 =>
   OK pm 90 ⟨[.int .i64 x23]⟩ H21 fun v24 H25 =>
   obB (some v24) fun c26 =>
   ifB (!c26) (
    obA (elemS 1 (.slice (some ⟨H0.next, 0, none⟩) k k) (.int .i64 (i : Int))) fun h27 i27 =>
    obH (H25.storeN h27 i27 [.int .i64 0]) fun H28 =>
    f59J0 (OK pm) Q (LoopP (f59W0 (OK pm) Q)) (k : Int) b5 n5 k5 (some ⟨H0.next, 0, none⟩) k k (i : Int) H28) (
    f59J0 (OK pm) Q (LoopP (f59W0 (OK pm) Q)) (k : Int) b5 n5 k5 (some ⟨H0.next, 0, none⟩) k k (i : Int) H25)) := by
  intro neg acc G hraw h0 h1 hG
  have hv := hG.vals i hi
  simp only [if_true] at hv
  have hlt : acc < 1000000000000000 := h1
  have hsg : IntKind.wrap .i64 ((if neg then -1 else 1) * acc) = rawNum w := by
   rw [← hraw]
   cases neg with
   | true => simp only [if_true]; rw [wrap_of (by omega) (by omega)]; omega
   | false => simp only [Bool.false_eq_true, if_false]; rw [wrap_of (by omega) (by omega)]; omega
  rw [el hi, obA_some, hv, obI_some, obA_some, hsg]
  obtain ⟨G1, s1, g1⟩ := hG.store hi (rawNum w)
  have hv1 := g1.vals i hi
  simp only [if_true] at hv1
  rw [s1, obH_some, obA_some, hv1, obI_some]
  apply f90_ok hp
  simp only [f90R, ifB_J, join2_J, Bool.cond_false_right, obB_some, ifB_not, obA_some]
  refine ifB_intro (fun h => ?_) (fun h => ?_)
  ·rw [f59J0_eq]
   simp only [f59K0]
   rw [wrap_of (by omega) (by omega)]
   refine fin G1 (g1.congr fun j _ => ?_)
   by_cases e : j = i
   ·subst e
    simp only [if_true]
    simp only [Bool.and_eq_true, decide_eq_true_eq] at h
    rw [refNum, if_pos ⟨by omega, by omega⟩]
   ·simp only [if_neg e]
  ·obtain ⟨G2, s2, g2⟩ := g1.store hi 0
   rw [s2, obH_some, f59J0_eq]
   simp only [f59K0]
   rw [wrap_of (by omega) (by omega)]
   refine fin G2 (g2.congr fun j _ => ?_)
   by_cases e : j = i
   ·subst e
    simp only [if_true]
    simp only [Bool.and_eq_false_imp, decide_eq_true_eq, decide_eq_false_iff_not] at h
    rw [refNum, if_neg]
    intro hh; unfold small at hh; exact h (by omega) (by omega)
   ·simp only [if_neg e]
 intro d
 induction d with
 | zero =>
  intro t neg acc G htd ht0 ht1 htl h0 h1 hG
  apply f59L1_step
  simp only [f59B1, ifB_J, join2_J, Bool.cond_false_right]
  rw [decide_eq_false (show ¬ (t : Int) < 15 by omega), Bool.and_false, ifB_false]
  refine last neg acc G ?_ h0 ?_ hG
  ·have := ht1 (by omega) htl
   rw [show 15 - t = 0 by omega, accNum] at this
   exact this
  ·rw [show t = 15 by omega] at h1; exact h1
 | succ d ih =>
  intro t neg acc G htd ht0 ht1 htl h0 h1 hG
  have hp14 := pow14 (t := t) (by omega)
  have hpow : (10 : Int) ^ (t + 1) = 10 ^ t * 10 := by rw [Int.pow_succ]
  apply f59L1_step
  simp only [f59B1, ifB_J, join2_J, Bool.cond_false_right]
  rw [decide_eq_true (show (t : Int) < 15 by omega), Bool.and_true]
  refine ifB_intro (fun h => ?_) (fun h => ?_)
  ·simp only [decide_eq_true_eq, hz] at h
   obtain ⟨x, hx⟩ : ∃ x, w[t]? = some x := ⟨_, List.getElem?_eq_getElem (by omega)⟩
   have hx256 := x.toNat_lt
   have hdrop : w.drop t = x :: w.drop (t + 1) := by
    rw [List.drop_eq_getElem_cons (by omega), (List.getElem?_eq_some_iff.1 hx).2]
   rw [idx_byte hx]
   simp only [obI_some, ifB_J, join2_J, Bool.cond_false_right]
   refine ifB_intro (fun hm => ?_) (fun hm => ?_)
   ·-- the sign
    simp only [Bool.and_eq_true, beq_iff_eq] at hm
    have t0 : t = 0 := Int.ofNat_eq_zero.1 hm.1
    have hh := ht0 t0
    have ea := hh.1
    have en := hh.2
    subst t0
    subst ea
    subst en
    have hx45 : x = 45 := UInt8.toNat_inj.1 (by have := hm.2; simp; omega)
    rw [f59J1_eq]
    simp only [f59K1]
    rw [wrap_of (by omega) (by omega)]
    refine ih 1 true 0 G (by omega) (fun hh => by omega) (fun _ _ => ?_) (by omega) (by omega) (by omega) hG
    rw [List.drop_zero] at hdrop
    conv => rhs; rw [hdrop, rawNum_neg hx45]
   ·-- what comes next
    have hmm : ¬ (t = 0 ∧ x = 45) := by
     rintro ⟨rfl, rfl⟩
     simp at hm
    have next : accNum (15 - t) (x :: w.drop (t + 1)) neg acc = rawNum w := by
     rcases Nat.eq_zero_or_pos t with e | e
     ·subst e
      obtain ⟨rfl, rfl⟩ := ht0 rfl
      rw [List.drop_zero] at hdrop
      conv => rhs; rw [hdrop, rawNum_pos (fun hh => hmm ⟨rfl, hh⟩)]
     ·rw [← hdrop]; exact ht1 e (by omega)
    rw [show 15 - t = (15 - (t + 1)) + 1 by omega, accNum] at next
    refine ifB_intro (fun hd => ?_) (fun hd => ?_)
    ·simp only [Bool.and_eq_true, decide_eq_true_eq] at hd
     have hv := hG.vals i hi
     simp only [if_true] at hv
     rw [el hi, obA_some, hv, obI_some, obA_some, digit_sub (by omega) (by omega), wrap_of (x := acc * 10) (by omega) (by omega), wrap_of (by omega) (by omega)]
     obtain ⟨G1, s1, g1⟩ := hG.store hi (acc * 10 + ((x.toNat - 48 : Nat) : Int))
     rw [s1, obH_some, f59J1_eq]
     simp only [f59K1]
     rw [wrap_of (by omega) (by omega)]
     refine ih (t + 1) neg (acc * 10 + ((x.toNat - 48 : Nat) : Int)) G1 (by omega) (fun hh => by omega) (fun _ _ => ?_) (by omega) (by omega) (by omega) (g1.congr fun j _ => ?_)
     ·rw [if_pos (by omega)] at next; exact next
     ·by_cases e : j = i
      ·simp only [if_pos e]
      ·simp only [if_neg e]
    ·have hnd : ¬ (48 ≤ x.toNat ∧ x.toNat ≤ 57) := by
      simp only [Bool.and_eq_false_imp, decide_eq_true_eq, decide_eq_false_iff_not] at hd
      intro hh; exact hd (by omega) (by omega)
     rw [f59J1_eq]
     simp only [f59K1]
     rw [wrap_of (by omega) (by omega)]
     refine ih (t + 1) neg acc G (by omega) (fun hh => by omega) (fun _ _ => ?_) (by omega) h0 (by omega) hG
     rw [if_neg hnd] at next; exact next
  ·simp only [decide_eq_false_iff_not, hz] at h
   have hlen : t = w.length := by omega
   refine last neg acc G ?_ h0 (by omega) hG
   rcases Nat.eq_zero_or_pos t with e | e
   ·have hwn : w = [] := List.length_eq_zero_iff.1 (by omega)
    obtain ⟨rfl, rfl⟩ := ht0 e
    subst hwn
    rfl
   ·have := ht1 e (by omega)
    rw [List.drop_of_length_le (by omega), show 15 - t = (15 - (t + 1)) + 1 by omega, accNum] at this
    exact this
theorem Sli.rd1 {H : AH} {b : Option Addr} {n c : Nat} {cs : List Value} (hs : Sli H 1 b n c cs) (hb : ∀ a, b = some a → a.spot = none) : Rd H 1 b n (cs.map fun v => [v]) := by
 have hl := hs.len
 refine ⟨by rw [List.length_map]; omega, fun i r hi => ?_⟩
 rw [List.getElem?_map] at hi
 cases hv : cs[i]? with
 | none => rw [hv] at hi; cases hi
 | some v =>
  rw [hv] at hi
  simp only [Option.map_some, Option.some.injEq] at hi
  subst hi
  cases hs with
  | nil => simp at hv
  | row hr hs hf ho hlo hh hn hc =>
   refine ⟨_, _, rfl, fun k hk => ?_⟩
   obtain rfl : k = 0 := by omega
   refine ⟨?_, rfl⟩
   rw [Nat.add_zero, Nat.mul_one, hc i (List.getElem?_eq_some_iff.1 hv).1, hv]; rfl
theorem strs_get {L : List (List UInt8)} {i : Nat} {p : List UInt8} (h : L[i]? = some p) : ((strs L).map fun v => [v])[i]? = some [.string (bs p)] := by simp [strs, h]
theorem cutAt_small {c : UInt8} {s p : List UInt8} (h : p ∈ cutAt c s) : p.length ≤ s.length := by
 have e := cutAt_join (c := c) s
 have : p.length ≤ ([c].intercalate (cutAt c s)).length := by
  generalize cutAt c s = L at h
  induction L with
  | nil => simp at h
  | cons q L ih =>
   cases L with
   | nil =>
    simp only [List.mem_singleton] at h
    subst h
    simp [List.intercalate]
   | cons q2 L =>
    have hstep : [c].intercalate (q :: q2 :: L) = q ++ c :: [c].intercalate (q2 :: L) := by simp [List.intercalate, List.intersperse]
    rw [hstep, List.length_append, List.length_cons]
    rcases List.mem_cons.1 h with rfl | h
    ·omega
    ·have := ih h; omega
 rwa [e] at this
theorem c59 (hp : Only pm) {s : List UInt8} (hl : s.length ≤ 1000000000) {k : Nat} (hk : k ≤ 1000) {H : AH} {Q : Value → AH → Prop} (hw : WF H)
  (hQ : ∀ H' b, Le H H' → Rd H' 1 b k (ints1 (refNums s k)) → (∀ g, rootB H' b g → H.next ≤ g) → Q (.slice b k k) H') : OK pm 59 ⟨[.string (bs s), I (k : Int)]⟩ H Q := by
 apply f59_ok hp
 simp only [f59R]
 refine c37 (c := 32) hp hl hw fun H1 b h1 hs _ hb => ?_
 have hspot : ∀ a, b = some a → a.spot = none := fun a ha => by obtain ⟨p, q, e⟩ := hb; rw [e] at ha; injection ha with ha; subst ha; rfl
 have hrd := hs.rd1 hspot
 rw [obL_some, make_n H1 hk, obG_some]
 have inv0 : NumInv H1 k (fun _ => 0) (H1.new 1 (List.replicate k (I 0))) := by
  refine ⟨new_le h1.wf _ _, ?_, new_root _ _ _, fun j hj => ?_⟩
  ·have := new_own H1 1 (List.replicate k (I 0)); simpa using this
  ·rw [new_load, List.getElem?_replicate, if_pos hj]
 have key : ∀ d i G, i + d = k → NumInv H1 k (fun j => if j < i then (refNums s k).getD j 0 else 0) G → f59L0 (OK pm) Q (k : Int) b (cutAt 32 s).length (cutAt 32 s).length (some ⟨H1.next, 0, none⟩) k k (i : Int) G := by
  have done : ∀ i G, i ≤ k → (∀ j, i ≤ j → j < k → (refNums s k).getD j 0 = 0) → NumInv H1 k (fun j => if j < i then (refNums s k).getD j 0 else 0) G → Q (.slice (some ⟨H1.next, 0, none⟩) k k) G := by
   intro i G hik hzero hG
   refine hQ G _ (h1.trans hG.le) ⟨by simp [ints1, refNums_length], fun j r hj => ?_⟩ (fun g hg => by simp only [rootB, hG.root] at hg; have := h1.next; omega)
   simp only [ints1, List.getElem?_map] at hj
   cases hv : (refNums s k)[j]? with
   | none => rw [hv] at hj; cases hj
   | some v =>
    rw [hv] at hj
    simp only [Option.map_some, Option.some.injEq] at hj
    subst hj
    have hjk : j < k := by have := (List.getElem?_eq_some_iff.1 hv).1; rwa [refNums_length] at this
    refine ⟨_, _, rfl, fun q hq => ?_⟩
    obtain rfl : q = 0 := by omega
    refine ⟨?_, rfl⟩
    rw [Nat.zero_add, Nat.mul_one, Nat.add_zero, hG.vals j hjk]
    have hgd : (refNums s k).getD j 0 = v := by rw [List.getD_eq_getElem?_getD, hv]; rfl
    by_cases e : j < i
    ·simp only [if_pos e, hgd]; rfl
    ·have := hzero j (by omega) hjk
     rw [hgd] at this
     simp only [if_neg e, this]; rfl
  intro d
  induction d with
  | zero =>
   intro i G hi hG
   apply f59L0_step
   simp only [f59B0, ifB_J, join2_J, Bool.cond_false_right]
   rw [decide_eq_false (show ¬ (i : Int) < (k : Int) by omega), Bool.false_and, ifB_false]
   exact done i G (by omega) (fun j h1 h2 => by omega) hG
  | succ d ih =>
   intro i G hi hG
   apply f59L0_step
   simp only [f59B0, ifB_J, join2_J, Bool.cond_false_right]
   rw [decide_eq_true (show (i : Int) < (k : Int) by omega), Bool.true_and, wrap_of (by omega) (by omega)]
   refine ifB_intro (fun h => ?_) (fun h => ?_)
   ·simp only [decide_eq_true_eq] at h
    obtain ⟨w, hiw⟩ : ∃ w, (cutAt 32 s)[i + 1]? = some w := ⟨_, List.getElem?_eq_getElem (by omega)⟩
    obtain ⟨p, j, e1, e2⟩ := ((hrd.le h1.wf hG.le)).elem (k := (cutAt 32 s).length) (strs_get hiw) (kk := .i64)
    have e2 := e2 0 (by omega)
    rw [Nat.add_zero] at e2
    rw [show (i : Int) + 1 = ((i + 1 : Nat) : Int) by omega, e1, obA_some, e2]
    simp only [List.getElem?_cons_zero, obS_some]
    have hwl := cutAt_small (List.mem_of_getElem? hiw)
    have hrn : (refNums s k).getD i 0 = refNum w := by
     rw [List.getD_eq_getElem?_getD]
     simp only [refNums, List.getElem?_map, List.getElem?_range (show i < k by omega), Option.map_some, hiw, Option.getD_some]
    refine inner59 hp (by omega) hk (show i < k by omega) (f := fun j => if j < i then (refNums s k).getD j 0 else 0) (fun G' hG' => ?_) 15 0 false 0 G (by omega) (fun _ => ⟨rfl, rfl⟩) (fun hh => by omega) (by omega) (by omega) (by decide) (hG.congr fun j _ => ?_)
    ·refine ih (i + 1) G' (by omega) (hG'.congr fun j _ => ?_)
     by_cases e : j = i
     ·subst e; simp only [if_true]; rw [if_pos (by omega), hrn]
     ·simp only [if_neg e]
      by_cases e2 : j < i
      ·rw [if_pos e2, if_pos (by omega)]
      ·rw [if_neg e2, if_neg (by omega)]
    ·by_cases e : j = i
     ·subst e; simp
     ·simp only [if_neg e]
   ·simp only [decide_eq_false_iff_not] at h
    refine done i G (by omega) (fun j h1 h2 => ?_) hG
    rw [List.getD_eq_getElem?_getD]
    simp only [refNums, List.getElem?_map, List.getElem?_range h2, Option.map_some, Option.getD_some]
    rw [List.getElem?_eq_none (by omega)]
 exact key k 0 _ (by omega) (inv0.congr fun j _ => by simp)
end
end AM
end Go.Proofs.YtemcmblcogljkaaGreatDoor

namespace Go.Proofs.YtemcmblcogljkaaGreatDoor
namespace AM
open Go
open Go.Lib (decDigits itoa nDigits)
open TP
structure Pkt where
 at' : Int
 term : Int
 bear : Int
 dir : Int
 data : List UInt8
def Pkt.cells (p : Pkt) (b : Option Addr) (n k : Nat) : List Value := [I p.at', I p.term, I p.bear, I p.dir, .slice b n k]
def RdX (H : AH) (b : Option Addr) (n : Nat) (L : List Pkt) : Prop :=
 n = L.length ∧ ∀ i p, L[i]? = some p → ∃ h j db dn dk, b = some ⟨h, j, none⟩ ∧ (∀ k, k < 5 → H.load h (j + i * 5 + k) = (p.cells db dn dk)[k]?) ∧ Rd H 1 db dn (bytes1 p.data) ∧ (∀ a, db = some a → a.spot = none)
theorem RdX.le {H H' : AH} (hw : WF H) (hk : Le H H') {b : Option Addr} {n : Nat} {L : List Pkt} (hr : RdX H b n L) : RdX H' b n L := by
 refine ⟨hr.1, fun i t hi => ?_⟩
 obtain ⟨h, j, db, dn, dk, h1, h2, h3, h4⟩ := hr.2 i t hi
 refine ⟨h, j, db, dn, dk, h1, fun k hk' => ?_, h3.le hw hk, h4⟩
 have h5 := h2 k hk'
 have : k < (t.cells db dn dk).length := hk'
 rw [List.getElem?_eq_getElem this] at h5 ⊢
 exact hk.load hw h5
theorem RdX.elem {H : AH} {b : Option Addr} {n k : Nat} {L : List Pkt} (hr : RdX H b n L) {i : Nat} {t : Pkt} (hi : L[i]? = some t) :
  ∃ h j db dn dk, elemS 5 (.slice b n k) (.int .i64 (i : Int)) = some (.pointer (some ⟨h, j, none⟩)) ∧ (∀ k, k < 5 → H.load h (j + k) = (t.cells db dn dk)[k]?) ∧ Rd H 1 db dn (bytes1 t.data) ∧ (∀ a, db = some a → a.spot = none) := by
 obtain ⟨h, j, db, dn, dk, h1, h2⟩ := hr.2 i t hi
 have hlt : i < n := by rw [hr.1]; exact (List.getElem?_eq_some_iff.1 hi).1
 refine ⟨h, j + i * 5, db, dn, dk, ?_, h2⟩
 rw [h1, elemS_eq (by omega) (by omega), Int.toNat_natCast]
def wNetwork : List UInt8 := [110, 101, 116, 119, 111, 114, 107]
def wPatience : List UInt8 := [112, 97, 116, 105, 101, 110, 99, 101]
def wRule : List UInt8 := [114, 117, 108, 101]
def wOuter : List UInt8 := [111, 117, 116, 101, 114]
def wFade : List UInt8 := [102, 97, 100, 101]
def wTerminal : List UInt8 := [116, 101, 114, 109, 105, 110, 97, 108]
def wBearer : List UInt8 := [98, 101, 97, 114, 101, 114]
def wPacket : List UInt8 := [112, 97, 99, 107, 101, 116]
def Cfg.heads (c : Cfg) : List (List UInt8) :=
 [lineOf wNetwork [c.seed, c.cells, c.res, c.delay, c.betw, c.tries, c.pre, c.att, c.back], lineOf wPatience [c.pa, c.pb, c.pc], lineOf wRule [c.ra, c.rb, c.rc], lineOf wOuter [c.ou, c.od]]
def Trm.nums (t : Trm) : List Int := [t.cell, t.cls, t.bat, t.gf, t.gw, t.gb, t.rc, t.ro, t.rn, t.rl, t.rs, t.rk]
def Trm.bear (t : Trm) (i : Nat) : List UInt8 := lineOf wBearer ((t.bears.getD i []) ++ (t.bucks.getD i [0, 0, 0, 0]))
def Trm.lines (t : Trm) : List (List UInt8) := lineOf wTerminal t.nums :: (List.range t.bears.length).map t.bear
def Pkt.nums (p : Pkt) : List Int := [p.at', p.term, p.bear, p.dir]
def Pkt.line (p : Pkt) : List UInt8 := lineOf wPacket p.nums ++ 32 :: hexOf p.data
def textOf (c : Cfg) (l : List Pkt) : List (List UInt8) := c.heads ++ c.fades.map (lineOf wFade) ++ c.terms.flatMap Trm.lines ++ l.map Pkt.line
def nb (n : Int) : Prop := -4611686018427387904 < n ∧ n < 4611686018427387904
def Trm.nb (t : Trm) : Prop := (∀ n ∈ t.nums, AM.nb n) ∧ (∀ r ∈ t.bears, ∀ n ∈ r, AM.nb n) ∧ (∀ r ∈ t.bucks, ∀ n ∈ r, AM.nb n)
def Pkt.nb (p : Pkt) : Prop := (∀ n ∈ p.nums, AM.nb n) ∧ p.data.length ≤ 1000000000
def Cfg.nb (c : Cfg) : Prop := ((∀ n ∈ [c.seed, c.cells, c.res, c.delay, c.betw, c.tries, c.pre, c.att, c.back], AM.nb n) ∧ (∀ n ∈ [c.pa, c.pb, c.pc], AM.nb n) ∧ (∀ n ∈ [c.ra, c.rb, c.rc], AM.nb n) ∧ ∀ n ∈ [c.ou, c.od], AM.nb n) ∧ (∀ r ∈ c.fades, ∀ n ∈ r, AM.nb n) ∧ ∀ t ∈ c.terms, t.nb
structure Out (B : Nat → Prop) (H0 G : AH) (b : Option Addr) (n : Nat) (P : List (List UInt8)) : Prop where
 keep : Keep B H0 G
 sli : Sli G 1 b n n (strs P)
 root : ∀ g, rootB G b g → B g ∨ H0.next ≤ g
 spot : ∀ a, b = some a → a.spot = none
theorem Out.len {B : Nat → Prop} {H0 G : AH} {b : Option Addr} {n : Nat} {P : List (List UInt8)} (h : Out B H0 G b n P) : n = P.length := by
 have := h.sli.len; simp [strs] at this; omega
theorem Out.le {B : Nat → Prop} {H0 G G1 : AH} {b : Option Addr} {n : Nat} {P : List (List UInt8)} (h : Out B H0 G b n P) (hl : Le G G1) : Out B H0 G1 b n P :=
 ⟨Keep.trans h.keep hl fun _ _ hh => hh.elim, h.sli.le h.keep.wf hl, fun g hg => h.root g ((rootB_keep h.keep.wf hl h.sli g).1 hg), h.spot⟩
theorem Out.push {B : Nat → Prop} {H0 G : AH} {b : Option Addr} {n : Nat} {P : List (List UInt8)} (h : Out B H0 G b n P) (hn : n ≤ 1000000000) (p : List UInt8) :
  ∃ b' G', appendV 1 16 (G.new 1 [.string (bs p)]) (.slice b n n) (.slice (some ⟨G.next, 0, none⟩) 1 1) = some (.slice b' (n + 1) (n + 1), G') ∧ Out B H0 G' b' (n + 1) (P ++ [p]) ∧ Keep (rootB G b) G G' := by
 have l1 := new_le h.keep.wf 1 [.string (bs p)]
 have h1 := h.le l1
 obtain ⟨b2, G2, a1, a2, a3, a4, ⟨h2, i2, a5⟩⟩ := append_ok l1.wf (sz := 1) (bytes := 16) (by omega) h1.sli (x := .slice (some ⟨G.next, 0, none⟩) 1 1) (m := 1) (news := [.string (bs p)]) rfl (src_slice rfl fun j _ => by rw [Nat.zero_add, new_load]) (by omega) rfl (by simp [oneCell]) (by omega) (by omega)
 refine ⟨b2, G2, a1, ⟨?_, by simpa [strs] using a2, fun g hg => ?_, fun a ha => ?_⟩, ?_⟩
 ·refine Keep.trans h1.keep a3 fun g hg hh => ?_
  rcases h1.root g hh with hb | hb
  ·exact hb
  ·omega
 ·rcases a4 g hg with hh | hh
  ·exact h1.root g hh
  ·right; have := h1.keep.next; omega
 ·rw [a5] at ha; injection ha with ha; subst ha; rfl
 ·refine Keep.trans l1.keep a3 fun g hg hh => ?_
  exact (rootB_keep h.keep.wf l1 h.sli g).1 hh
theorem Out.base {B : Nat → Prop} {H0 G : AH} {b : Option Addr} {n : Nat} {P : List (List UInt8)} (h : Out B H0 G b n P) : Out (rootB G b) G G b n P :=
 ⟨Keep.refl h.keep.wf, h.sli, fun _ hg => .inl hg, h.spot⟩
theorem Out.back {B : Nat → Prop} {H0 G G2 : AH} {b b2 : Option Addr} {n n2 : Nat} {P P2 : List (List UInt8)} (h : Out B H0 G b n P) (h2 : Out (rootB G b) G G2 b2 n2 P2) : Out B H0 G2 b2 n2 P2 := by
 refine ⟨Keep.trans h.keep h2.keep fun g hg hh => ?_, h2.sli, fun g hg => ?_, h2.spot⟩
 ·rcases h.root g hh with hb | hb
  ·exact hb
  ·omega
 ·rcases h2.root g hg with hb | hb
  ·exact h.root g hb
  ·right; have := h.keep.next; omega
theorem new_rdI (G : AH) (ns : List Int) : Rd (G.new 1 (ns.map I)) 1 (some ⟨G.next, 0, none⟩) ns.length (ints1 ns) := by
 refine ⟨by simp [ints1], fun i r hi => ?_⟩
 simp only [ints1, List.getElem?_map] at hi
 cases hv : ns[i]? with
 | none => rw [hv] at hi; cases hi
 | some v =>
  rw [hv] at hi
  simp only [Option.map_some, Option.some.injEq] at hi
  subst hi
  refine ⟨_, _, rfl, fun k hk => ?_⟩
  obtain rfl : k = 0 := by omega
  refine ⟨?_, rfl⟩
  rw [Nat.zero_add, Nat.mul_one, Nat.add_zero, new_load, List.getElem?_map, hv]; rfl
section
variable {pm : Prims}
theorem l23_3 (hp : Only pm) {l : List Pkt} (hl : ∀ p ∈ l, p.nb) {tb : Option Addr} {tn tk : Nat} {H : AH} {Q : Value → AH → Prop} (hw : WF H) (hx : RdX H tb tn l) {P0 : List (List UInt8)} (hn0 : P0.length + l.length ≤ 100000000)
  (hQ : ∀ H' b n, Out none' H H' b n (P0 ++ l.map Pkt.line) → Q (.slice b n n) H') :
  ∀ d i G b n, i + d = l.length → Out none' H G b n (P0 ++ (l.take i).map Pkt.line) → f23L3 (OK pm) Q tb tn tk b n n (i : Int) G := by
 have htn : tn = l.length := hx.1
 intro d
 induction d with
 | zero =>
  intro i G b n hi ho
  apply f23L3_step
  simp only [f23B3]
  rw [decide_eq_false (by omega), ifB_false]
  rw [List.take_of_length_le (by omega)] at ho
  exact hQ G b n ho
 | succ d ih =>
  intro i G b n hi ho
  obtain ⟨p, hip⟩ : ∃ p, l[i]? = some p := ⟨_, List.getElem?_eq_getElem (by omega)⟩
  obtain ⟨hp1, hp2⟩ := hl p (List.mem_of_getElem? hip)
  have hg := ho.keep
  obtain ⟨h, j, db, dn, dk, e1, e2, e3, hsp⟩ := (hx.le hw hg).elem (k := tk) hip
  apply f23L3_step
  simp only [f23B3]
  rw [decide_eq_true (by omega), ifB_true, e1, obA_some]
  simp only [obA_some, e2 0 (by omega), e2 1 (by omega), e2 2 (by omega), e2 3 (by omega)]
  unfold Pkt.cells at e2
  simp only [Pkt.cells, List.getElem?_cons_zero, List.getElem?_cons_succ, obI_some, letH_eq]
  have l1 := new_le hg.wf 1 [I p.at', I p.term, I p.bear, I p.dir]
  have f : ∀ k, k < 5 → (G.new 1 [I p.at', I p.term, I p.bear, I p.dir]).load h (j + k) = ([I p.at', I p.term, I p.bear, I p.dir, .slice db dn dk] : List Value)[k]? := fun k hk => by
   have h5 := e2 k hk
   have : k < ([I p.at', I p.term, I p.bear, I p.dir, .slice db dn dk] : List Value).length := hk
   rw [List.getElem?_eq_getElem this] at h5 ⊢
   exact l1.load hg.wf h5
  rw [f 4 (by omega)]
  simp only [List.getElem?_cons_zero, List.getElem?_cons_succ, obL_some]
  refine c45 (w := wPacket) hp hp1 (by decide) (by simp [Pkt.nums]) l1.wf (new_rdI G p.nums) fun G1 g1 => ?_
  have hlen := spaced_len (ns := p.nums) hp1
  have hwl : (lineOf wPacket p.nums).length ≤ 100 := by
   simp only [lineOf, List.length_append]
   have : p.nums.length = 4 := rfl
   have : wPacket.length = 6 := rfl
   omega
  rw [obS_some, aStr_add (by simp; omega), obS_some]
  refine c46 hp hp2 g1.wf ((e3.le hg.wf l1).le l1.wf g1) fun G2 g2 => ?_
  rw [obS_some, aStr_add (by simp [hexOf_len]; omega), obS_some]
  have o2 := ((ho.le l1).le g1).le g2
  have hn : n ≤ 100000000 := by
   have := ho.len; simp at this; omega
  obtain ⟨b', G', a1, a2, a3⟩ := o2.push (by omega) (lineOf wPacket p.nums ++ [32] ++ hexOf p.data)
  rw [a1, obG_some]
  have f2 : ∀ k, k < 5 → G1.load h (j + k) = ([I p.at', I p.term, I p.bear, I p.dir, .slice db dn dk] : List Value)[k]? := fun k hk => by
   have h5 := f k hk
   have : k < ([I p.at', I p.term, I p.bear, I p.dir, .slice db dn dk] : List Value).length := hk
   rw [List.getElem?_eq_getElem this] at h5 ⊢
   exact g1.load l1.wf h5
  rw [f 0 (by omega), f 1 (by omega), f 2 (by omega), f 3 (by omega), f2 4 (by omega)]
  simp only [List.getElem?_cons_zero, List.getElem?_cons_succ, obE1_int, obE1_slice hsp]
  rw [wrap_of (by omega) (by omega)]
  refine ih (i + 1) G' b' (n + 1) (by omega) ?_
  rw [List.take_add_one, hip, Option.toList_some, List.map_append, ← List.append_assoc]
  rw [show (List.map Pkt.line [p]) = [lineOf wPacket p.nums ++ [32] ++ hexOf p.data] by simp [Pkt.line]]
  exact a2
end
end AM
end Go.Proofs.YtemcmblcogljkaaGreatDoor

namespace Go.Proofs.YtemcmblcogljkaaGreatDoor
namespace AM
open Go
open Go.Lib (decDigits itoa nDigits)
open TP
structure Fresh (H : AH) (h : Nat) (vs : List Value) : Prop where
 own : Own H h vs.length
 root : rootOf H h = h
 vals : ∀ j, H.load h j = vs[j]?
theorem Fresh.new (H : AH) (sz : Nat) (cs : List Value) : Fresh (H.new sz cs) H.next cs := ⟨new_own H sz cs, new_root H sz cs, new_load H sz cs⟩
theorem Fresh.keep {F : Nat → Prop} {H H' : AH} (hw : WF H) (hk : Keep F H H') {h : Nat} {vs : List Value} (hf : Fresh H h vs) (hn : ¬ F h) : Fresh H' h vs := by
 have hlt := hf.own.lt hw
 have hr : ¬ F (rootOf H h) := by rw [hf.root]; exact hn
 exact ⟨hf.own.keep hw hk hr, by rw [hk.root hlt, hf.root], fun j => by rw [Keep.load hw hk hlt hr, hf.vals]⟩
theorem Fresh.le {H H' : AH} (hw : WF H) (hk : Le H H') {h : Nat} {vs : List Value} (hf : Fresh H h vs) : Fresh H' h vs := hf.keep hw hk fun hh => hh
theorem Fresh.store {H : AH} (hw : WF H) {h : Nat} {vs vs' : List Value} (hf : Fresh H h vs) (hl : vs'.length = vs.length) (hv : ∀ v ∈ vs', oneCell v = true) :
  ∃ H', H.storeN h 0 vs' = some H' ∧ Keep (fun g => g = h) H H' ∧ Fresh H' h vs' ∧ H'.next = H.next := by
 obtain ⟨H', h1, h2, h3, h4, h5⟩ := storeN_ok hw hf.own (i := 0) (vs := vs') (by omega) hv
 rw [hf.root] at h2
 refine ⟨H', h1, h2, ⟨by rw [hl]; exact h3, by rw [h2.root (hf.own.lt hw), hf.root], fun j => ?_⟩, h4⟩
 rw [h5]
 by_cases h : 0 ≤ j ∧ j < 0 + vs'.length
 ·rw [if_pos h]; rfl
 ·rw [if_neg h, hf.vals, List.getElem?_eq_none (by omega), List.getElem?_eq_none (by omega)]
theorem Le.cells {G X : AH} (hw : WF G) (hl : Le G X) {h j n : Nat} {cs : List Value} (hc : ∀ k, k < n → G.load h (j + k) = cs[k]?) (hn : n ≤ cs.length) : ∀ k, k < n → X.load h (j + k) = cs[k]? := fun k hk => by
 have h5 := hc k hk
 rw [List.getElem?_eq_getElem (by omega)] at h5 ⊢
 exact hl.load hw h5
theorem Le.over {G X Y : AH} {h : Nat} (hl : Le G X) (hk : Keep (fun g => g = h) X Y) (hh : G.next ≤ h) : Le G Y := Keep.trans hl hk fun g hg e => by omega
section
variable {pm : Prims}
theorem l23_2 (hp : Only pm) {t : Trm} (ht : t.shaped) (htn : t.nb) {tb : Option Addr} {tn tk t2h t9h i8 : Nat} {bb kb : Option Addr} {bn bk kn kk : Nat} {B : Nat → Prop} {H0 : AH} {Q : Value → AH → Prop} {P0 : List (List UInt8)}
  (LT : ∀ G, Keep B H0 G → ∀ k, k < 14 → G.load t9h (0 + k) = (t.cells bb bn bk kb kn kk)[k]?) (RB : ∀ G, Keep B H0 G → Rd G 11 bb bn (recs t.bears)) (RK : ∀ G, Keep B H0 G → Rd G 4 kb kn (recs t.bucks)) (sb : ∀ a, bb = some a → a.spot = none)
  (hn0 : P0.length + t.bears.length ≤ 100000000)
  (fin : ∀ G b n, Out B H0 G b n (P0 ++ (List.range t.bears.length).map t.bear) → (LoopP (f23W1 (OK pm) Q)) (f23S1 tb tn tk t2h b n n (IntKind.wrap .i64 ((i8 : Int) + 1)) G)) :
  ∀ d i G b n, i + d = t.bears.length → Out B H0 G b n (P0 ++ (List.range i).map t.bear) → f23L2 (OK pm) Q (LoopP (f23W1 (OK pm) Q)) tb tn tk t2h b n n (i8 : Int) t9h (i : Int) G := by
 intro d
 induction d with
 | zero =>
  intro i G b n hi ho
  have hbn : bn = t.bears.length := by have := (RB G ho.keep).1; simpa [recs] using this
  apply f23L2_step
  simp only [f23B2]
  rw [LT G ho.keep 2 (by omega)]
  simp only [Trm.cells, List.getElem?_cons_zero, List.getElem?_cons_succ, obL_some]
  rw [decide_eq_false (by omega), ifB_false]
  rw [show i = t.bears.length by omega] at ho
  exact fin G b n ho
 | succ d ih =>
  intro i G b n hi ho
  have hg := ho.keep
  have hbn : bn = t.bears.length := by have := (RB G ho.keep).1; simpa [recs] using this
  have hkn : kn = t.bucks.length := by have := (RK G ho.keep).1; simpa [recs] using this
  obtain ⟨r, hir⟩ : ∃ r, t.bears[i]? = some r := ⟨_, List.getElem?_eq_getElem (by omega)⟩
  have hrm := List.mem_of_getElem? hir
  obtain ⟨p0, p1, p2, p3, p4, p5, p6, p7, p8, p9, p10, rfl⟩ := eleven (ht.1 r hrm)
  obtain ⟨h, j, e1, e2⟩ := (RB G hg).elem (k := bk) (recs_get hir) (kk := .i64)
  have e2' : ∀ k, k < 11 → G.load h (j + k) = ([I p0, I p1, I p2, I p3, I p4, I p5, I p6, I p7, I p8, I p9, I p10] : List Value)[k]? := e2
  have LG := LT G hg
  have hn : n ≤ 100000000 := by have := ho.len; simp at this; omega
  apply f23L2_step
  simp only [f23B2]
  rw [LG 2 (by omega)]
  simp only [Trm.cells, List.getElem?_cons_zero, List.getElem?_cons_succ, obL_some]
  rw [decide_eq_true (by omega), ifB_true, e1]
  simp only [obA_some, Nat.add_assoc j, Nat.reduceAdd]
  rw [e2' 0 (by omega), e2' 1 (by omega), e2' 2 (by omega), e2' 3 (by omega), e2' 4 (by omega), e2' 5 (by omega), e2' 6 (by omega), e2' 7 (by omega), e2' 8 (by omega), e2' 9 (by omega), e2' 10 (by omega)]
  simp only [List.getElem?_cons_zero, List.getElem?_cons_succ, obI_some, letH_eq]
  have l1 := new_le hg.wf 0 [I 0, I 0, I 0, I 0, I 0, I 0, I 0, I 0, I 0, I 0, I 0]
  have l2 := new_le l1.wf 0 [I 0, I 0, I 0, I 0, I 0, I 0]
  have l3 := new_le l2.wf 0 [I 0, I 0, I 0, I 0]
  have F1 := ((Fresh.new G 0 [I 0, I 0, I 0, I 0, I 0, I 0, I 0, I 0, I 0, I 0, I 0]).le l1.wf l2).le l2.wf l3
  have F2 := (Fresh.new (G.new 0 [I 0, I 0, I 0, I 0, I 0, I 0, I 0, I 0, I 0, I 0, I 0]) 0 [I 0, I 0, I 0, I 0, I 0, I 0]).le l2.wf l3
  have F3 := Fresh.new ((G.new 0 [I 0, I 0, I 0, I 0, I 0, I 0, I 0, I 0, I 0, I 0, I 0]).new 0 [I 0, I 0, I 0, I 0, I 0, I 0]) 0 [I 0, I 0, I 0, I 0]
  have nx1 : (G.new 0 [I 0, I 0, I 0, I 0, I 0, I 0, I 0, I 0, I 0, I 0, I 0]).next = G.next + 1 := rfl
  have nx2 : ((G.new 0 [I 0, I 0, I 0, I 0, I 0, I 0, I 0, I 0, I 0, I 0, I 0]).new 0 [I 0, I 0, I 0, I 0, I 0, I 0]).next = G.next + 2 := rfl
  rw [nx1] at F2
  rw [nx2] at F3
  have g3 := (l1.trans l2).trans l3
  obtain ⟨S1, s1, k1, F1a, n1⟩ := F1.store l3.wf (vs' := [I p0, I p1, I p2, I p3, I p4, I p5, I p6, I p7, I p8, I p9, I p10]) rfl (by simp [oneCell])
  have F2a := F2.keep l3.wf k1 (by omega)
  have F3a := F3.keep l3.wf k1 (by omega)
  obtain ⟨S2, s2, k2, F2b, n2⟩ := F2a.store k1.wf (vs' := [I p5, I p6, I p7, I p8, I p9, I p10]) rfl (by simp [oneCell])
  have F1b := F1a.keep k1.wf k2 (by omega)
  have F3b := F3a.keep k1.wf k2 (by omega)
  obtain ⟨S3, s3, k3, F3c, n3⟩ := F3b.store k2.wf (vs' := [I 0, I 0, I 0, I 0]) rfl (by simp [oneCell])
  have F1c := F1b.keep k2.wf k3 (by omega)
  have F2c := F2b.keep k2.wf k3 (by omega)
  have gS1 := g3.over k1 (Nat.le_refl _)
  have gS2 := gS1.over k2 (by omega)
  have gS3 := gS2.over k3 (by omega)
  rw [nx1, nx2, s1, obH_some, s2, obH_some, s3, obH_some]
  have c3 := g3.cells hg.wf e2' (by simp)
  have cS1 := gS1.cells hg.wf e2' (by simp)
  have t3 := g3.cells hg.wf LG (by simp [Trm.cells])
  have tS1 := gS1.cells hg.wf LG (by simp [Trm.cells])
  have tS3 := gS3.cells hg.wf LG (by simp [Trm.cells])
  rw [t3 2 (by omega), tS1 2 (by omega)]
  rw [c3 0 (by omega), c3 1 (by omega), c3 2 (by omega), c3 3 (by omega), c3 4 (by omega), c3 5 (by omega), c3 6 (by omega), c3 7 (by omega), c3 8 (by omega), c3 9 (by omega), c3 10 (by omega)]
  rw [cS1 5 (by omega), cS1 6 (by omega), cS1 7 (by omega), cS1 8 (by omega), cS1 9 (by omega), cS1 10 (by omega)]
  rw [tS3 3 (by omega)]
  simp only [Trm.cells, List.getElem?_cons_zero, List.getElem?_cons_succ, obE1_int, obE1_slice sb, obL_some]
  -- the line and the rest
  have rest : ∀ (q0 q1 q2 q3 : Int) (S : AH), Le G S → t.bear i = lineOf wBearer [p0, p1, p2, p3, p4, p5, p6, p7, p8, p9, p10, q0, q1, q2, q3] → (∀ n ∈ [q0, q1, q2, q3], nb n) →
    OK pm 45 ⟨[.string (bs [98, 101, 97, 114, 101, 114]), .slice (some ⟨S.next, 0, none⟩) 15 15]⟩ (S.new 1 [I p0, I p1, I p2, I p3, I p4, I p5, I p6, I p7, I p8, I p9, I p10, I q0, I q1, I q2, I q3]) fun v53 H54 =>
     obS (some v53) fun s55 =>
     obG (appendV 1 16 (H54.new 1 [.string s55]) (.slice b n n) (.slice (some ⟨H54.next, 0, none⟩) 1 1)) fun b57 n57 k57 H58 =>
     f23J0 (OK pm) Q (LoopP (f23W1 (OK pm) Q)) (LoopP (f23W2 (OK pm) Q (LoopP (f23W1 (OK pm) Q)))) tb tn tk t2h b57 n57 k57 (i8 : Int) t9h (i : Int) H58 := by
   intro q0 q1 q2 q3 S gS hline hq
   have l4 := new_le gS.wf 1 [I p0, I p1, I p2, I p3, I p4, I p5, I p6, I p7, I p8, I p9, I p10, I q0, I q1, I q2, I q3]
   refine c45 (w := wBearer) (ns := [p0, p1, p2, p3, p4, p5, p6, p7, p8, p9, p10, q0, q1, q2, q3]) hp (fun m hm => ?_) (by decide) (by simp) l4.wf (new_rdI S [p0, p1, p2, p3, p4, p5, p6, p7, p8, p9, p10, q0, q1, q2, q3]) fun G1 g1 => ?_
   ·have := htn.2.1 _ hrm
    rw [show [p0, p1, p2, p3, p4, p5, p6, p7, p8, p9, p10, q0, q1, q2, q3] = [p0, p1, p2, p3, p4, p5, p6, p7, p8, p9, p10] ++ [q0, q1, q2, q3] from rfl] at hm
    rcases List.mem_append.1 hm with hm | hm
    ·exact this m hm
    ·exact hq m hm
   ·rw [obS_some]
    have o2 := ((ho.le gS).le l4).le g1
    obtain ⟨b', G', a1, a2, a3⟩ := o2.push (by omega) (lineOf wBearer [p0, p1, p2, p3, p4, p5, p6, p7, p8, p9, p10, q0, q1, q2, q3])
    rw [a1, obG_some, f23J0_eq]
    simp only [f23K0]
    rw [wrap_of (by omega) (by omega)]
    refine ih (i + 1) G' b' (n + 1) (by omega) ?_
    rw [List.range_succ, List.map_append, ← List.append_assoc]
    rw [show List.map t.bear [i] = [t.bear i] from rfl, hline]
    exact a2
  have hb : t.bears.getD i [] = [p0, p1, p2, p3, p4, p5, p6, p7, p8, p9, p10] := by rw [List.getD_eq_getElem?_getD, hir]; rfl
  refine ifB_intro (fun hk => ?_) (fun hk => ?_)
  ·simp only [decide_eq_true_eq] at hk
   obtain ⟨q, hiq⟩ : ∃ q, t.bucks[i]? = some q := ⟨_, List.getElem?_eq_getElem (by omega)⟩
   have hqm := List.mem_of_getElem? hiq
   obtain ⟨q0, q1, q2, q3, rfl⟩ := four (ht.2 q hqm)
   have gK : Keep B H0 S3 := Keep.trans hg gS3 fun _ _ hh => hh.elim
   obtain ⟨h', j', e3, e4⟩ := (RK S3 gK).elem (k := kk) (recs_get hiq) (kk := .i64)
   rw [e3]
   simp only [obA_some]
   rw [e4 0 (by omega), e4 1 (by omega), e4 2 (by omega), e4 3 (by omega)]
   simp only [List.map_cons, List.map_nil, List.getElem?_cons_zero, List.getElem?_cons_succ, obI_some]
   obtain ⟨S4, s4, k4, F3d, n4⟩ := F3c.store k3.wf (vs' := [I q0, I q1, I q2, I q3]) rfl (by simp [oneCell])
   have F1d := F1c.keep k3.wf k4 (by omega)
   have F2d := F2c.keep k3.wf k4 (by omega)
   have gS4 := gS3.over k4 (by omega)
   rw [s4, obH_some]
   simp only [Nat.zero_add, F1d.vals, F2d.vals, F3d.vals, List.getElem?_cons_zero, List.getElem?_cons_succ, obI_some]
   refine rest q0 q1 q2 q3 S4 gS4 ?_ (fun m hm => htn.2.2 _ hqm m hm)
   rw [Trm.bear, hb, List.getD_eq_getElem?_getD, hiq]; rfl
  ·simp only [decide_eq_false_iff_not] at hk
   simp only [Nat.zero_add, F1c.vals, F2c.vals, F3c.vals, List.getElem?_cons_zero, List.getElem?_cons_succ, obI_some]
   refine rest 0 0 0 0 S3 gS3 ?_ (fun m hm => ?_)
   ·rw [Trm.bear, hb, List.getD_eq_getElem?_getD, List.getElem?_eq_none (by omega)]; rfl
   ·simp at hm; subst hm; unfold nb; omega
end
end AM
end Go.Proofs.YtemcmblcogljkaaGreatDoor

namespace Go.Proofs.YtemcmblcogljkaaGreatDoor
namespace AM
open Go
open Go.Lib (decDigits itoa nDigits)
open TP
section
variable {pm : Prims}
theorem Trm.lines_len (t : Trm) : t.lines.length = t.bears.length + 1 := by simp [Trm.lines]
theorem l23_1 (hp : Only pm) {c : Cfg} (hc : c.shaped) (hcn : c.nb) {tb fb xb : Option Addr} {tn tk fn fk xn xk t2h : Nat} {H1 : AH} {Q : Value → AH → Prop} {P0 : List (List UInt8)} (hw : WF H1)
  (LC : ∀ G, Le H1 G → ∀ k, G.load t2h k = (c.vals fb fn fk tb tn tk)[k]?) (htt : RdT H1 tb tn c.terms) (hT : c.terms.length ≤ 100000000) {N : Nat} (hN : N ≤ 100000000) (hn0 : (P0 ++ c.terms.flatMap Trm.lines).length ≤ N)
  (fin : ∀ G b n, Out none' H1 G b n (P0 ++ c.terms.flatMap Trm.lines) → f23L3 (OK pm) Q xb xn xk b n n 0 G) :
  ∀ d i G b n, i + d = c.terms.length → Out none' H1 G b n (P0 ++ (c.terms.take i).flatMap Trm.lines) → f23L1 (OK pm) Q xb xn xk t2h b n n (i : Int) G := by
 have htn : tn = c.terms.length := htt.1
 intro d
 induction d with
 | zero =>
  intro i G b n hi ho
  apply f23L1_step
  simp only [f23B1, LC G ho.keep, Nat.zero_add, Cfg.vals, List.getElem?_cons_zero, List.getElem?_cons_succ, obL_some]
  rw [decide_eq_false (by omega), ifB_false]
  rw [List.take_of_length_le (by omega)] at ho
  exact fin G b n ho
 | succ d ih =>
  intro i G b n hi ho
  obtain ⟨t, hit⟩ : ∃ t, c.terms[i]? = some t := ⟨_, List.getElem?_eq_getElem (by omega)⟩
  have htm := List.mem_of_getElem? hit
  have hg := ho.keep
  obtain ⟨h, j, bb, bn, bk, kb, kn, kk, e1, e2H, e3, e4, sb, _⟩ := htt.elem (k := tk) hit
  have e2 := Le.cells hw hg e2H (by simp [Trm.cells])
  have hnn := ho.len
  have htot : (P0 ++ (c.terms.take i).flatMap Trm.lines).length + t.lines.length ≤ N := by
   have e : (P0 ++ c.terms.flatMap Trm.lines).length = (P0 ++ (c.terms.take i).flatMap Trm.lines).length + t.lines.length + ((c.terms.drop (i + 1)).flatMap Trm.lines).length := by
    conv => lhs; rw [← List.take_append_drop i c.terms]
    rw [List.drop_eq_getElem_cons (by omega), (List.getElem?_eq_some_iff.1 hit).2, List.flatMap_append, List.flatMap_cons]
    simp only [List.length_append]
    omega
   omega
  rw [t.lines_len] at htot
  apply f23L1_step
  simp only [f23B1, LC G ho.keep, Nat.zero_add, Cfg.vals, List.getElem?_cons_zero, List.getElem?_cons_succ, obL_some]
  rw [decide_eq_true (by omega), ifB_true, e1, obA_some]
  rw [e2 0 (by omega), e2 1 (by omega), e2 2 (by omega), e2 3 (by omega), e2 4 (by omega), e2 5 (by omega), e2 6 (by omega), e2 7 (by omega), e2 8 (by omega), e2 9 (by omega), e2 10 (by omega), e2 11 (by omega), e2 12 (by omega), e2 13 (by omega)]
  simp only [Trm.cells, List.getElem?_cons_zero, List.getElem?_cons_succ, obI_some, obL_some, letH_eq]
  have l1 := new_le hg.wf 0 [I 0, I 0, .slice none 0 0, .slice none 0 0, I 0, I 0, I 0, I 0, I 0, I 0, I 0, I 0, I 0, I 0]
  obtain ⟨S1, s1, k1, F1, n1⟩ := (Fresh.new G 0 [I 0, I 0, .slice none 0 0, .slice none 0 0, I 0, I 0, I 0, I 0, I 0, I 0, I 0, I 0, I 0, I 0]).store l1.wf (vs' := t.cells bb bn bk kb kn kk) rfl (by simp [Trm.cells, oneCell])
  have gS1 := l1.over k1 (Nat.le_refl _)
  unfold Trm.cells at s1 F1
  rw [s1, obH_some]
  simp only [Nat.reduceAdd, F1.vals, List.getElem?_cons_zero, List.getElem?_cons_succ, obI_some]
  have l2 := new_le k1.wf 0 [I 0, I 0, I 0]
  have l3 := new_le l2.wf 0 [I 0, I 0, I 0, I 0, I 0, I 0]
  have F2 := (Fresh.new S1 0 [I 0, I 0, I 0]).le l2.wf l3
  have F3 := Fresh.new (S1.new 0 [I 0, I 0, I 0]) 0 [I 0, I 0, I 0, I 0, I 0, I 0]
  have nx2 : (S1.new 0 [I 0, I 0, I 0]).next = S1.next + 1 := rfl
  have nxS : S1.next = G.next + 1 := n1
  rw [nx2] at F3
  have F1a := (F1.le k1.wf l2).le l2.wf l3
  have gA := (gS1.trans l2).trans l3
  obtain ⟨S2, s2, k2, F2b, n2⟩ := F2.store l3.wf (vs' := [I t.gf, I t.gw, I t.gb]) rfl (by simp [oneCell])
  have F1b := F1a.keep l3.wf k2 (by omega)
  have F3b := F3.keep l3.wf k2 (by omega)
  obtain ⟨S3, s3, k3, F3c, n3⟩ := F3b.store k2.wf (vs' := [I t.rc, I t.ro, I t.rn, I t.rl, I t.rs, I t.rk]) rfl (by simp [oneCell])
  have F1c := F1b.keep k2.wf k3 (by omega)
  have F2c := F2b.keep k2.wf k3 (by omega)
  have gS2 := gA.over k2 (by omega)
  have gS3 := gS2.over k3 (by omega)
  rw [nx2, s2, obH_some, s3, obH_some]
  simp only [F1a.vals, F1b.vals, F1c.vals, F2c.vals, F3c.vals, List.getElem?_cons_zero, List.getElem?_cons_succ, obI_some, obE1_int]
  have l4 := new_le gS3.wf 1 (t.nums.map I)
  refine c45 (w := wTerminal) (ns := t.nums) hp (hcn.2.2 t htm).1 (by decide) (by simp [Trm.nums]) l4.wf (new_rdI S3 t.nums) fun G1 g1 => ?_
  rw [obS_some]
  have o2 := ((ho.le gS3).le l4).le g1
  obtain ⟨b', G', a1, a2b, a3⟩ := o2.base.push (by omega) (lineOf wTerminal t.nums)
  have a2 := o2.back a2b
  rw [a1, obG_some]
  have hroot : ∀ g, rootB G1 b g → g < G.next := fun g hh => by
   have h1 := (rootB_keep hg.wf ((gS3.trans l4).trans g1) ho.sli g).1 hh
   exact rootB_lt hg.wf ho.sli h1
  have F1d := ((F1c.le gS3.wf l4).le l4.wf g1).keep g1.wf a3 fun hh => by have := hroot _ hh; omega
  have hB : ∀ g, rootB G' b' g → H1.next ≤ g := fun g hh => by rcases a2.root g hh with e | e; exact e.elim; exact e
  have hBt : ¬ rootB G' b' G.next := fun hh => by
   have hlt := ((F1c.le gS3.wf l4).le l4.wf g1).own.lt g1.wf
   rcases a2b.root _ hh with e | e
   ·have := hroot _ e; omega
   ·omega
  have toLe : ∀ X, Keep (rootB G' b') G' X → Le H1 X := fun X hX => Keep.trans a2.keep hX fun g hgl hh => by have := hB g hh; omega
  refine l23_2 hp (hc.2 t htm) (hcn.2.2 t htm) (B := rootB G' b') (H0 := G') (P0 := P0 ++ (c.terms.take i).flatMap Trm.lines ++ [lineOf wTerminal t.nums]) (bb := bb) (bn := bn) (bk := bk) (kb := kb) (kn := kn) (kk := kk) (fun X hX k hk => ?_) (fun X hX => e3.le hw (toLe X hX)) (fun X hX => e4.le hw (toLe X hX)) sb (by simp only [List.length_append, List.length_cons, List.length_nil] at htot ⊢; omega) (fun X b2 n2 o3 => ?_) t.bears.length 0 G' b' (n + 1) (by omega) ?_
  ·have := (F1d.keep a3.wf hX hBt).vals k
   rw [Nat.zero_add, this]; rfl
  ·rw [wrap_of (by omega) (by omega)]
   refine ih (i + 1) X b2 n2 (by omega) ?_
   have := a2.back o3
   rw [List.take_add_one, hit, Option.toList_some, List.flatMap_append]
   rw [show List.flatMap Trm.lines [t] = [lineOf wTerminal t.nums] ++ (List.range t.bears.length).map t.bear by simp [Trm.lines]]
   simpa [List.append_assoc] using this
  ·simpa using a2.base
theorem l23_0 (hp : Only pm) {c : Cfg} (hc : c.shaped) (hcn : c.nb) {tb fb xb : Option Addr} {tn tk fn fk xn xk t2h : Nat} {H1 : AH} {Q : Value → AH → Prop} {P0 : List (List UInt8)} (hw : WF H1)
  (LC : ∀ G, Le H1 G → ∀ k, G.load t2h k = (c.vals fb fn fk tb tn tk)[k]?) (hff : Rd H1 5 fb fn (recs c.fades)) {N : Nat} (hN : N ≤ 100000000) (hn0 : P0.length + c.fades.length ≤ N)
  (fin : ∀ G b n, Out none' H1 G b n (P0 ++ c.fades.map (lineOf wFade)) → f23L1 (OK pm) Q xb xn xk t2h b n n 0 G) :
  ∀ d i G b n, i + d = c.fades.length → Out none' H1 G b n (P0 ++ (c.fades.take i).map (lineOf wFade)) → f23L0 (OK pm) Q xb xn xk t2h b n n (i : Int) G := by
 have hfn : fn = c.fades.length := by have := hff.1; simpa [recs] using this
 intro d
 induction d with
 | zero =>
  intro i G b n hi ho
  apply f23L0_step
  simp only [f23B0, LC G ho.keep, Nat.zero_add, Cfg.vals, List.getElem?_cons_zero, List.getElem?_cons_succ, obL_some]
  rw [decide_eq_false (by omega), ifB_false]
  rw [List.take_of_length_le (by omega)] at ho
  exact fin G b n ho
 | succ d ih =>
  intro i G b n hi ho
  obtain ⟨r, hir⟩ : ∃ r, c.fades[i]? = some r := ⟨_, List.getElem?_eq_getElem (by omega)⟩
  have hrm := List.mem_of_getElem? hir
  obtain ⟨p0, p1, p2, p3, p4, rfl⟩ := five (hc.1 r hrm)
  have hg := ho.keep
  obtain ⟨h, j, e1, e2⟩ := (hff.le hw hg).elem (k := fk) (recs_get hir) (kk := .i64)
  have hnn := ho.len
  apply f23L0_step
  simp only [f23B0, LC G ho.keep, Nat.zero_add, Cfg.vals, List.getElem?_cons_zero, List.getElem?_cons_succ, obL_some]
  rw [decide_eq_true (by omega), ifB_true, e1, obA_some]
  rw [e2 0 (by omega), e2 1 (by omega), e2 2 (by omega), e2 3 (by omega), e2 4 (by omega)]
  simp only [List.map_cons, List.map_nil, List.getElem?_cons_zero, List.getElem?_cons_succ, obI_some, letH_eq]
  have l1 := new_le hg.wf 0 [I 0, I 0, I 0, I 0, I 0]
  obtain ⟨S1, s1, k1, F1, n1⟩ := (Fresh.new G 0 [I 0, I 0, I 0, I 0, I 0]).store l1.wf (vs' := [I p0, I p1, I p2, I p3, I p4]) rfl (by simp [oneCell])
  have gS1 := l1.over k1 (Nat.le_refl _)
  rw [s1, obH_some]
  simp only [F1.vals, List.getElem?_cons_zero, List.getElem?_cons_succ, obI_some]
  have l4 := new_le gS1.wf 1 [I p0, I p1, I p2, I p3, I p4]
  refine c45 (w := wFade) (ns := [p0, p1, p2, p3, p4]) hp (hcn.2.1 _ hrm) (by decide) (by simp) l4.wf (new_rdI S1 [p0, p1, p2, p3, p4]) fun G1 g1 => ?_
  rw [obS_some]
  have o2 := ((ho.le gS1).le l4).le g1
  have hnb : n ≤ 100000000 := by simp only [List.length_append, List.length_map, List.length_take] at hnn; omega
  obtain ⟨b', G', a1, a2, a3⟩ := o2.push (by omega) (lineOf wFade [p0, p1, p2, p3, p4])
  have hfl : c.fades.length ≤ 100000000 := by omega
  rw [a1, obG_some, wrap_of (by omega) (by omega)]
  refine ih (i + 1) G' b' (n + 1) (by omega) ?_
  rw [List.take_add_one, hir, Option.toList_some, List.map_append, ← List.append_assoc]
  exact a2
theorem c23 (hp : Only pm) {c : Cfg} (hc : c.shaped) (hcn : c.nb) {l : List Pkt} (hl : ∀ p ∈ l, p.nb) {fb tb xb : Option Addr} {fn fk tn tk xn xk : Nat} {H : AH} {Q : Value → AH → Prop} (hw : WF H) (hf : Rd H 5 fb fn (recs c.fades)) (htt : RdT H tb tn c.terms) (hx : RdX H xb xn l)
  (hN : (textOf c l).length ≤ 100000000)
  (hQ : ∀ H' b n, Out none' H H' b n (textOf c l) → Q (.slice b n n) H') : OK pm 23 ⟨[.agg ⟨c.vals fb fn fk tb tn tk⟩, .slice xb xn xk]⟩ H Q := by
 have hN2 : 4 + c.fades.length + (c.terms.flatMap Trm.lines).length + l.length ≤ 100000000 := by
  simp only [textOf, List.length_append, List.length_map, Cfg.heads, List.length_cons, List.length_nil] at hN; omega
 have hT : c.terms.length ≤ (c.terms.flatMap Trm.lines).length := by
  have : ∀ L : List Trm, L.length ≤ (L.flatMap Trm.lines).length := by
   intro L
   induction L with
   | nil => simp
   | cons t L ih => rw [List.flatMap_cons, List.length_append, t.lines_len, List.length_cons]; omega
  exact this _
 unfold Cfg.vals
 apply f23_ok hp
 have l1 := new_le hw 0 (c.vals fb fn fk tb tn tk)
 have LA : ∀ G, Le (H.new 0 (c.vals fb fn fk tb tn tk)) G → ∀ k, G.load H.next k = (c.vals fb fn fk tb tn tk)[k]? := fun G hg k => by
  rw [Keep.load l1.wf hg (by simp only [new_next]; omega) (fun hh => hh), new_load]
 generalize hH1 : H.new 0 (c.vals fb fn fk tb tn tk) = H1 at l1 LA
 have LR := LA H1 (Keep.refl l1.wf)
 unfold Cfg.vals at hH1
 have m1 := new_le l1.wf 1 ([c.seed, c.cells, c.res, c.delay, c.betw, c.tries, c.pre, c.att, c.back].map I)
 have m2 := new_le m1.wf 1 ([c.pa, c.pb, c.pc].map I)
 have m3 := new_le m2.wf 1 ([c.ra, c.rb, c.rc].map I)
 have m4 := new_le m3.wf 1 ([c.ou, c.od].map I)
 have L2 := LA _ m1
 have L3 := LA _ (m1.trans m2)
 have L4 := LA _ ((m1.trans m2).trans m3)
 have g4 := ((m1.trans m2).trans m3).trans m4
 have L5 := LA _ g4
 simp only [List.map_cons, List.map_nil] at L2 L3 L4 L5
 simp only [f23R, letH_eq, hH1, LR, Nat.zero_add, Nat.reduceAdd, Cfg.vals, List.getElem?_cons_zero, List.getElem?_cons_succ, obI_some, L2, L3, L4, L5]
 refine c45 (w := wNetwork) (ns := [c.seed, c.cells, c.res, c.delay, c.betw, c.tries, c.pre, c.att, c.back]) hp hcn.1.1 (by decide) (by simp) m4.wf ((((new_rdI H1 _).le m1.wf m2).le m2.wf m3).le m3.wf m4) fun G1 g1 => ?_
 rw [obS_some]
 refine c45 (w := wPatience) (ns := [c.pa, c.pb, c.pc]) hp hcn.1.2.1 (by decide) (by simp) g1.wf ((((new_rdI _ [c.pa, c.pb, c.pc]).le m2.wf m3).le m3.wf m4).le m4.wf g1) fun G2 g2 => ?_
 rw [obS_some]
 refine c45 (w := wRule) (ns := [c.ra, c.rb, c.rc]) hp hcn.1.2.2.1 (by decide) (by simp) g2.wf ((((new_rdI _ [c.ra, c.rb, c.rc]).le m3.wf m4).le m4.wf g1).le g1.wf g2) fun G3 g3 => ?_
 rw [obS_some]
 refine c45 (w := wOuter) (ns := [c.ou, c.od]) hp hcn.1.2.2.2 (by decide) (by simp) g3.wf ((((new_rdI _ [c.ou, c.od]).le m4.wf g1).le g1.wf g2).le g2.wf g3) fun G4 g4' => ?_
 rw [obS_some]
 have k1 := g4.trans g1
 have k2 := k1.trans g2
 have k3 := k2.trans g3
 have k4 := k3.trans g4'
 have N1 := LA G1 k1
 have N2 := LA G2 k2
 have N3 := LA G3 k3
 simp only [Cfg.vals] at N1 N2 N3
 simp only [N1, N2, N3, Cfg.vals, List.getElem?_cons_zero, List.getElem?_cons_succ, obE1_int]
 have k5 := new_le k4.wf 1 (strs c.heads)
 have o0 : Out none' H1 (G4.new 1 (strs c.heads)) (some ⟨G4.next, 0, none⟩) 4 c.heads :=
  ⟨k4.trans k5, new_sli G4 1 4 rfl, fun g hg => by simp only [rootB, new_root] at hg; right; have := k4.next; omega, fun a ha => by injection ha with ha; subst ha; rfl⟩
 refine l23_0 hp hc hcn (P0 := c.heads) l1.wf LA (hf.le hw l1) (N := 100000000) (Nat.le_refl _) (by show 4 + _ ≤ _; omega) (fun G b n o1 => ?_) c.fades.length 0 _ _ 4 (by omega) (by rw [List.take_zero, List.map_nil, List.append_nil]; exact o0)
 refine l23_1 hp hc hcn (P0 := c.heads ++ c.fades.map (lineOf wFade)) l1.wf LA (htt.le hw l1) (by omega) (N := 100000000) (Nat.le_refl _) (by simp only [List.length_append, List.length_map, Cfg.heads, List.length_cons, List.length_nil]; omega) (fun G b n o2 => ?_) c.terms.length 0 G b n (by omega) (by simpa using o1)
 refine l23_3 hp hl l1.wf (hx.le hw l1) (P0 := c.heads ++ c.fades.map (lineOf wFade) ++ c.terms.flatMap Trm.lines) (by simp only [List.length_append, List.length_map, Cfg.heads, List.length_cons, List.length_nil]; omega) (fun G' b' n' o3 => hQ G' b' n' ?_) l.length 0 G b n (by omega) (by simpa using o2)
 exact ⟨l1.trans o3.keep, o3.sli, fun g hg => by rcases o3.root g hg with e | e; exact e.elim; right; have := l1.next; omega, o3.spot⟩
end
end AM
end Go.Proofs.YtemcmblcogljkaaGreatDoor

