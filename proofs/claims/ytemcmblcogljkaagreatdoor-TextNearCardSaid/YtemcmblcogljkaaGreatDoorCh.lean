/- The library's functions, as the abstract machine has them. The program reads the numbers of a line. The program's whole lines, places of numbers, and bytes. -/
import Derived.Test.YtemcmblcogljkaaGreatDoorCg
import Derived.Lib.AtoiAllCases
set_option linter.all false
set_option linter.unusedSimpArgs false
set_option linter.unusedVariables false
namespace Go.Proofs.YtemcmblcogljkaaGreatDoor
namespace AM
open Go
open Go.Lib (decDigits itoa nDigits atoiAll atoiSat)
open TP
abbrev tok : Value := .iface 0 (.tuple #[])
def pSplit (a : Array Value) (H : AH) : Option (Value × AH) := match a with
 | ⟨[.string s, .string sep]⟩ => match sep.data.toList with
  | [c] => if s.size < 4294967281 then some (.slice (some ⟨H.next, 0, none⟩) (cutAt c s.data.toList).length (cutAt c s.data.toList).length, H.new 1 (strs (cutAt c s.data.toList))) else none
  | _ => none
 | _ => none
def pItoa (a : Array Value) (H : AH) : Option (Value × AH) := match a with
 | ⟨[.int .i64 n]⟩ => if -9223372036854775808 ≤ n ∧ n ≤ 9223372036854775807 then some (.string (bs (itoa n)), H) else none
 | _ => none
theorem atoi_ends (x : Lib.NumEnd Int) : (∃ n, x = .ok n) ∨ x = .range ∨ x = atoiAll [] := by
 cases x with
 | ok n => exact .inl ⟨n, rfl⟩
 | range => exact .inr (.inl rfl)
 | _ => exact .inr (.inr rfl)
def pAtoi (a : Array Value) (H : AH) : Option (Value × AH) := match a with
 | ⟨[.string s]⟩ => if s.size ≤ 281474976710656 then match atoiAll s.data.toList with
  | .ok n => some (.tuple ⟨[.int .i64 n, .nilIface]⟩, H)
  | .range => some (.tuple ⟨[.int .i64 (atoiSat s.data.toList), tok]⟩, H)
  | _ => some (.tuple ⟨[.int .i64 0, tok]⟩, H)
  else none
 | _ => none
def pCut (a : Array Value) (H : AH) : Option (Value × AH) := match a with
 | ⟨[.string s, .string sep]⟩ => if s.size < 4294967281 then
   some (.tuple ⟨[.string (bs (Lib.cut s.data.toList sep.data.toList).1), .string (bs (Lib.cut s.data.toList sep.data.toList).2.1), .bool (Lib.cut s.data.toList sep.data.toList).2.2]⟩, H) else none
 | _ => none
def pIndex (a : Array Value) (H : AH) : Option (Value × AH) := match a with
 | ⟨[.string s, .int .u8 c]⟩ => some (.int .i64 (Lib.indexByte s.data.toList c.toNat.toUInt8), H)
 | _ => none
def bytesOf : List Value → Option (List UInt8)
 | [] => some []
 | .int .u8 x :: r => if 0 ≤ x ∧ x < 256 then match bytesOf r with
  | some l => some (x.toNat.toUInt8 :: l)
  | none => none else none
 | _ :: _ => none
def stringsOf : List Value → Option (List (List UInt8))
 | [] => some []
 | .string x :: r => match stringsOf r with
  | some l => some (x.data.toList :: l)
  | none => none
 | _ :: _ => none
def pJoin (a : Array Value) (H : AH) : Option (Value × AH) := match a with
 | ⟨[.slice (some ⟨h, i, none⟩) n _, .string sep]⟩ => match H.loadN h i n with
  | none => none
  | some vs => match stringsOf vs with
   | none => none
   | some l => if 0 < n ∧ n ≤ 1000000000 ∧ (Lib.join l sep.data.toList).length ≤ 100000000000000 then some (.string (bs (Lib.join l sep.data.toList)), H) else none
 | _ => none
def pWritten (a : Array Value) (H : AH) : Option (Value × AH) := match a with
 | ⟨[.slice none 0 0]⟩ => some (.string (bs []), H)
 | ⟨[.slice (some ⟨h, i, none⟩) n _]⟩ => match H.loadN h i n with
  | none => none
  | some vs => match bytesOf vs with
   | none => none
   | some l => if n ≤ 1000000000000 then some (.string (bs (hexOf l)), H) else none
 | _ => none
def pAwake (a : Array Value) (H : AH) : Option (Value × AH) := match a with
 | ⟨[]⟩ => some (.bool true, H)
 | _ => none
def pmT : Prims := fun f => match f with
 | 7 => some pAwake
 | 34 => some pSplit
 | 51 => some pItoa
 | 56 => some pCut
 | 87 => some pAtoi
 | 89 => some pIndex
 | 33 => some pJoin
 | 32 => some pWritten
 | _ => none
theorem onlyT : Only pmT := fun f h => by
 unfold pmT
 split <;> first | rfl | (exact absurd h (by decide))
theorem Ok.prim {pm : Prims} {f : FuncId} {p : Array Value → AH → Option (Value × AH)} (hp : pm f = some p) {args : Array Value} {H H' : AH} {v : Value} {Q : Value → AH → Prop} (h : p args H = some (v, H')) (hQ : Q v H') : OK pm f args H Q :=
 ⟨1, v, H', by unfold callF; rw [hp]; exact h, hQ⟩
section
variable {H : AH} {Q : Value → AH → Prop}
theorem c34 {s : List UInt8} {c : UInt8} (hs : s.length < 4294967281) (hQ : Q (.slice (some ⟨H.next, 0, none⟩) (cutAt c s).length (cutAt c s).length) (H.new 1 (strs (cutAt c s)))) : OK pmT 34 ⟨[.string (bs s), .string (bs [c])]⟩ H Q := by
 refine Ok.prim rfl ?_ hQ
 have e : (bs s).size = s.length := rfl
 simp only [pSplit, bs_list, e, if_pos hs]
theorem c7 (hQ : Q (.bool true) H) : OK pmT 7 ⟨[]⟩ H Q := Ok.prim (p := pAwake) rfl rfl hQ
theorem c51 {n : Int} (h0 : -9223372036854775808 ≤ n) (h1 : n ≤ 9223372036854775807) (hQ : Q (.string (bs (itoa n))) H) : OK pmT 51 ⟨[.int .i64 n]⟩ H Q :=
 Ok.prim rfl (by simp only [pItoa, if_pos (And.intro h0 h1)]) hQ
theorem c87 {s : List UInt8} (hs : s.length ≤ 281474976710656) (h0 : ∀ n, atoiAll s = .ok n → Q (.tuple ⟨[.int .i64 n, .nilIface]⟩) H) (h1 : ∀ n, (∀ m, atoiAll s ≠ .ok m) → Q (.tuple ⟨[.int .i64 n, tok]⟩) H) : OK pmT 87 ⟨[.string (bs s)]⟩ H Q := by
 have e : (bs s).size = s.length := rfl
 rcases atoi_ends (atoiAll s) with ⟨n, ha⟩ | ha | ha
 ·exact Ok.prim (p := pAtoi) (H' := H) (v := .tuple ⟨[.int .i64 n, .nilIface]⟩) rfl (by simp only [pAtoi, bs_list, e, if_pos hs, ha]) (h0 n ha)
 ·exact Ok.prim (p := pAtoi) (H' := H) (v := .tuple ⟨[.int .i64 (atoiSat s), tok]⟩) rfl (by simp only [pAtoi, bs_list, e, if_pos hs, ha]) (h1 _ fun m hm => by rw [ha] at hm; cases hm)
 ·exact Ok.prim (p := pAtoi) (H' := H) (v := .tuple ⟨[.int .i64 0, tok]⟩) rfl (by simp only [pAtoi, bs_list, e, if_pos hs, ha]; rfl) (h1 _ fun m hm => by rw [ha] at hm; cases hm)
theorem c56 {s : List UInt8} {c : UInt8} (hs : s.length < 4294967281) (hQ : Q (.tuple ⟨[.string (bs (Lib.cut s [c]).1), .string (bs (Lib.cut s [c]).2.1), .bool (Lib.cut s [c]).2.2]⟩) H) : OK pmT 56 ⟨[.string (bs s), .string (bs [c])]⟩ H Q := by
 have e : (bs s).size = s.length := rfl
 exact Ok.prim (p := pCut) rfl (by simp only [pCut, bs_list, e, if_pos hs]) hQ
theorem c89 {s : List UInt8} {c : Int} (hQ : Q (.int .i64 (Lib.indexByte s c.toNat.toUInt8)) H) : OK pmT 89 ⟨[.string (bs s), .int .u8 c]⟩ H Q :=
 Ok.prim (p := pIndex) rfl (by simp only [pIndex, bs_list]) hQ
theorem bytesOf_vals : ∀ l : List UInt8, bytesOf (byteVals l) = some l
 | [] => rfl
 | x :: l => by
  have := bytesOf_vals l
  simp only [byteVals, List.map_cons, bytesOf] at this ⊢
  have hx := x.toNat_lt
  rw [if_pos (by omega), this]
  simp
theorem c32 {b : Option Addr} {n k : Nat} {l : List UInt8} (hr : Rd H 1 b n (bytes1 l)) (hne : l ≠ []) (hn : n ≤ 1000000000000) (hQ : Q (.string (bs (hexOf l))) H) : OK pmT 32 ⟨[.slice b n k]⟩ H Q := by
 have hnl : n = l.length := by have := hr.1; simpa [bytes1] using this
 obtain ⟨x, l', rfl⟩ := List.exists_cons_of_ne_nil hne
 obtain ⟨h, i, rfl, h0⟩ := hr.2 0 _ (show (bytes1 (x :: l'))[0]? = some _ from rfl)
 have hN : H.loadN h i n = some (byteVals (x :: l')) := by
  rw [hnl, ← show (byteVals (x :: l')).length = (x :: l').length by simp [byteVals]]
  refine loadN_of fun j hj => ?_
  have hj' : j < (x :: l').length := by simpa [byteVals] using hj
  obtain ⟨h2, i2, e, h3⟩ := hr.2 j [.int .u8 (((x :: l')[j]).toNat : Int)] (by simp only [bytes1, List.getElem?_map, List.getElem?_eq_getElem hj', Option.map_some])
  injection e with e; injection e with e1 e2; subst e1; subst e2
  have := (h3 0 (by omega)).1
  rw [Nat.mul_one, Nat.add_zero] at this
  rw [this]
  simp only [byteVals, List.getElem?_map, List.getElem?_eq_getElem hj', Option.map_some, List.getElem?_cons_zero]
 exact Ok.prim (p := pWritten) rfl (by simp only [pWritten, hN, bytesOf_vals, if_pos hn]) hQ
theorem stringsOf_strs : ∀ l : List (List UInt8), stringsOf (strs l) = some l
 | [] => rfl
 | x :: l => by
  have := stringsOf_strs l
  simp only [strs, List.map_cons, stringsOf] at this ⊢
  rw [this, bs_list]
theorem c33 {h i n k : Nat} {l : List (List UInt8)} {sep : List UInt8} (hs : Sli H 1 (some ⟨h, i, none⟩) n k (strs l)) (h0 : 0 < n) (hn : n ≤ 1000000000) (hl : (Lib.join l sep).length ≤ 100000000000000) (hQ : Q (.string (bs (Lib.join l sep))) H) : OK pmT 33 ⟨[.slice (some ⟨h, i, none⟩) n k, .string (bs sep)]⟩ H Q := by
 have := hs.loadN
 rw [Nat.mul_one] at this
 exact Ok.prim (p := pJoin) rfl (by simp only [pJoin, this, stringsOf_strs]; exact if_pos ⟨h0, hn, hl⟩) hQ
end
end AM
end Go.Proofs.YtemcmblcogljkaaGreatDoor

namespace Go.Proofs.YtemcmblcogljkaaGreatDoor
namespace AM
open Go
open Go.Lib (decDigits itoa nDigits atoiAll atoiSat)
open TP
def wordList : List (List UInt8) := [wNetwork, wPatience, wRule, wOuter, wFade, wTerminal, wBearer, wPacket]
abbrev wordV : Value := .agg ⟨strs wordList⟩
theorem c50 {pm : Prims} (hp : Only pm) {H : AH} {Q : Value → AH → Prop} (hw : WF H) (hQ : ∀ H', Le H H' → Q wordV H') : OK pm 50 ⟨[]⟩ H Q := by
 apply f50_ok hp
 simp only [f50R, letH_eq]
 have l1 := new_le hw 0 [.string (bs []), .string (bs []), .string (bs []), .string (bs []), .string (bs []), .string (bs []), .string (bs []), .string (bs [])]
 obtain ⟨H2, h1, h2, h3, h4⟩ := over' hw (vs := strs wordList) 0 (Keep.refl l1.wf) (by simp [strs, wordList]) (by simp [strs, wordList, oneCell])
 have h1' : AH.storeN (H.new 0 [.string (bs []), .string (bs []), .string (bs []), .string (bs []), .string (bs []), .string (bs []), .string (bs []), .string (bs [])]) H.next 0 [.string (bs [110, 101, 116, 119, 111, 114, 107]), .string (bs [112, 97, 116, 105, 101, 110, 99, 101]), .string (bs [114, 117, 108, 101]), .string (bs [111, 117, 116, 101, 114]), .string (bs [102, 97, 100, 101]), .string (bs [116, 101, 114, 109, 105, 110, 97, 108]), .string (bs [98, 101, 97, 114, 101, 114]), .string (bs [112, 97, 99, 107, 101, 116])] = some H2 := h1
 rw [h1', obH_some]
 simp only [h3, Nat.zero_add, strs, wordList, List.map_cons, List.map_nil, List.getElem?_cons_zero, List.getElem?_cons_succ, obS_some]
 exact hQ H2 (Keep.trans l1 h2 fun g h1 h2 => by omega)
theorem neq_nil : aBin Tryz.prog .neq 112 (.tmp 46) (.const (.nilIface)) .nilIface .nilIface = some (.bool false) := by kernel_rfl
theorem neq_tok : aBin Tryz.prog .neq 112 (.tmp 46) (.const (.nilIface)) tok .nilIface = some (.bool true) := by kernel_rfl
theorem Sli.tail {G : AH} {h i n c : Nat} {cs : List Value} (hs : Sli G 1 (some ⟨h, i, none⟩) n c cs) {l : Nat} (hl : l ≤ n) (c' : Nat) : Sli G 1 (some ⟨h, i + l, none⟩) (n - l) c' (cs.drop l) ∧ sliceV 1 G (.slice (some ⟨h, i, none⟩) n c) (some (.int .i64 (l : Int))) none = some (.slice (some ⟨h, i + l, none⟩) (n - l) (c - l)) := by
 have hlen := hs.len
 cases hs with
 | row hr hs hf ho hlo hh hn hc =>
  rename_i r f
  refine ⟨.row hr hs hf ho (by omega) (by omega) (by simp; omega) fun j hj => ?_, ?_⟩
  ·rw [List.getElem?_drop, Nat.add_assoc]
   exact hc _ (by simp at hj; omega)
  ·simp only [sliceV, cutAtV, decide_eq_true (show (0 : Int) ≤ (l : Int) by omega), decide_eq_true (show (l : Int) ≤ (n : Int) by omega), Bool.and_self, hr, hs, Int.toNat_natCast, Nat.mul_one]
   rfl
theorem tokNum_ok {p : List UInt8} {n : Int} (h : atoiAll p = .ok n) : tokNum p = if itoa n = p ∧ small n then some n else none := by
 unfold tokNum; rw [h]
theorem tokNum_no {p : List UInt8} (h : ∀ m, atoiAll p ≠ .ok m) : tokNum p = none := by
 unfold tokNum
 split
 ·rename_i v hv; exact absurd hv (h v)
 ·rfl
theorem tokNums_step {k : Nat} {p : List UInt8} {ps : List (List UInt8)} : tokNums (k + 1) (p :: ps) = match tokNum p with
  | none => none
  | some n => (tokNums k ps).map (n :: ·) := rfl
theorem c55 {m : Nat} {F : Nat → Prop} {P : List Int → AH → Prop} {ptrs : List (Nat × Nat)} {s word : List UInt8} {kind : Nat} {b : Option Addr} {H : AH} {Q : Value → AH → Prop} (hw : WF H) (hs : s.length ≤ 1000000000) (hm : m ≤ 1000)
  (hkind : wordList[kind]? = some word) (hP0 : P [] H) (hle : ∀ xs G G', P xs G → WF G → Le G G' → P xs G')
  (hrd : ∀ xs G, P xs G → Rd G 1 b m (ptrs.map fun p => [.pointer (some ⟨p.1, p.2, none⟩)]))
  (hst : ∀ xs G x, P xs G → WF G → xs.length < m → ∃ p G', ptrs[xs.length]? = some p ∧ G.storeN p.1 p.2 [I x] = some G' ∧ P (xs ++ [x]) G' ∧ Keep F G G')
  (hF : ∀ g, F g → g < H.next)
  (hno : ∀ xs G, P xs G → Keep F H G → readLine s word m = none → Q (.tuple ⟨[.slice none 0 0, .bool false]⟩) G)
  (hyes : ∀ ns rest G b' k', P ns G → Keep F H G → readLine s word m = some (ns, rest) → Sli G 1 (some b') rest.length k' (strs rest) → b'.spot = none → Q (.tuple ⟨[.slice (some b') rest.length k', .bool true]⟩) G) :
  OK pmT 55 ⟨[.string (bs s), I kind, .slice b m m]⟩ H Q := by
 apply f55_ok onlyT
 simp only [f55R]
 refine c34 (c := 32) (by omega) ?_
 rw [obL_some]
 have hne := cutAt_ne 32 s
 obtain ⟨w, ps, hL⟩ := List.exists_cons_of_ne_nil hne
 have hcnt := cutAt_count 32 s
 have hsm : ∀ q ∈ ps, q.length ≤ s.length := fun q hq => cutAt_small (by rw [hL]; exact List.mem_cons_of_mem _ hq)
 have hread : readLine s word m = if w = word then (tokNums m ps).map fun ns => (ns, ps.drop m) else none := by unfold readLine; rw [hL]
 rw [hL] at hcnt ⊢
 simp only [List.length_cons] at hcnt ⊢
 have l1 := new_le hw 1 (strs (w :: ps))
 have hs1 : Sli (H.new 1 (strs (w :: ps))) 1 (some ⟨H.next, 0, none⟩) (ps.length + 1) (ps.length + 1) (strs (w :: ps)) := new_sli H 1 (ps.length + 1) (by simp [strs])
 have tokAt : ∀ {G : AH}, Sli G 1 (some ⟨H.next, 0, none⟩) (ps.length + 1) (ps.length + 1) (strs (w :: ps)) → ∀ {i : Nat} {x : List UInt8}, (w :: ps)[i]? = some x → ∃ a j, elemS 1 (.slice (some ⟨H.next, 0, none⟩) (ps.length + 1) (ps.length + 1)) (.int .i64 (i : Int)) = some (.pointer (some ⟨a, j, none⟩)) ∧ G.load a j = some (.string (bs x)) := fun {G} hg {i x} hi => by
  obtain ⟨a, j, e1, e2⟩ := (hg.rd1 (fun a e => by injection e with e; subst e; rfl)).elem (k := ps.length + 1) (strs_get hi) (kk := .i64)
  have e2 := e2 0 (by omega)
  rw [Nat.add_zero] at e2
  exact ⟨a, j, e1, e2⟩
 obtain ⟨a0, j0, e0, f0⟩ := tokAt hs1 (i := 0) (x := w) rfl
 have e0 : elemS 1 (.slice (some ⟨H.next, 0, none⟩) (ps.length + 1) (ps.length + 1)) (.int .i64 0) = some (.pointer (some ⟨a0, j0, none⟩)) := e0
 simp only [join2]
 rw [e0, obA_some, f0, obS_some]
 refine c50 onlyT l1.wf fun H8 l2 => ?_
 have hkl : kind < 8 := (List.getElem?_eq_some_iff.1 hkind).1
 have hidx : idxA none 1 8 wordV (.int .i64 (kind : Int)) = some (.string (bs word)) := by
  unfold wordV idxA
  simp only [decide_eq_true (show (0 : Int) ≤ (kind : Int) by omega), decide_eq_true (show (kind : Int) < (8 : Nat) by omega), Bool.and_self]
  rw [Nat.mul_one, Int.toNat_natCast]
  match kind, hkl, hkind with
  | 0, _, h | 1, _, h | 2, _, h | 3, _, h | 4, _, h | 5, _, h | 6, _, h | 7, _, h => simp only [wordList, List.getElem?_cons_zero, List.getElem?_cons_succ, Option.some.injEq] at h; subst h; rfl
 simp only [wordV, strs, wordList, List.map_cons, List.map_nil] at hidx ⊢
 rw [obN8]
 simp only [cellAt_eq, List.getElem?_cons_zero, List.getElem?_cons_succ, obS_some]
 rw [hidx, obS_some]
 have hs8 := hs1.le l1.wf l2
 have f8 := l2.load l1.wf f0
 have g8 : Keep F H H8 := (l1.trans l2).keep
 have hP8 := hle _ _ _ hP0 hw (l1.trans l2)
 have hcmp : (!((bs w).data.toList == (bs word).data.toList)) = decide (w ≠ word) := by rw [bs_list, bs_list, Bool.eq_iff_iff]; simp
 rw [hcmp]
 simp only [f8, obE1_str]
 refine ifB_intro (fun hc => ?_) (fun hc => ?_)
 ·have hc : w ≠ word := of_decide_eq_true hc
  rw [ifB_true]
  exact hno _ _ hP8 g8 (by rw [hread, if_neg hc])
 have hc : w = word := Classical.byContradiction fun h => of_decide_eq_false hc h
 rw [if_pos hc] at hread
 rw [wrap_of (by omega) (by omega)]
 refine ifB_intro (fun hn => ?_) (fun hn => ?_)
 ·have hn : ((ps.length + 1 : Nat) : Int) < 1 + (m : Int) := of_decide_eq_true hn
  refine hno _ _ hP8 g8 ?_
  rw [hread]
  cases ht : tokNums m ps with
  | none => rfl
  | some ns => have := (tokNums_some ht).2.2.1; omega
 have hn : ¬ ((ps.length + 1 : Nat) : Int) < 1 + (m : Int) := of_decide_eq_false hn
 have hmp : m ≤ ps.length := by omega
 have key : ∀ d i xs G, i + d = m → xs.length = i → P xs G → Keep F H G → Sli G 1 (some ⟨H.next, 0, none⟩) (ps.length + 1) (ps.length + 1) (strs (w :: ps)) → (rootOf G H.next = H.next ∧ H.next < G.next) → tokNums m ps = (tokNums d (ps.drop i)).map (xs ++ ·) →
   f55L0 (OK pmT) Q b m m (some ⟨H.next, 0, none⟩) (ps.length + 1) (ps.length + 1) b m m (m : Int) (i : Int) G := by
  intro d
  induction d with
  | zero =>
   intro i xs G hi hxs hP hk hsG hro ht
   apply f55L0_step
   simp only [f55B0]
   rw [decide_eq_false (by omega), ifB_false, wrap_of (by omega) (by omega), show (1 : Int) + (m : Int) = ((m + 1 : Nat) : Int) by omega]
   obtain ⟨t1, t2⟩ := hsG.tail (l := m + 1) (by omega) (ps.length + 1 - (m + 1))
   rw [t2, obL_some, Nat.zero_add]
   rw [Nat.zero_add] at t1
   have hlen : ps.length + 1 - (m + 1) = (ps.drop m).length := by simp
   rw [hlen] at t1 ⊢
   have hd : (strs (w :: ps)).drop (m + 1) = strs (ps.drop m) := by simp [strs]
   rw [hd] at t1
   refine hyes xs (ps.drop m) G _ _ hP hk ?_ t1 rfl
   rw [hread, ht]; simp [tokNums]
  | succ d ih =>
   intro i xs G hi hxs hP hk hsG hro ht
   apply f55L0_step
   simp only [f55B0]
   rw [decide_eq_true (by omega), ifB_true]
   obtain ⟨p, hp⟩ : ∃ p, ps[i]? = some p := ⟨_, List.getElem?_eq_getElem (by omega)⟩
   have hdrop : ps.drop i = p :: ps.drop (i + 1) := by
    have h2 := (List.getElem?_eq_some_iff.1 hp)
    rw [List.drop_eq_getElem_cons h2.1, h2.2]
   rw [hdrop, tokNums_step] at ht
   have hpl := hsm p (List.mem_of_getElem? hp)
   have none' : tokNum p = none → readLine s word m = none := fun h => by rw [h] at ht; rw [hread, ht]; rfl
   obtain ⟨q, hq⟩ : ∃ q, ptrs[xs.length]? = some q := by obtain ⟨q, _, h, _⟩ := hst xs G 0 hP hk.wf (by omega); exact ⟨q, h⟩
   obtain ⟨aq, jq, eq, fq⟩ := (hrd xs G hP).elem (k := m) (kk := .i64) (show (ptrs.map fun p => [Value.pointer (some ⟨p.1, p.2, none⟩)])[xs.length]? = some [Value.pointer (some ⟨q.1, q.2, none⟩)] by rw [List.getElem?_map, hq]; rfl)
   have fq := fq 0 (by omega)
   rw [Nat.add_zero] at fq
   simp only [List.getElem?_cons_zero] at fq
   rw [hxs] at eq
   rw [eq, obA_some, fq, obA_some, wrap_of (by omega) (by omega), show (1 : Int) + (i : Int) = ((i + 1 : Nat) : Int) by omega]
   obtain ⟨a1, j1, e1, f1⟩ := tokAt hsG (i := i + 1) (x := p) (by simpa using hp)
   rw [e1, obA_some, f1, obS_some]
   refine c87 (by omega) (fun n hok => ?_) (fun n hnok => ?_)
   ·simp only [tupV_eq, List.getElem?_cons_zero, List.getElem?_cons_succ, obI_some, obV_some, join2]
    rw [neq_nil, obB_some, ifB_false]
    obtain ⟨b0, b1⟩ := Lib.atoiAll_bounds hok
    refine c51 b0 b1 ?_
    simp only [obS_some, obA_some, f1, obE1_str]
    have hcmp : (!((bs (itoa n)).data.toList == (bs p).data.toList)) = decide (itoa n ≠ p) := by rw [bs_list, bs_list, Bool.eq_iff_iff]; simp
    rw [hcmp]
    have htn := tokNum_ok hok
    refine ifB_intro (fun hc => ?_) (fun hc => ?_)
    ·have hc : itoa n ≠ p := of_decide_eq_true hc
     rw [ifB_true]
     exact hno _ _ hP hk (none' (by rw [htn, if_neg fun h => hc h.1]))
    have hc : itoa n = p := Classical.byContradiction fun h => of_decide_eq_false hc h
    refine ifB_intro (fun hlo => ?_) (fun hlo => ?_)
    ·have hlo := of_decide_eq_true hlo
     rw [ifB_true]
     exact hno _ _ hP hk (none' (by rw [htn, if_neg fun h => by have := h.2; unfold small at this; omega]))
    have hlo := of_decide_eq_false hlo
    refine ifB_intro (fun hhi => ?_) (fun hhi => ?_)
    ·have hhi := of_decide_eq_true hhi
     exact hno _ _ hP hk (none' (by rw [htn, if_neg fun h => by have := h.2; unfold small at this; omega]))
    have hhi := of_decide_eq_false hhi
    rw [if_pos ⟨hc, by unfold small; omega⟩] at htn
    obtain ⟨q', G', h1, h2, h3, h4⟩ := hst xs G n hP hk.wf (by omega)
    rw [hq] at h1; injection h1 with h1; subst h1
    rw [h2, obH_some, wrap_of (by omega) (by omega), show (i : Int) + 1 = ((i + 1 : Nat) : Int) by omega]
    refine ih (i + 1) (xs ++ [n]) G' (by omega) (by simp [hxs]) h3 (Keep.trans hk h4 fun g _ h => h) (hsG.keep hk.wf h4 fun g hg hf => ?_) ⟨by rw [h4.root hro.2, hro.1], by have := h4.next; omega⟩ ?_
    ·have h5 := hF g hf
     have h6 : g = rootOf G H.next := hg
     rw [hro.1] at h6; omega
    ·rw [htn] at ht
     rw [ht]
     cases tokNums d (ps.drop (i + 1)) <;> simp
   ·simp only [tupV_eq, List.getElem?_cons_zero, List.getElem?_cons_succ, obI_some, obV_some, join2]
    rw [neq_tok, obB_some, ifB_true, ifB_true]
    exact hno _ _ hP hk (none' (tokNum_no hnok))
 exact key m 0 [] H8 (by omega) rfl hP8 g8 hs8 ⟨by rw [l2.root (by rw [new_next]; omega), new_root], by have := l2.next; rw [new_next] at this; omega⟩ (by rw [List.drop_zero]; cases tokNums m ps <;> rfl)
end AM
end Go.Proofs.YtemcmblcogljkaaGreatDoor

namespace Go.Proofs.YtemcmblcogljkaaGreatDoor
namespace AM
open Go
open Go.Lib (decDigits itoa nDigits atoiAll atoiSat)
open TP
theorem c35 {m : Nat} {F : Nat → Prop} {P : List Int → AH → Prop} {ptrs : List (Nat × Nat)} {s word : List UInt8} {kind : Nat} {b : Option Addr} {H : AH} {Q : Value → AH → Prop} (hw : WF H) (hs : s.length ≤ 1000000000) (hm : m ≤ 1000)
  (hkind : wordList[kind]? = some word) (hP0 : P [] H) (hle : ∀ xs G G', P xs G → WF G → Le G G' → P xs G')
  (hrd : ∀ xs G, P xs G → Rd G 1 b m (ptrs.map fun p => [.pointer (some ⟨p.1, p.2, none⟩)]))
  (hst : ∀ xs G x, P xs G → WF G → xs.length < m → ∃ p G', ptrs[xs.length]? = some p ∧ G.storeN p.1 p.2 [I x] = some G' ∧ P (xs ++ [x]) G' ∧ Keep F G G')
  (hF : ∀ g, F g → g < H.next)
  (hQ : ∀ xs G ok, P xs G → Keep F H G → (ok = true → wholeLine s word m = some xs) → (ok = false → wholeLine s word m = none) → Q (.bool ok) G) :
  OK pmT 35 ⟨[.string (bs s), I kind, .slice b m m]⟩ H Q := by
 apply f35_ok onlyT
 simp only [f35R]
 refine c55 hw hs hm hkind hP0 hle hrd hst hF (fun xs G hP hk hr => ?_) fun ns rest G b' k' hP hk hr hsl _ => ?_
 ·simp only [tupV_eq, List.getElem?_cons_zero, List.getElem?_cons_succ, obL_some, obB_some, join2, ifB_false]
  exact hQ xs G false hP hk (fun h => by cases h) fun _ => by rw [wholeLine, hr]
 ·simp only [tupV_eq, List.getElem?_cons_zero, List.getElem?_cons_succ, obL_some, obB_some, join2, ifB_true]
  refine hQ ns G _ hP hk (fun h => ?_) fun h => ?_
  ·have h : (rest.length : Int) = 0 := by simpa using h
   have : rest = [] := List.eq_nil_of_length_eq_zero (by omega)
   rw [wholeLine, hr, this]
  ·have h : ¬ (rest.length : Int) = 0 := by simpa using h
   rw [wholeLine, hr]
   cases rest with
   | nil => simp at h
   | cons q r => rfl
def ptrV (L : List (Nat × Nat)) : List Value := L.map fun p => .pointer (some ⟨p.1, p.2, none⟩)
def at1 (h i n : Nat) : List (Nat × Nat) := (List.range n).map fun k => (h, i + k)
theorem at1_get (h i n k : Nat) (hk : k < n) : (at1 h i n)[k]? = some (h, i + k) := by simp [at1, hk]
section
variable {pm : Prims} {h : Nat} {H : AH} {Q : Value → AH → Prop}
theorem c27 (hp : Only pm) {k : Nat} (hk : k ≤ 3) (hQ : ∀ i n, (k = 0 ∧ i = 0 ∧ n = 9) ∨ (k = 1 ∧ i = 9 ∧ n = 3) ∨ (k = 2 ∧ i = 12 ∧ n = 3) ∨ (k = 3 ∧ i = 16 ∧ n = 2) → Q (.slice (some ⟨H.next, 0, none⟩) n n) (H.new 1 (ptrV (at1 h i n)))) : OK pm 27 ⟨[.pointer (some ⟨h, 0, none⟩), I k]⟩ H Q := by
 apply f27_ok hp
 simp only [f27R, letH_eq]
 match k, hk with
 | 0, _ => exact hQ 0 9 (by simp)
 | 1, _ => exact hQ 9 3 (by simp)
 | 2, _ => exact hQ 12 3 (by simp)
 | 3, _ => exact hQ 16 2 (by simp)
theorem c28 (hp : Only pm) (hQ : Q (.slice (some ⟨H.next, 0, none⟩) 5 5) (H.new 1 (ptrV (at1 h 0 5)))) : OK pm 28 ⟨[.pointer (some ⟨h, 0, none⟩)]⟩ H Q := by
 apply f28_ok hp
 exact hQ
def trmAt : List Nat := [0, 1, 13, 4, 5, 6, 7, 8, 9, 10, 11, 12]
theorem c29 (hp : Only pm) (hQ : Q (.slice (some ⟨H.next, 0, none⟩) 12 12) (H.new 1 (ptrV (trmAt.map fun k => (h, k))))) : OK pm 29 ⟨[.pointer (some ⟨h, 0, none⟩)]⟩ H Q := by
 apply f29_ok hp
 exact hQ
theorem c30 (hp : Only pm) {h2 : Nat} (hQ : Q (.slice (some ⟨H.next, 0, none⟩) 15 15) (H.new 1 (ptrV (at1 h 0 11 ++ at1 h2 0 4)))) : OK pm 30 ⟨[.pointer (some ⟨h, 0, none⟩), .pointer (some ⟨h2, 0, none⟩)]⟩ H Q := by
 apply f30_ok hp
 exact hQ
theorem c31 (hp : Only pm) (hQ : Q (.slice (some ⟨H.next, 0, none⟩) 4 4) (H.new 1 (ptrV (at1 h 0 4)))) : OK pm 31 ⟨[.pointer (some ⟨h, 0, none⟩)]⟩ H Q := by
 have := e31 hp h 0 H Q
 unfold P at this
 rw [this]
 exact hQ
end
theorem idx_val : ∀ n, n < 256 → (if 0 > Lib.indexByte [48, 49, 50, 51, 52, 53, 54, 55, 56, 57, 97, 98, 99, 100, 101, 102] n.toUInt8 then 0 else Lib.indexByte [48, 49, 50, 51, 52, 53, 54, 55, 56, 57, 97, 98, 99, 100, 101, 102] n.toUInt8) = (hexVal n.toUInt8 : Int) := by decide +kernel
theorem nib_orI : ∀ p, p < 16 → ∀ q, q < 16 → IntKind.wrap .u8 (IntKind.wrap .i64 (BitVec.ofInt (IntKind.bits .i64) (IntKind.wrap .i64 (((p : Nat) : Int) * 2 ^ min (Int.toNat 4) (IntKind.bits .i64))) ||| BitVec.ofInt (IntKind.bits .i64) ((q : Nat) : Int)).toNat) = ((p * 16 + q : Nat) : Int) := by decide +kernel
theorem extract2 (x y : UInt8) (r : List UInt8) : (bs (x :: y :: r)).extract 2 (bs (x :: y :: r)).size = bs r := by
 have e : (bs (x :: y :: r)).size = r.length + 2 := rfl
 rw [e]
 apply ByteArray.ext
 rw [ByteArray.data_extract]
 apply Array.ext'
 simp [bs]
theorem c58 {s : List UInt8} (hl : s.length ≤ 1000000000) {H : AH} {Q : Value → AH → Prop} (hw : WF H)
  (hQ : ∀ H' b n, Le H H' → Sli H' 1 b n n (byteVals (unhex s)) → (∀ g, rootB H' b g → H.next ≤ g) → (∀ a, b = some a → a.spot = none) → Q (.slice b n n) H') : OK pmT 58 ⟨[.string (bs s)]⟩ H Q := by
 apply f58_ok onlyT
 simp only [f58R]
 have key : ∀ d (r : List UInt8) (P : List UInt8) G b n, r.length = d → P.length + r.length ≤ s.length → Le H G → n = P.length → Sli G 1 b n n (byteVals P) → (∀ g, rootB G b g → H.next ≤ g) → (∀ a, b = some a → a.spot = none) → unhex s = P ++ unhex r → f58L0 (OK pmT) Q (bs r) b n n G := by
  intro d
  induction d using Nat.strongRecOn with
  | _ d ih =>
   intro r P G b n hd hi hg hn hs hroot hspot hun
   apply f58L0_step
   simp only [f58B0]
   have hz : (bs r).size = r.length := rfl
   rw [hz]
   refine ifB_intro (fun h => ?_) (fun h => ?_)
   ·have h : (r.length : Int) > 1 := of_decide_eq_true h
    match r, hd, hi, hun, h with
    | [], _, _, _, h => simp at h
    | [_], _, _, _, h => simp at h
    | x :: y :: r, hd, hi, hun, h =>
     simp only [List.length_cons] at hd hi
     rw [show idxS (.string (bs (x :: y :: r))) (.int .i64 0) = some (.int .u8 (x.toNat : Int)) from rfl, obI_some]
     rw [show bs [48, 49, 50, 51, 52, 53, 54, 55, 56, 57, 97, 98, 99, 100, 101, 102] = bs digs from rfl]
     refine c89 ?_
     rw [obI_some, show idxS (.string (bs (x :: y :: r))) (.int .i64 1) = some (.int .u8 (y.toNat : Int)) from rfl, obI_some]
     refine c89 ?_
     have e1 := idx_val x.toNat x.toNat_lt
     have e2 := idx_val y.toNat y.toNat_lt
     have t1 : x.toNat.toUInt8 = x := UInt8.ofNat_toNat
     have t2 : y.toNat.toUInt8 = y := UInt8.ofNat_toNat
     rw [t1] at e1
     rw [t2] at e2
     rw [obI_some, letH_eq, Int.toNat_natCast, Int.toNat_natCast, t1, t2]
     rw [show Lib.indexByte digs x = Lib.indexByte [48, 49, 50, 51, 52, 53, 54, 55, 56, 57, 97, 98, 99, 100, 101, 102] x from rfl, show Lib.indexByte digs y = Lib.indexByte [48, 49, 50, 51, 52, 53, 54, 55, 56, 57, 97, 98, 99, 100, 101, 102] y from rfl, e1, e2, nib_orI _ (hexVal_lt x) _ (hexVal_lt y)]
     have hv : ((hexVal x * 16 + hexVal y : Nat) : Int) = ((UInt8.ofNat (hexVal x * 16 + hexVal y)).toNat : Int) := by
      have := hexVal_lt x; have := hexVal_lt y
      rw [UInt8.toNat_ofNat']; omega
     rw [hv]
     have l1 := new_le hg.wf 1 [.int .u8 ((UInt8.ofNat (hexVal x * 16 + hexVal y)).toNat : Int)]
     obtain ⟨b2, G2, a1, a2, a3, a4, ⟨h2, i2, a5⟩⟩ := append_ok l1.wf (sz := 1) (bytes := 1) (by omega) (hs.le hg.wf l1) (x := .slice (some ⟨G.next, 0, none⟩) 1 1) (m := 1) (news := [.int .u8 ((UInt8.ofNat (hexVal x * 16 + hexVal y)).toNat : Int)]) rfl (src_slice rfl fun j _ => by rw [Nat.zero_add, new_load]) (by omega) rfl (by simp [oneCell]) (by omega) (by omega)
     rw [a1, obG_some]
     have hroot1 : ∀ g, rootB (G.new 1 [.int .u8 ((UInt8.ofNat (hexVal x * 16 + hexVal y)).toNat : Int)]) b g → H.next ≤ g := fun g hh => hroot g ((rootB_keep hg.wf l1 hs g).1 hh)
     have g2 : Le H G2 := Keep.trans (hg.trans l1) a3 fun g hgl hh => by have := hroot1 g hh; omega
     have hsl : sliceS (.string (bs (x :: y :: r))) (some (.int .i64 2)) none = some (.string (bs r)) := by
      have hsz : (bs (x :: y :: r)).size = r.length + 2 := rfl
      have := extract2 x y r
      rw [hsz] at this
      simp only [sliceS, cutAtV, hsz, decide_eq_true (show (0 : Int) ≤ 2 by omega), decide_eq_true (show (2 : Int) ≤ ((r.length + 2 : Nat) : Int) by omega), Bool.and_self, show Int.toNat 2 = 2 from rfl]
      rw [this]
     rw [hsl, obS_some]
     refine ih r.length (by omega) r (P ++ [UInt8.ofNat (hexVal x * 16 + hexVal y)]) G2 b2 (n + 1) rfl (by simp; omega) g2 (by simp; omega) (by simpa [byteVals] using a2) (fun g hh => ?_) (fun a ha => ?_) ?_
     ·rcases a4 g hh with hh | hh
      ·exact hroot1 g hh
      ·have := hg.next; simp only [new_next] at hh; omega
     ·rw [a5] at ha; injection ha with ha; subst ha; rfl
     ·rw [hun, unhex, List.append_assoc]; rfl
   ·have h : ¬ (r.length : Int) > 1 := of_decide_eq_false h
    have hu : unhex s = P := by
     rw [hun, unhex_short (by omega), List.append_nil]
    rw [← hu] at hs
    exact hQ G b n hg hs hroot hspot
 exact key s.length s [] H none 0 rfl (by simp) (Keep.refl hw) rfl .nil (fun g hh => hh.elim) (fun a ha => by cases ha) rfl
end AM
end Go.Proofs.YtemcmblcogljkaaGreatDoor

