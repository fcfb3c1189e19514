/- The library's functions, as the abstract machine has them, stand for the library's own. Numbers that are read, and texts that are joined: the library's own. The program writes bytes in hexadecimal digits: a walk. Closed runs, and the library's functions all together. -/
import Derived.Test.YtemcmblcogljkaaGreatDoorPa
import Derived.WalkKit
import Derived.BigCall
import Derived.KernelRfl
set_option linter.all false
set_option linter.unusedSimpArgs false
set_option linter.unusedVariables false
namespace Go.Proofs.YtemcmblcogljkaaGreatDoor
namespace AM
open Go Go.RowKit
open Go.Lib (decDigits itoa nDigits atoiAll atoiSat)
open TP
section
variable {w0 : World}
theorem flat_done {P : Program} {ρ : Rho} {H : AH} {w : World} (hr : Rel (oldB w0) w0 ρ H w) {f : FuncId} {args : Array Value} {v : Value} (hv : flat v = true)
  (h : Calls P f args w fun e w' => e = .returned v ∧ Below w.heap.size w w') :
  Calls P f args w fun e w' => ∃ ρ' v', e = .returned v' ∧ Ext ρ H w ρ' H w' ∧ Rel (oldB w0) w0 ρ' H w' ∧ VR ρ' H w' v v' := by
 refine h.mono ?_
 rintro e w' ⟨rfl, hb⟩
 obtain ⟨h1, h2⟩ := hr.below hb
 exact ⟨ρ, v, rfl, h1, h2, flat_refl v hv⟩
theorem below_grow (w : World) (k : Nat) (os : Array Obj) : Below w.heap.size w (Sort.grow (w.drewN k) os) :=
 ⟨rfl, rfl, rfl, by simp [Sort.grow, World.drewN], fun i hi => by
  show (w.heap ++ os)[i]? = w.heap[i]?
  rw [Array.getElem?_append_left hi]⟩
theorem below_drewN (w : World) (k : Nat) : Below w.heap.size w (w.drewN k) := ⟨rfl, rfl, rfl, Nat.le_refl _, fun _ _ => rfl⟩
theorem ok_itoa (hB : Base Tryz.prog w0) : PrimOK Tryz.prog w0 51 pItoa := fun args H v H' h ρ w args' hr ha => by
 unfold pItoa at h
 split at h
 ·rename_i n
  split at h
  ·rename_i hn
   simp only [Option.some.injEq, Prod.mk.injEq] at h
   obtain ⟨rfl, rfl⟩ := h
   rw [args_flat ha rfl]
   refine flat_done hr rfl ((Tryz.strconv_Itoa n hn.1 hn.2 w (hB.at hr).tab).mono ?_)
   rintro e w' ⟨rfl, k, os, rfl⟩
   exact ⟨rfl, below_grow w k os⟩
  ·cases h
 ·cases h
theorem ok_index : PrimOK Tryz.prog w0 89 pIndex := fun args H v H' h ρ w args' hr ha => by
 unfold pIndex at h
 split at h
 ·rename_i s c
  simp only [Option.some.injEq, Prod.mk.injEq] at h
  obtain ⟨rfl, rfl⟩ := h
  rw [args_flat ha rfl]
  refine flat_done hr rfl ((Tryz.strings_IndexByte s c w).mono ?_)
  rintro e w' ⟨rfl, rfl⟩
  exact ⟨rfl, Below.refl _ _⟩
 ·cases h
theorem ok_cut (hB : Base Tryz.prog w0) : PrimOK Tryz.prog w0 56 pCut := fun args H v H' h ρ w args' hr ha => by
 unfold pCut at h
 split at h
 ·rename_i s sep
  split at h
  ·rename_i hs
   simp only [Option.some.injEq, Prod.mk.injEq] at h
   obtain ⟨rfl, rfl⟩ := h
   rw [args_flat ha rfl]
   obtain ⟨m, hm⟩ := (hB.at hr).mx
   refine flat_done hr rfl ((Tryz.strings_Cut s sep m w hs hm).mono ?_)
   rintro e w' ⟨rfl, n, rfl⟩
   exact ⟨rfl, below_drewN w n⟩
  ·cases h
 ·cases h
theorem ok_split (hB : Base Tryz.prog w0) : PrimOK Tryz.prog w0 34 pSplit := fun args H v H' h ρ w args' hr ha => by
 unfold pSplit at h
 split at h
 ·rename_i s sep
  split at h
  ·rename_i c hsep
   split at h
   ·rename_i hs
    simp only [Option.some.injEq, Prod.mk.injEq] at h
    obtain ⟨rfl, rfl⟩ := h
    rw [args_flat ha rfl]
    obtain ⟨m, hm⟩ := (hB.at hr).mx
    have hsz : 1 ≤ sep.size := by
     have : sep.size = sep.data.toList.length := rfl
     rw [this, hsep]; simp
    refine (Tryz.strings_Split s sep m w hs hm hsz).mono ?_
    rintro e w' ⟨rfl, rfl⟩
    have hL : (Lib.splitB sep 0 (Lib.countB s sep) s).map Value.string = strs (cutAt c s.data.toList) := by
     have h1 := splitB_list sep (Lib.countB s sep) s
     have h2 : Lib.splitK sep.data.toList 0 (Lib.countB s sep) s.data.toList = cutAt c s.data.toList := by
      rw [← split_at, ← hsep]; rfl
     rw [← h2, ← h1, strs, List.map_map]
     rfl
    have hlen : Lib.countB s sep + 1 = (cutAt c s.data.toList).length := by
     have h1 := congrArg List.length hL
     rw [List.length_map, Lib.splitB_all sep hsz 0 _ s rfl] at h1
     simpa [strs] using h1
    rw [hL, hlen]
    have hp : Pushed w (w.alloc (.cells (strs (cutAt c s.data.toList)).toArray 9)) (.cells (strs (cutAt c s.data.toList)).toArray 9 (0, 0)) := Pushed.mk' w _ _
    have hfl : ∀ L : List (List UInt8), flatL (strs L) = true := fun L => by
     induction L with
     | nil => rfl
     | cons a L ih => simp only [strs, List.map_cons, flatL, flat, Bool.true_and] at ih ⊢; exact ih
    obtain ⟨h1, h2⟩ := hr.new 1 (cells := strs (cutAt c s.data.toList)) (cells' := strs (cutAt c s.data.toList)) (flatL_refl _ (hfl _)) hp (fun j u hu => by simpa using hu) (fun j _ => by simp)
    refine ⟨_, _, rfl, h1, h2, ?_⟩
    refine .slc H.next 0 _ _ w.heap.size 0 _ _ (upR_same _ _ _) (Nat.le_refl _) (Nat.le_refl _) (Nat.le_refl _) (fun _ => rfl) fun r hrr => ?_
    right
    rw [new_row] at hrr
    injection hrr with hrr
    subst hrr
    exact ⟨_, _, _, hp.at_, by simp [strs]⟩
   ·cases h
  ·cases h
 ·cases h
end
end AM
end Go.Proofs.YtemcmblcogljkaaGreatDoor

namespace Go.Proofs.YtemcmblcogljkaaGreatDoor
namespace AM
open Go Go.RowKit
open Go.Lib (decDigits itoa nDigits atoiAll atoiSat)
open TP
section
variable {w0 : World}
theorem below_bytesWorld (w : World) (e : TypeId) (s : ByteArray) : Below w.heap.size w (Lib.bytesWorld w e s) :=
 ⟨rfl, rfl, rfl, by rw [Lib.bytesWorld_size]; omega, fun k hk => Lib.bytesWorld_at_old w e s k hk⟩
theorem err_done {ρ : Rho} {H : AH} {w : World} (hr : Rel (oldB w0) w0 ρ H w) {f : FuncId} {args : Array Value} {n : Int}
  (h : Calls Tryz.prog f args w fun e w' => ∃ t u, e = .returned (.tuple #[.int .i64 n, .iface t u]) ∧ Below w.heap.size w w') :
  Calls Tryz.prog f args w fun e w' => ∃ ρ' v', e = .returned v' ∧ Ext ρ H w ρ' H w' ∧ Rel (oldB w0) w0 ρ' H w' ∧ VR ρ' H w' (.tuple ⟨[.int .i64 n, tok]⟩) v' := by
 refine h.mono ?_
 rintro e w' ⟨t, u, rfl, hb⟩
 obtain ⟨h1, h2⟩ := hr.below hb
 refine ⟨ρ, _, rfl, h1, h2, .tuple _ _ rfl fun i v v' h1 h2 => ?_⟩
 match i with
 | 0 =>
  simp only [List.getElem?_cons_zero, Option.some.injEq] at h1 h2
  subst h1; subst h2; exact .int _ _
 | 1 =>
  simp only [List.getElem?_cons_succ, List.getElem?_cons_zero, Option.some.injEq] at h1 h2
  subst h1; subst h2; exact .tok _ _
 | i + 2 => simp at h1
theorem ok_atoi (hB : Base Tryz.prog w0) : PrimOK Tryz.prog w0 87 pAtoi := fun args H v H' h ρ w args' hr ha => by
 unfold pAtoi at h
 split at h
 ·rename_i s
  split at h
  ·rename_i hs
   rw [args_flat ha rfl]
   rcases atoi_ends (atoiAll s.data.toList) with ⟨n, hn⟩ | hn | hn
   ·simp only [hn, Option.some.injEq, Prod.mk.injEq] at h
    obtain ⟨rfl, rfl⟩ := h
    refine flat_done hr rfl ((Tryz.strconv_Atoi_ok s (by omega) n hn w).mono ?_)
    rintro e w' ⟨rfl, h | ⟨t, h⟩⟩
    ·subst h; exact ⟨rfl, Below.refl _ _⟩
    ·subst h; exact ⟨rfl, below_bytesWorld _ _ _⟩
   ·simp only [hn, Option.some.injEq, Prod.mk.injEq] at h
    obtain ⟨rfl, rfl⟩ := h
    obtain ⟨tp, p, hv⟩ := (hB.at hr).er
    refine err_done hr ((Tryz.strconv_Atoi_range_var s hs hn tp p w hv).mono ?_)
    rintro e w' ⟨N, rfl, _, _, hb⟩
    exact ⟨_, _, rfl, hb⟩
   ·rw [hn] at h
    have h : some (Value.tuple ⟨[.int .i64 0, tok]⟩, H) = some (v, H') := h
    simp only [Option.some.injEq, Prod.mk.injEq] at h
    obtain ⟨rfl, rfl⟩ := h
    obtain ⟨tp, p, hv⟩ := (hB.at hr).es
    refine err_done hr ((Tryz.strconv_Atoi_syntax_var s hs hn tp p w hv).mono ?_)
    rintro e w' ⟨N, rfl, _, _, hb⟩
    exact ⟨_, _, rfl, hb⟩
  ·cases h
 ·cases h
theorem stringsOf_get : ∀ {vs : List Value} {l : List (List UInt8)}, stringsOf vs = some l → vs = strs l
 | [], l, h => by simp only [stringsOf, Option.some.injEq] at h; subst h; rfl
 | .string x :: r, l, h => by
  simp only [stringsOf] at h
  split at h
  ·rename_i l' hl
   simp only [Option.some.injEq] at h
   subst h
   rw [stringsOf_get hl]; rfl
  ·cases h
 | .bool _ :: _, _, h | .int _ _ :: _, _, h | .pointer _ :: _, _, h | .slice _ _ _ :: _, _, h | .nilFunc :: _, _, h | .nilIface :: _, _, h | .iface _ _ :: _, _, h | .func _ _ _ :: _, _, h | .agg _ :: _, _, h | .tuple _ :: _, _, h => by cases h
 | .float _ _ :: _, _, h | .complex _ _ _ :: _, _, h => by cases h
theorem slice_cells {ρ : Rho} {H : AH} {w : World} (hr : Rel (oldB w0) w0 ρ H w) {h i n : Nat} {vs : List Value} (hl : H.loadN h i n = some vs) {c s : Nat} (hρ : ρ h = some (c, s)) (hs : s ≤ i) :
  ∀ (j : Nat) v, vs[j]? = some v → ∃ v', w.cell? ⟨c, i - s + j, none⟩ = some v' ∧ VR ρ H w v v' := fun j v hj => by
 obtain ⟨h1, h2⟩ := loadN_get hl
 have hjn : j < n := by rw [← h1]; exact (List.getElem?_eq_some_iff.1 hj).1
 obtain ⟨v', k1, k2⟩ := hr.cell h c s (i + j) v hρ ((h2 j hjn).trans hj)
 exact ⟨v', by rw [show i - s + j = i + j - s by omega]; exact k1, k2⟩
theorem ok_join : PrimOK Tryz.prog w0 33 pJoin := fun args H v H' h ρ w args' hr ha => by
 unfold pJoin at h
 split at h
 ·rename_i b i n cap sep
  split at h
  ·cases h
  ·rename_i vs hvs
   split at h
   ·cases h
   ·rename_i l hl
    split at h
    ·rename_i hn
     simp only [Option.some.injEq, Prod.mk.injEq] at h
     obtain ⟨rfl, rfl⟩ := h
     obtain ⟨u, r, e1, hu, hr1⟩ := ha.cons_inv
     obtain ⟨u2, r2, e2, hu2, hr2⟩ := hr1.cons_inv
     have e3 := hr2.nil_inv
     subst e3
     subst e2
     have hu2 := hu2.flat rfl
     subst hu2
     have hargs : args' = ⟨[u, .string sep]⟩ := by cases args' with | mk l' => simp only at e1; rw [e1]
     subst hargs
     have hvs2 := stringsOf_get hl
     have hln := (loadN_get hvs).1
     rw [hvs2] at hln
     simp only [strs, List.length_map] at hln
     cases hu with
     | slc h' i' len' cap' c s a' cap2 hρ hs hlen hcap ha' hroom =>
      have hc2 : 0 < cap2 := by omega
      have ha2 := ha' hc2
      subst ha2
      have hcells := slice_cells hr hvs hρ hs
      have hj := Tryz.strings_Join c (i - s) cap2 (l.map bs) sep w (fun j x hx => by
       rw [List.getElem?_map] at hx
       obtain ⟨q, hq, rfl⟩ := Option.map_eq_some_iff.1 hx
       obtain ⟨v', k1, k2⟩ := hcells j (.string (bs q)) (by rw [hvs2]; exact (by simp [strs, hq]))
       rw [k1, k2.flat rfl]) (hr.blk_lt hρ) (by rw [List.length_map]; omega) (by rw [List.length_map]; omega) (by
        rw [List.map_map, show (((fun x : ByteArray => x.data.toList) ∘ bs) : List UInt8 → List UInt8) = id from rfl, List.map_id]; omega)
      rw [List.length_map, hln, List.map_map, show (((fun x : ByteArray => x.data.toList) ∘ bs) : List UInt8 → List UInt8) = id from rfl, List.map_id] at hj
      exact flat_done hr rfl hj
    ·cases h
 ·cases h
end
end AM
end Go.Proofs.YtemcmblcogljkaaGreatDoor

namespace Go.Proofs.YtemcmblcogljkaaGreatDoor
namespace AM
open Go Go.RowKit
open TP
theorem hexCells_snoc (l : List UInt8) (x : UInt8) : Lib.byteCells (hexOf (l ++ [x])) = (Lib.byteCells (hexOf l) ++ [.int .u8 ((hexDig (x.toNat / 16)).toNat : Int)]) ++ [.int .u8 ((hexDig (x.toNat % 16)).toNat : Int)] := by
 rw [hexOf_snoc]
 simp [Lib.byteCells]
theorem dig_at (n : Nat) (h : n < 16) (hlt : n < (ByteArray.mk #[48, 49, 50, 51, 52, 53, 54, 55, 56, 57, 97, 98, 99, 100, 101, 102]).size) : (ByteArray.mk #[48, 49, 50, 51, 52, 53, 54, 55, 56, 57, 97, 98, 99, 100, 101, 102])[n]'hlt = hexDig n := by
 match n, h with
 | 0, _ | 1, _ | 2, _ | 3, _ | 4, _ | 5, _ | 6, _ | 7, _ | 8, _ | 9, _ | 10, _ | 11, _ | 12, _ | 13, _ | 14, _ | 15, _ => rfl
 | n + 16, h => exfalso; omega
set_option maxHeartbeats 4000000 in
set_option maxRecDepth 1000000 in
theorem written_walk (b off cap : Nat) (l : List UInt8) (w : World) (hc : ∀ (j : Nat) (x : UInt8), l[j]? = some x → w.cell? ⟨b, off + j, none⟩ = some (.int .u8 (x.toNat : Int))) (hb : b < w.heap.size) (hl : l.length ≤ 1000000000000) :
  Calls Tryz.prog 32 #[.slice (some ⟨b, off, none⟩) l.length cap] w fun e w' => e = .returned (.string ⟨(hexOf l).toArray⟩) ∧ Below w.heap.size w w' := by
 have HC := Lib.hid hc
 clear hc
 go_enter Tryz.func32, Tryz.ntmps32
 go_wp2
 go_loopw [8] (fun i wr => ∃ k : Nat, k ≤ l.length ∧ i = .int .i64 k ∧ Lib.IsBuilder 108 5 w.heap.size w.heap.size (Lib.byteCells (hexOf (l.take k))) wr ∧ Below w.heap.size w wr) (fun i _ => l.length - (intOf i).toNat)
 case atStart =>
  refine ⟨0, Nat.zero_le _, rfl, Lib.fresh_isBuilder 108 5 w, (Below.refl _ w).alloc (Nat.le_refl _) _⟩
 case round =>
  obtain ⟨k, hk, rfl, hI, hbw⟩ := hrel
  by_cases hlt : k < l.length
  ·obtain ⟨x, hx⟩ : ∃ x, l[k]? = some x := ⟨_, List.getElem?_eq_getElem hlt⟩
   have hcell : wr.cell? ⟨b, off + k, none⟩ = some (.int .u8 (x.toNat : Int)) := (hbw.cell (p := ⟨b, off + k, none⟩) hb).trans (HC.out k x hx)
   have hcell' : wr.cell? ⟨b, off + k * 1, none⟩ = some (.int .u8 (x.toNat : Int)) := by rw [Nat.mul_one]; exact hcell
   have e1 := hi_nib x.toNat x.toNat_lt
   have e2 := lo_nib x.toNat x.toNat_lt
   have hxl := x.toNat_lt
   have hd : 0 ≤ (x.toNat : Int) / 16 ∧ (x.toNat : Int) / 16 < 16 := by omega
   clear e1 e2 hcell'
   have hlen : (hexOf (l.take k)).length = 2 * k := by rw [hexOf_len, List.length_take]; omega
   have HL := Lib.hid hlen
   clear hlen
   go_wp2_with (go_at_call 52; refine (Tryz.Builder_WriteByte w.heap.size w.heap.size _ _ _ hI (by rw [Lib.byteCells_length, HL.out]; omega) hbw.size).mono ?_)
   rintro e W1 ⟨rfl, h1, b1⟩
   go_wp2_with (go_at_call 52; refine (Tryz.Builder_WriteByte w.heap.size w.heap.size _ _ _ (Or.inr h1) (by rw [List.length_append, Lib.byteCells_length, HL.out]; simp; omega) (hbw.trans b1).size).mono ?_)
   rintro e W2 ⟨rfl, h2, b2⟩
   go_wp2
   go_roundw
   case rel =>
    refine ⟨k + 1, hlt, by simp, Or.inr ?_, (hbw.trans b1).trans b2⟩
    rw [List.take_add_one, hx, Option.toList_some, hexCells_snoc]
    simp only [dig_at _ (show x.toNat / 16 < 16 by omega), dig_at _ (show x.toNat % 16 < 16 by omega)] at h2
    exact h2
   case measure => simp [intOf]; omega
  ·have hk2 : k = l.length := by omega
   subst hk2
   rw [List.take_length] at hI
   go_wp2_with (go_at_call 42; refine (Tryz.Builder_String_any w.heap.size w.heap.size (hexOf l) _ hI hbw.size).mono ?_)
   rintro e W1 ⟨rfl, b1⟩
   go_wp2
   go_ret
   exact ⟨rfl, hbw.trans b1⟩
set_option maxHeartbeats 4000000 in
set_option maxRecDepth 1000000 in
theorem written_none (a : Option Addr) (cap : Nat) (w : World) :
  Calls Tryz.prog 32 #[.slice a 0 cap] w fun e w' => e = .returned (.string ⟨#[]⟩) ∧ Below w.heap.size w w' := by
 go_enter Tryz.func32, Tryz.ntmps32
 go_wp2
 refine wp_loop_rounds 1 ?_
 rw [rounds_succ]
 go_wp2_with (go_at_call 42; refine (Tryz.Builder_String_any w.heap.size w.heap.size [] _ (Lib.fresh_isBuilder 108 5 w) ((Below.refl _ w).alloc (Nat.le_refl _) _).size).mono ?_)
 rintro e W1 ⟨rfl, b1⟩
 go_wp2
 go_ret
 exact ⟨rfl, ((Below.refl _ w).alloc (Nat.le_refl _) _).trans b1⟩
end AM
end Go.Proofs.YtemcmblcogljkaaGreatDoor

namespace Go.Proofs.YtemcmblcogljkaaGreatDoor
namespace AM
open Go Go.RowKit
open Go.Lib (decDigits itoa nDigits atoiAll atoiSat)
open TP
def AH0 : AH := ⟨0, .leaf, .leaf⟩
theorem rel_zero (w : World) : Rel (oldB w) w (fun _ => none) AH0 w where
 lt h x hx := by cases hx
 row h c s hx := by cases hx
 cell h c s i v hx := by cases hx
 apart h1 h2 c s1 s2 r1 r2 hx := by cases hx
 old c _ := rfl
 prlt c h := h
 low := Nat.le_refl _
 os := rfl
 tape := rfl
 output := rfl
theorem plainT : Plain Tryz.prog where
 mixed := by kernel_rfl
 names := fun f fn hf => by
  have hall : (Tryz.prog.funcs.toList.all fun fn => !(fn.name == "runtime.NumGoroutine")) = true := by kernel_rfl
  have := List.all_eq_true.1 hall fn (by
   obtain ⟨h1, h2⟩ := Array.getElem?_eq_some_iff.1 hf
   rw [← h2]; exact Array.mem_toList_iff.2 (Array.getElem_mem h1))
  simpa using this
theorem Base.below {P : Program} {w w' : World} (h : Base P w) (hb : Below w.heap.size w w') : Base P w' := by
 have := (rel_zero w).below hb
 exact h.at this.2
theorem closed {prims : Prims} {ks : FuncId → Keeps} {k : Nat} {f : FuncId} {args : List Value} {v : Value} {H' : AH} (w : World)
  (hprim : CalleeOK Tryz.prog (oldB w) w fun f args H => match prims f with | some p => p args H | none => none)
  (h : callF Tryz.prog prims ks k f ⟨args⟩ AH0 = some (v, H')) (hv : flat v = true) (ha : flatL args = true) :
  Calls Tryz.prog f ⟨args⟩ w fun e w' => e = .returned v ∧ Below w.heap.size w w' := by
 have hs := callF_sound plainT (ks := ks) hprim k f ⟨args⟩ AH0 v H' h
 refine (hs.2 _ w ⟨args⟩ (rel_zero w) (flatL_refl args ha)).mono ?_
 rintro e w' ⟨ρ', v', rfl, hx, hr, hvr⟩
 rw [hvr.flat hv]
 exact ⟨rfl, hr.os, hr.tape, hr.output, hx.size, fun k hk => hx.frm k hk fun ⟨g, s, r, f, h1, _⟩ => (by cases h1)⟩
theorem stillCallee {f : FuncId} {fn : Func} (hf : Tryz.prog.funcs[f]? = some fn) (hb : fn.body.isNone = false) (args' : Array Value) (w : World) : (callFunc f args').run Tryz.prog w = .ok (.enter f args') w := callFunc_run plainT hf hb args' w
theorem calleeOK {w0 : World} {prims : Prims} (h : ∀ f p, prims f = some p → (∃ fn, Tryz.prog.funcs[f]? = some fn ∧ fn.body.isNone = false) ∧ PrimOK Tryz.prog w0 f p) :
  CalleeOK Tryz.prog (oldB w0) w0 fun f args H => match prims f with | some p => p args H | none => none := fun f args H v H' hc => by
 simp only at hc
 cases hp : prims f with
 | none => rw [hp] at hc; cases hc
 | some p =>
  rw [hp] at hc
  obtain ⟨⟨fn, h1, h2⟩, h3⟩ := h f p hp
  exact ⟨fun args' w => stillCallee h1 h2 args' w, fun ρ w args' hr ha => h3 args H v H' hc ρ w args' hr ha⟩
theorem bytesOf_get : ∀ {vs : List Value} {l : List UInt8}, bytesOf vs = some l → vs = byteVals l
 | [], l, h => by simp only [bytesOf, Option.some.injEq] at h; subst h; rfl
 | .int k x :: r, l, h => by
  cases k <;> simp only [bytesOf] at h <;> try cases h
  split at h
  ·rename_i hx
   split at h
   ·rename_i l' hl
    simp only [Option.some.injEq] at h
    subst h
    rw [bytesOf_get hl]
    have e : ((x.toNat.toUInt8).toNat : Int) = x := by
     have : x.toNat < 256 := by omega
     show (((UInt8.ofNat x.toNat).toNat : Nat) : Int) = x
     rw [UInt8.toNat_ofNat']
     omega
    show _ = Value.int .u8 (((x.toNat.toUInt8).toNat : Nat) : Int) :: byteVals l'
    rw [e]
   ·cases h
  ·cases h
 | .bool _ :: _, _, h | .string _ :: _, _, h | .pointer _ :: _, _, h | .slice _ _ _ :: _, _, h | .nilFunc :: _, _, h | .nilIface :: _, _, h | .iface _ _ :: _, _, h | .func _ _ _ :: _, _, h | .agg _ :: _, _, h | .tuple _ :: _, _, h => by cases h
 | .float _ _ :: _, _, h | .complex _ _ _ :: _, _, h => by cases h
section
variable {w0 : World}
theorem ok_written : PrimOK Tryz.prog w0 32 pWritten := fun args H v H' h ρ w args' hr ha => by
 unfold pWritten at h
 split at h
 ·simp only [Option.some.injEq, Prod.mk.injEq] at h
  obtain ⟨rfl, rfl⟩ := h
  rw [args_flat ha rfl]
  exact flat_done hr rfl (written_none none 0 w)
 ·rename_i b i n cap
  split at h
  ·cases h
  ·rename_i vs hvs
   split at h
   ·cases h
   ·rename_i l hl
    split at h
    ·rename_i hn
     simp only [Option.some.injEq, Prod.mk.injEq] at h
     obtain ⟨rfl, rfl⟩ := h
     obtain ⟨u, r, e1, hu, hr1⟩ := ha.cons_inv
     have e3 := hr1.nil_inv
     subst e3
     have hargs : args' = ⟨[u]⟩ := by cases args' with | mk l' => simp only at e1; rw [e1]
     subst hargs
     have hvs2 := bytesOf_get hl
     have hln := (loadN_get hvs).1
     rw [hvs2] at hln
     simp only [byteVals, List.length_map] at hln
     cases hu with
     | slc h' i' len' cap' c s a' cap2 hρ hs hlen hcap ha' hroom =>
      by_cases h0 : l = []
      ·subst h0
       simp only [List.length_nil] at hln
       subst hln
       exact flat_done hr rfl (written_none (some a') cap2 w)
      have hpos : 0 < l.length := List.length_pos_iff.2 h0
      have ha2 := ha' (by omega)
      subst ha2
      have hcells := slice_cells hr hvs hρ hs
      have hj := written_walk c (i - s) cap2 l w (fun j x hx => by
       obtain ⟨v', k1, k2⟩ := hcells j (.int .u8 (x.toNat : Int)) (by rw [hvs2]; simp [byteVals, hx])
       rw [k1, k2.flat rfl]) (hr.blk_lt hρ) (by omega)
      rw [hln] at hj
      exact flat_done hr rfl hj
    ·cases h
 ·cases h
def pmB : Prims := fun f => match f with
 | 7 => none
 | f => pmT f
theorem ok_lib (hB : Base Tryz.prog w0) {f : FuncId} {p : Array Value → AH → Option (Value × AH)} (h7 : f ≠ 7) (hp : pmT f = some p) : (∃ fn, Tryz.prog.funcs[f]? = some fn ∧ fn.body.isNone = false) ∧ PrimOK Tryz.prog w0 f p := by
  unfold pmT at hp
  split at hp <;> try (injection hp with hp; subst hp)
  ·exact absurd rfl h7
  ·exact ⟨⟨_, Tryz.func34, rfl⟩, ok_split hB⟩
  ·exact ⟨⟨_, Tryz.func51, rfl⟩, ok_itoa hB⟩
  ·exact ⟨⟨_, Tryz.func56, rfl⟩, ok_cut hB⟩
  ·exact ⟨⟨_, Tryz.func87, rfl⟩, ok_atoi hB⟩
  ·exact ⟨⟨_, Tryz.func89, rfl⟩, ok_index⟩
  ·exact ⟨⟨_, Tryz.func33, rfl⟩, ok_join⟩
  ·exact ⟨⟨_, Tryz.func32, rfl⟩, ok_written⟩
  ·cases hp
theorem ok_pmB (hB : Base Tryz.prog w0) : CalleeOK Tryz.prog (oldB w0) w0 fun f args H => match pmB f with | some p => p args H | none => none :=
 calleeOK fun f p hp => by
  unfold pmB at hp
  split at hp
  ·cases hp
  ·rename_i h7
   exact ok_lib hB h7 hp
theorem c39_walk (w : World) (hB : Base Tryz.prog w) : Calls Tryz.prog 39 #[] w fun e w' => e = .returned (.agg #[.string (bs [111, 116, 104, 101, 114]), .string (bs [105, 110]), .string (bs [111, 117, 116]), .string (bs [97, 115, 107]), .string (bs [103, 111]), .string (bs [106, 111, 105, 110]), .string (bs [98, 97, 99, 107]), .string (bs [108, 111, 115, 116]), .string (bs [119, 114, 111, 110, 103]), .string (bs [102, 97, 105, 108, 101, 100])]) ∧ Below w.heap.size w w' :=
 closed (prims := pmB) (ks := fun _ _ => none) (k := 5) (f := 39) (args := []) (H' := ((callF Tryz.prog pmB (fun _ _ => none) 5 39 ⟨[]⟩ AH0).getD (.bool true, AH0)).2) w (ok_pmB hB) (by kernel_rfl) rfl rfl
end
end AM
end Go.Proofs.YtemcmblcogljkaaGreatDoor

