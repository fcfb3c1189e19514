/- A start with one list of numbers. What a changed text means: the law TextNear answers true at every input. No condition. -/
import Derived.Test.YtemcmblcogljkaaGreatDoorPd
import Derived.Test.YtemcmblcogljkaaGreatDoorPb
import Derived.Carry
import Derived.Test.YtemcmblcogljkaaGreatDoorCo
import Derived.Test.YtemcmblcogljkaaGreatDoorPc
import Derived.ChangeMaps5
set_option linter.all false
set_option linter.unusedSimpArgs false
set_option linter.unusedVariables false
namespace Go.Proofs.YtemcmblcogljkaaGreatDoor
namespace AM
open Go Go.RowKit Go.ChangeShapes Go.WideShapes
def AHc (o : Nat) (cs : List Value) : AH := ⟨1, Tr.leaf.put 0 ⟨0, o, o + cs.length, 0⟩, Tr.leaf.put 0 ⟨true, 0, Tr.leaf.putAll o (cs.map fun v => (v, 0))⟩⟩
theorem AHc_row (o : Nat) (cs : List Value) (h : Nat) (r : Row) (e : (AHc o cs).rows.get h = some r) : h = 0 ∧ r = ⟨0, o, o + cs.length, 0⟩ := by
 simp only [AHc, Tr.get_put] at e
 split at e
 ·rename_i h0
  injection e with e
  exact ⟨h0, e.symm⟩
 ·rw [Tr.get_leaf] at e; cases e
theorem AHc_wf (o : Nat) (cs : List Value) : WF (AHc o cs) where
 row h r e := by
  obtain ⟨rfl, rfl⟩ := AHc_row o cs h r e
  exact ⟨Nat.zero_lt_one, Nat.zero_lt_one⟩
 fam g f e := by
  simp only [AHc, Tr.get_put] at e
  split at e
  ·rename_i h0; subst h0; exact Nat.zero_lt_one
  ·rw [Tr.get_leaf] at e; cases e
theorem AHc_load (o : Nat) (cs : List Value) (i : Nat) : (AHc o cs).load 0 i = if o ≤ i then cs[i - o]? else none := by
 unfold AH.load
 simp only [AHc, Tr.get_put_same, Tr.get_putAll, Tr.get_leaf, List.length_map, List.getElem?_map]
 by_cases h : o ≤ i
 ·rw [if_pos h]
  by_cases h2 : i < o + cs.length
  ·rw [if_pos ⟨h, h2⟩, List.getElem?_eq_getElem (by omega)]
   simp only [Option.map_some, ble_of h, blt_of h2, ble_of (Nat.le_refl 0), Bool.and_self]
  ·rw [if_neg (by omega), List.getElem?_eq_none (by omega)]
 ·rw [if_neg h, if_neg (by omega)]
theorem rel_one (w : World) {c o : Nat} {ns : List Int} (hc : ∀ i x, ns[i]? = some x → w.cell? ⟨c, o + i, none⟩ = some (.int .i64 x)) {arr : Array Value} {e : TypeId} {fr : Nat × Nat} (hb : w.heap[c]? = some (.cells arr e fr)) (hsz : o + ns.length ≤ arr.size) :
  Rel (oldB w) w (fun h => if h = 0 then some (c, 0) else none) (AHc o (ns.map fun n => .int .i64 n)) w where
 lt h x hx := by
  split at hx
  ·rename_i h0; subst h0; exact Nat.zero_lt_one
  ·cases hx
 row h c' s hx := by
  split at hx
  ·rename_i h0
   subst h0
   simp only [Option.some.injEq, Prod.mk.injEq] at hx
   obtain ⟨rfl, rfl⟩ := hx
   exact ⟨_, _, arr, e, fr, Tr.get_put_same _ _ _, Tr.get_put_same _ _ _, hb, Nat.zero_le _, by simp only; omega, by simp only [List.length_map]; omega, Nat.zero_le _, Nat.zero_lt_one, Nat.zero_lt_one, fun h => by cases h⟩
  ·cases hx
 cell h c' s i v hx hl := by
  split at hx
  ·rename_i h0
   subst h0
   simp only [Option.some.injEq, Prod.mk.injEq] at hx
   obtain ⟨rfl, rfl⟩ := hx
   rw [AHc_load] at hl
   split at hl
   ·rename_i h1
    rw [List.getElem?_map, Option.map_eq_some_iff] at hl
    obtain ⟨x, hx, rfl⟩ := hl
    have := hc _ x hx
    rw [show o + (i - o) = i - 0 by omega] at this
    exact ⟨_, this, .int .i64 x⟩
   ·cases hl
  ·cases hx
 apart h1 h2 c' s1 s2 r1 r2 hx1 hx2 hr1 hr2 := by
  obtain ⟨rfl, rfl⟩ := AHc_row _ _ _ _ hr1
  obtain ⟨rfl, rfl⟩ := AHc_row _ _ _ _ hr2
  exact .inr ⟨⟨_, Tr.get_put_same _ _ _, rfl⟩, ⟨_, Tr.get_put_same _ _ _, rfl⟩⟩
 old c _ := rfl
 prlt c h := h
 low := Nat.le_refl _
 os := rfl
 tape := rfl
 output := rfl
theorem closed_one {prims : Prims} {ks : FuncId → Keeps} {k : Nat} {f : FuncId} {args : List Value} {args' : Array Value} {v : Value} {H H' : AH} {ρ : Rho} (w : World) (hr : Rel (oldB w) w ρ H w) (hro : ∀ h x r f, ρ h = some x → H.rows.get h = some r → H.fams.get r.root = some f → f.ro = true)
  (hprim : CalleeOK Tryz.prog (oldB w) w fun f args H => match prims f with | some p => p args H | none => none)
  (h : callF Tryz.prog prims ks k f ⟨args⟩ H = some (v, H')) (hv : flat v = true) (ha : VRs ρ H w args args'.toList) :
  Calls Tryz.prog f args' w fun e w' => e = .returned v ∧ Below w.heap.size w w' := by
 have hs := callF_sound plainT (ks := ks) hprim k f ⟨args⟩ H v H' h
 refine (hs.2 _ w args' hr ha).mono ?_
 rintro e w' ⟨ρ', v', rfl, hx, hr, hvr⟩
 rw [hvr.flat hv]
 refine ⟨rfl, hr.os, hr.tape, hr.output, hx.size, fun k hk => hx.frm k hk ?_⟩
 rintro ⟨g, s, r, f, h1, h2, h3, h4⟩
 rw [hro g _ r f h1 h2 h3] at h4
 cases h4
theorem AHc_ro (o : Nat) (cs : List Value) (h : Nat) (r : Row) (f : Fam) (e : (AHc o cs).rows.get h = some r) (e2 : (AHc o cs).fams.get r.root = some f) : f.ro = true := by
 obtain ⟨rfl, rfl⟩ := AHc_row o cs h r e
 simp only [AHc, Tr.get_put_same, Option.some.injEq] at e2
 subst e2
 rfl
theorem wfZ : WF AH0 where
 row h r e := by
  have e : (Tr.leaf : Tr Row).get h = some r := e
  rw [Tr.get_leaf] at e; cases e
 fam g f e := by
  have e : (Tr.leaf : Tr Fam).get g = some f := e
  rw [Tr.get_leaf] at e; cases e
theorem ints_start {W : World} (hB : Base Tryz.prog W) {H : Type} {enc : TypeId × Value → H} {t : TypeId} {v : Value} {d : DataW H} {p : List MemPlace} (ht : Tryz.prog.underlying t = some (.slice 3)) (h : DataW.Trod enc Tryz.prog W 0 (fun _ => true) true t v d p) (hv : v.cells.toList = [v]) :
  ∃ (ρ : Rho) (G : AH) (b : Option Addr) (n k : Nat) (ns : List Int), WF G ∧ Rel (oldB W) W ρ G W ∧ (∀ h x r f, ρ h = some x → G.rows.get h = some r → G.fams.get r.root = some f → f.ro = true) ∧ VR ρ G W (.slice b n k) v ∧ (∀ a, b = some a → a.spot = none) ∧ Rd G 1 b n (ns.map fun n => [.int .i64 n]) ∧ ∀ n ∈ ns, -9223372036854775808 ≤ n ∧ n ≤ 9223372036854775807 := by
 obtain ⟨fuel, hf⟩ := h
 rw [hv] at hf
 rcases open_ints ht (show Tryz.prog.underlying 3 = some (.int .i64) by kernel_rfl) (by kernel_rfl) hf with ⟨e, _⟩ | ⟨a, len, cap, zs, e, _, hlc, _, hz, _, hcell, hwf⟩
 ·injection e with e
  subst e
  have hr := rel_zero W
  exact ⟨_, AH0, none, 0, 0, [], wfZ, hr, fun h x r f hx => (by cases hx), .slcNil, fun a h => (by cases h), ⟨rfl, fun i r h => (by simp at h)⟩, fun n h => (by cases h)⟩
 ·injection e with e
  subst e
  have hz : zs.length = cap := hz
  have hrange : ∀ n ∈ zs.take len, -9223372036854775808 ≤ n ∧ n ≤ 9223372036854775807 := fun n hn => by
   have := hwf n (List.mem_of_mem_take hn)
   have h2 : (decide (-9223372036854775808 ≤ n) && decide (n ≤ 9223372036854775807)) = true := this
   simpa using h2
  by_cases h0 : cap = 0
  ·obtain ⟨m, hm⟩ := hB.mx
   obtain ⟨arr, e, fr, hb⟩ : ∃ arr e fr, W.heap[0]? = some (.cells arr e fr) := by
    unfold World.cell? at hm
    split at hm
    ·rename_i c' x y hh; exact ⟨c', x, y, hh⟩
    ·cases hm
   have hl : len = 0 := by omega
   subst hl; subst h0
   have hr := rel_one W (c := 0) (o := 0) (ns := []) (fun i x h => by simp at h) hb (by simp)
   refine ⟨fun h => if h = 0 then some (0, 0) else none, AHc 0 [], some ⟨0, 0, none⟩, 0, 0, [], AHc_wf 0 _, hr, fun h x r f _ h2 h3 => AHc_ro _ _ h r f h2 h3, .slc 0 0 0 0 0 0 a 0 (if_pos rfl) (Nat.le_refl _) (Nat.le_refl _) (Nat.le_refl _) (fun h => by omega) (fun r hg => .inl ?_), fun a h => by rw [← Option.some.inj h], ⟨rfl, fun i r h => by simp at h⟩, fun n h => by cases h⟩
   obtain ⟨_, rfl⟩ := AHc_row _ _ _ _ hg
   rfl
  ·have hc0 := hcell 0 (by omega)
   have hspot : a.spot = none := by simpa [Addr.add] using World.cell?_spot hc0
   obtain ⟨c, o, sp⟩ := a
   simp only at hspot
   subst hspot
   have hadd : ∀ i, (⟨c, o, none⟩ : Addr).add i = ⟨c, o + i, none⟩ := fun i => by
    unfold Addr.add; split
    ·rename_i h; rw [h]; rfl
    ·rfl
   have hcell' : ∀ i x, zs[i]? = some x → W.cell? ⟨c, o + i, none⟩ = some (.int .i64 x) := fun i x hx => by
    have := hcell i (List.getElem?_eq_some_iff.1 hx).1
    rw [hadd, List.getD_eq_getElem?_getD, hx] at this
    exact this
   obtain ⟨arr, e, fr, hb, hsz⟩ : ∃ arr e fr, W.heap[c]? = some (.cells arr e fr) ∧ o + cap ≤ arr.size := by
    obtain ⟨x, hx⟩ : ∃ x, zs[cap - 1]? = some x := ⟨_, List.getElem?_eq_getElem (by omega)⟩
    have := hcell' _ x hx
    unfold World.cell? at this
    split at this
    ·rename_i c' x1 y hh
     simp only [Option.isSome_none, Bool.false_eq_true, if_false] at this
     have := (Array.getElem?_eq_some_iff.1 this).1
     exact ⟨c', x1, y, hh, by omega⟩
    ·cases this
   have htl : (zs.take len).length = len := by rw [List.length_take]; omega
   have hr := rel_one W (c := c) (o := o) (ns := zs.take len) (fun i x hx => by
    have hi := (List.getElem?_eq_some_iff.1 hx).1
    rw [List.getElem?_take_of_lt (by omega)] at hx
    exact hcell' i x hx) hb (by omega)
   refine ⟨fun h => if h = 0 then some (c, 0) else none, AHc o ((zs.take len).map fun n => .int .i64 n), some ⟨0, o, none⟩, len, len, zs.take len, AHc_wf o _, hr, fun h x r f _ h2 h3 => AHc_ro _ _ h r f h2 h3, .slc 0 o len len c 0 _ cap (if_pos rfl) (Nat.zero_le _) (Nat.le_refl _) hlc (fun _ => rfl) (fun r hg => .inl ?_), fun a h => by rw [← Option.some.inj h], ⟨by rw [List.length_map, htl], fun i r h => ?_⟩, hrange⟩
   ·obtain ⟨_, rfl⟩ := AHc_row _ _ _ _ hg
    rfl
   ·rw [List.getElem?_map, Option.map_eq_some_iff] at h
    obtain ⟨x, hx, rfl⟩ := h
    refine ⟨0, o, rfl, fun k hk => ?_⟩
    have hk0 : k = 0 := by omega
    subst hk0
    rw [AHc_load, if_pos (by omega), show o + i * 1 + 0 - o = i by omega, List.getElem?_map, hx]
    exact ⟨rfl, rfl⟩
end AM
end Go.Proofs.YtemcmblcogljkaaGreatDoor

namespace Go.Proofs.YtemcmblcogljkaaGreatDoor
namespace AM
open Go Go.RowKit Go.ChangeShapes Go.WideShapes Go.ChangeAt
open YtemcmblcogljkaaGreatDoor
set_option maxRecDepth 100000 in
theorem near_lifted (os : Os) (started : os.Started) (H : Type) (enc : TypeId × Value → H) :
  ReturnsInHanded {} Tryz.checked os 4 .any (fun w args => (Rows.textNearSpec.pre enc Tryz.prog Tryz.f4 [] false w args ∧ laidMetH Tryz.prog Rows.textRawRow.laid w) ∧ sizedMet enc Tryz.prog Tryz.f4 (OpenSpec.ofChange Rows.textNearSpec) false w args)
   (Rows.textNearSpec.post enc Tryz.prog Tryz.f4 false true false false) := by
 refine returns_shaped (C := Tryz.checked) (X := fun w _ => laidMetH Tryz.prog Rows.textRawRow.laid w) (fun _ _ _ hh h => h.of_heap hh) ownT started (by kernel_rfl) Tryz.func4
  (ChangeSpec.witness_shaped (enc := enc) (C := Tryz.checked) (os := os) (X := fun w _ => laidMetH Tryz.prog Rows.textRawRow.laid w) false (World.laidAll Tryz.prog os Rows.textRawRow.laid) #[.slice none 0 0, .int .i64 0, .int .i64 0, .int .u8 0, .int .u8 0] 8 (World.laidAll_os _ _ _)
   (World.shaped_of_ZipB (by kernel_rfl) (by kernel_rfl)) (by kernel_rfl) (by kernel_rfl) (by kernel_rfl) (laid_world os _)) ?_
 intro W base args ds gs before hval0 hW _ hL hsh
 have hval : ∀ (j : Nat) t v, Tryz.f4.params[j]? = some t → args[j]? = some v → Value.okWide Tryz.prog W .any base t v := hval0
 have hW' := hW
 obtain ⟨p, q, hA0, hV, rfl, _, _⟩ := hW
 have hA : DataW.TrodAll enc Tryz.prog W 0 (fun _ => true) true Tryz.f4.params.toList args.toList ds p := hA0
 rw [Tryz.params4] at hA hval
 obtain ⟨v0, vs0, d0, ds0, p0, q0, e0, rfl, rfl, h0, hA1⟩ := trodAll_cons hA
 obtain ⟨v1, vs1, d1, ds1, p1, q1, rfl, rfl, rfl, h1, hA2⟩ := trodAll_cons hA1
 obtain ⟨v2, vs2, d2, ds2, p2, q2, rfl, rfl, rfl, h2, hA3⟩ := trodAll_cons hA2
 obtain ⟨v3, vs3, d3, ds3, p3, q3, rfl, rfl, rfl, h3, hA4⟩ := trodAll_cons hA3
 obtain ⟨v4, vs4, d4, ds4, p4, q4, rfl, rfl, rfl, h4, hA5⟩ := trodAll_cons hA4
 obtain ⟨rfl, rfl, rfl⟩ := trodAll_nil hA5
 have hargs : args = #[v0, v1, v2, v3, v4] := by cases args; simp_all
 subst hargs
 obtain ⟨rfl, rfl⟩ := trodVars_none hV
 obtain ⟨n1, rfl, rfl, rfl, w1⟩ := open_int Tryz.underlying3 (hval 1 3 v1 rfl rfl) h1
 obtain ⟨n2, rfl, rfl, rfl, w2⟩ := open_int Tryz.underlying3 (hval 2 3 v2 rfl rfl) h2
 obtain ⟨n3, rfl, rfl, rfl, w3⟩ := open_int Tryz.underlying5 (hval 3 5 v3 rfl rfl) h3
 obtain ⟨n4, rfl, rfl, rfl, w4⟩ := open_int Tryz.underlying5 (hval 4 5 v4 rfl rfl) h4
 have hB := base_of hL hsh
 have hb3 : 0 ≤ n3 ∧ n3 ≤ 255 := by
  have : (decide (0 ≤ n3) && decide (n3 ≤ 255)) = true := w3
  simpa using this
 have hb4 : 0 ≤ n4 ∧ n4 ≤ 255 := by
  have : (decide (0 ≤ n4) && decide (n4 ≤ 255)) = true := w4
  simpa using this
 have hcells : v0.cells.toList = [v0] := by
  obtain ⟨a, n, k, rfl⟩ := okWide_slice Tryz.underlying24 (hval 0 24 v0 rfl rfl)
  rfl
 obtain ⟨ρ, G, b, n, k, ns, hwf, hr, hro, hvr, hsp, hrd, hns⟩ := ints_start hB Tryz.underlying24 h0 hcells
 obtain ⟨k4, v, H', c1, c2⟩ := c4 (b := b) (n := n) (k := k) (a1 := n1) (a2 := n2) (a3 := n3) (a4 := n4) hwf hsp ⟨ns, hrd, hns⟩ hb3 hb4.1 (Q := fun v _ => v = .bool true) fun _ _ => rfl
 subst c2
 have hlt : ∀ x ∈ p0, x.block < W.heap.size := fun x hx => by simpa using hW'.lt x (by simp [hx])
 refine (closed_one W hr hro (ok_pmT hB) c1 rfl (.cons hvr (.cons (.int _ _) (.cons (.int _ _) (.cons (.int _ _) (.cons (.int _ _) .nil)))))).mono fun e W' ⟨he, hb⟩ => ?_
 subst he
 refine ⟨_, rfl, _, _, _, [], _, [], hW', trodAll_mk1 (shut_bool Tryz.underlying4 true), trodAll_cons_mk (Below.trod (by kernel_rfl) (by kernel_rfl) (of_decide_eq_true (by kernel_rfl)) h0 hb hlt) (trodAll_mk4 (shut_int Tryz.underlying3 w1) (shut_int Tryz.underlying3 w2) (shut_int Tryz.underlying5 w3) (shut_int Tryz.underlying5 w4)), rfl, hb.frame _, fun h => by cases h⟩
end AM
open AM in
theorem textNear_holds : YtemcmblcogljkaaGreatDoor.Rows.TextNearSaid :=
 OpenClaim.holds_of_wide 4 Tryz.f4 rfl rfl rfl rfl rfl rfl rfl ⟨rfl, rfl, rfl, rfl, rfl⟩ rfl rfl rfl rfl rfl (by kernel_rfl) Tryz.func4 (by kernel_rfl)
  (of_decide_eq_true (by kernel_rfl)) (by unfold Func.isWrapper; rw [if_neg (of_decide_eq_false (by kernel_rfl))]; exact ⟨rfl, rfl⟩)
  (fun os started H enc _ => near_lifted os started H enc)
theorem textNear_plain (f : FuncId) (fn : Func) (hf : YtemcmblcogljkaaGreatDoor.Tryz.pinned.checked.prog.funcNamed "radiolink/radiolinklaw45.TextNear" = some f) (hfn : YtemcmblcogljkaaGreatDoor.Tryz.pinned.checked.prog.funcs[f]? = some fn) :
  true = YtemcmblcogljkaaGreatDoor.Tryz.pinned.checked.prog.looks [] ∧ ∀ (j : Nat) t, fn.params[j]? = some t → YtemcmblcogljkaaGreatDoor.Tryz.pinned.checked.prog.wantsStandIn t = false := by
 obtain rfl : f = 4 := Option.some.inj ((show Tryz.prog.funcNamed "radiolink/radiolinklaw45.TextNear" = some 4 by kernel_rfl).symm.trans hf) |>.symm
 obtain rfl : fn = Tryz.f4 := (Option.some.inj (Tryz.func4.symm.trans hfn)).symm
 refine ⟨by kernel_rfl, fun j t ht => ?_⟩
 rw [Tryz.params4] at ht
 have hm : t ∈ #[24, 3, 3, 5, 5] := Array.mem_of_getElem? ht
 have hall : ((#[24, 3, 3, 5, 5] : Array TypeId).toList.all fun t => !(Tryz.prog.wantsStandIn t)) = true := by kernel_rfl
 have := List.all_eq_true.1 hall t (Array.mem_toList_iff.2 hm)
 show Tryz.prog.wantsStandIn t = false
 simpa using this
theorem textNear_card : YtemcmblcogljkaaGreatDoor.Rows.TextNearCardSaid :=
 Claim7.holds_tied_plain_at .later [] _ _ _ _ textNear_holds (fun _ h => by cases h) (by kernel_rfl) (fun _ h => by cases h) YtemcmblcogljkaaGreatDoor.textNear_row_tie rfl ⟨rfl, rfl⟩ (by kernel_rfl) rfl textNear_plain (by kernel_rfl)
end Go.Proofs.YtemcmblcogljkaaGreatDoor

