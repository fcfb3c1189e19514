/- The reference reads bearers. The reference reads packets. The reference reads one line. The reference's walk over one line. The reference reads a text. -/
import Derived.Test.YtemcmblcogljkaaGreatDoorCf
set_option linter.all false
set_option linter.unusedSimpArgs false
set_option linter.unusedVariables false
namespace Go.Proofs.YtemcmblcogljkaaGreatDoor
namespace AM
open Go
open Go.Lib (decDigits itoa nDigits)
open TP
attribute [local irreducible] f38J0
theorem len_fifteen {r : List Int} (h : r.length = 15) : ∃ v0 v1 v2 v3 v4 v5 v6 v7 v8 v9 v10 v11 v12 v13 v14, r = [v0, v1, v2, v3, v4, v5, v6, v7, v8, v9, v10, v11, v12, v13, v14] := by
 match r, h with
 | [v0, v1, v2, v3, v4, v5, v6, v7, v8, v9, v10, v11, v12, v13, v14], _ => exact ⟨v0, v1, v2, v3, v4, v5, v6, v7, v8, v9, v10, v11, v12, v13, v14, rfl⟩
def Cfg.addBear (c : Cfg) (r : List Int) : Cfg :=
 match c.terms[c.terms.length - 1]? with
 | some t => { c with terms := c.terms.set (c.terms.length - 1) { t with bears := t.bears ++ [r.take 11], bucks := t.bucks ++ [r.drop 11] } }
 | none => c
section
variable {pm : Prims} {ω : Nat → Option Comp} {H0 G : AH} {h : Nat} {pre : List Value} {c : Cfg} {l : List Pkt} {p : Parts}
theorem Doc.place (d : Doc ω H0 G h pre c l p) {i : Nat} {t : Trm} {tg : TG} (hi : c.terms[i]? = some t) (hg : p.tc[i]? = some tg) : ∃ a q, p.tb = some ⟨a, q, none⟩ ∧ p.tn = c.terms.length ∧ ∀ k, k < 14 → G.load a (q + i * 14 + k) = (t.cells tg.bb tg.bn tg.bk tg.kb tg.kn tg.kk)[k]? := by
 have hr := d.terms.sli.rd d.terms.spot (fun r hr => by obtain ⟨q, hq, rfl⟩ := List.mem_map.1 hr; rfl) (by omega)
 have hz : (tcells (c.terms.zip p.tc))[i]? = some (t.cells tg.bb tg.bn tg.bk tg.kb tg.kn tg.kk) := by
  have : (c.terms.zip p.tc)[i]? = some (t, tg) := List.getElem?_zip_eq_some.2 ⟨hi, hg⟩
  simp only [tcells, List.getElem?_map, this, Option.map_some]
 obtain ⟨a, q, h1, h2⟩ := hr.2 i _ hz
 exact ⟨a, q, h1, by rw [hr.1]; simp [tcells, d.tcl], fun k hk => (h2 k hk).1⟩
theorem upd_some {ω : Nat → Option Comp} {N M : Nat} {k k' : Comp} {g : Nat} (h : upd ω N M k g = some k') (hk : k' ≠ k) : ω g = some k' := by
 unfold upd at h
 split at h
 ·injection h with h; exact absurd h.symm hk
 ·exact h
theorem Rd.young {F : Nat → Prop} {G1 G2 : AH} {b : Option Addr} {k N : Nat} {L : List (List Value)} (hw : WF G1) (hk : Keep F G1 G2) (hr : Rd G1 1 b k L) (hne : L ≠ []) (hF : ∀ g, F g → g < N) (hroot : ∀ g, rootB G1 b g → N ≤ g) : Rd G2 1 b k L ∧ ∀ g, rootB G2 b g → N ≤ g := by
 refine ⟨hr.keep hw hk fun g hg hf => by have := hroot g hg; have := hF g hf; omega, fun g hg => ?_⟩
 obtain ⟨r, L', rfl⟩ := List.exists_cons_of_ne_nil hne
 obtain ⟨hb, jb, e, h2⟩ := hr.2 0 r rfl
 obtain ⟨h3, h4⟩ := h2 0 (by omega)
 obtain ⟨v, hv⟩ := Option.isSome_iff_exists.1 h4
 have hlt := load_lt hw (h3.trans hv)
 subst e
 refine hroot g ?_
 simp only [rootB] at hg ⊢
 rwa [hk.root hlt] at hg
theorem case_bearer (hp : Only pm) {s : List UInt8} (hs : s.length ≤ 1000000000) {w : List UInt8} {part : Int} (d : Doc ω H0 G h [I part] c l p) (he : p.tc = p.ts) {t : Trm} {tg : TG} (hi : c.terms[c.terms.length - 1]? = some t) (hg : p.tc[c.terms.length - 1]? = some tg) (hln : c.terms.length ≤ 1000000000) (hbn : tg.bn ≤ 1000000000) (hkn : tg.kn ≤ 1000000000) {Q : Value → AH → Prop}
  (hJ : ∀ ω' p' G', Doc ω' H0 G' h [I part] (c.addBear (refNums s 15)) l p' → p'.tc = p'.ts → f38J0 (OK pm) Q h 0 (bs s) (bs w) G') :
  OK pm 59 ⟨[.string (bs s), I 15]⟩ G fun v148 H149 =>
  obL (some v148) fun b150 n150 k150 =>
  obL (H149.load h ((0 + 1) + 19)) fun b151 n151 k151 =>
  obL (H149.load h ((0 + 1) + 19)) fun b152 n152 k152 =>
  obA (elemS 14 (.slice b151 n151 k151) (.int .i64 (IntKind.wrap .i64 ((n152 : Int) - 1)))) fun h153 i153 =>
  obL (H149.load h153 (i153 + 2)) fun b154 n154 k154 =>
  obA (elemS 1 (.slice b150 n150 k150) (.int .i64 0)) fun h0 i0 =>
  obI .i64 (H149.load h0 i0) fun x0 =>
  obA (elemS 1 (.slice b150 n150 k150) (.int .i64 1)) fun h1 i1 =>
  obI .i64 (H149.load h1 i1) fun x1 =>
  obA (elemS 1 (.slice b150 n150 k150) (.int .i64 2)) fun h2 i2 =>
  obI .i64 (H149.load h2 i2) fun x2 =>
  obA (elemS 1 (.slice b150 n150 k150) (.int .i64 3)) fun h3 i3 =>
  obI .i64 (H149.load h3 i3) fun x3 =>
  obA (elemS 1 (.slice b150 n150 k150) (.int .i64 4)) fun h4 i4 =>
  obI .i64 (H149.load h4 i4) fun x4 =>
  obA (elemS 1 (.slice b150 n150 k150) (.int .i64 5)) fun h5 i5 =>
  obI .i64 (H149.load h5 i5) fun x5 =>
  obA (elemS 1 (.slice b150 n150 k150) (.int .i64 6)) fun h6 i6 =>
  obI .i64 (H149.load h6 i6) fun x6 =>
  obA (elemS 1 (.slice b150 n150 k150) (.int .i64 7)) fun h7 i7 =>
  obI .i64 (H149.load h7 i7) fun x7 =>
  obA (elemS 1 (.slice b150 n150 k150) (.int .i64 8)) fun h8 i8 =>
  obI .i64 (H149.load h8 i8) fun x8 =>
  obA (elemS 1 (.slice b150 n150 k150) (.int .i64 9)) fun h9 i9 =>
  obI .i64 (H149.load h9 i9) fun x9 =>
  obA (elemS 1 (.slice b150 n150 k150) (.int .i64 10)) fun h10 i10 =>
  obI .i64 (H149.load h10 i10) fun x10 =>
  letH (H149.new 11 [.int .i64 x0, .int .i64 x1, .int .i64 x2, .int .i64 x3, .int .i64 x4, .int .i64 x5, .int .i64 x6, .int .i64 x7, .int .i64 x8, .int .i64 x9, .int .i64 x10]) fun H177 =>
  obG (appendV 11 88 H177 (.slice b154 n154 k154) (.slice (some ⟨H149.next, 0, none⟩) 1 1)) fun b178 n178 k178 H179 =>
  obH (H179.storeN h153 (i153 + 2) [.slice b178 n178 k178]) fun H180 =>
  obE1 (H177.load h153 (i153 + 2)) (.slice b154 n154 k154) (
  obE1 (H177.load h0 i0) (.int .i64 x0) (
  obE1 (H177.load h1 i1) (.int .i64 x1) (
  obE1 (H177.load h2 i2) (.int .i64 x2) (
  obE1 (H177.load h3 i3) (.int .i64 x3) (
  obE1 (H177.load h4 i4) (.int .i64 x4) (
  obE1 (H177.load h5 i5) (.int .i64 x5) (
  obE1 (H177.load h6 i6) (.int .i64 x6) (
  obE1 (H177.load h7 i7) (.int .i64 x7) (
  obE1 (H177.load h8 i8) (.int .i64 x8) (
  obE1 (H177.load h9 i9) (.int .i64 x9) (
  obE1 (H177.load h10 i10) (.int .i64 x10) (
  obL (H180.load h153 (i153 + 3)) fun b181 n181 k181 =>
  obA (elemS 1 (.slice b150 n150 k150) (.int .i64 11)) fun h11 i11 =>
  obI .i64 (H180.load h11 i11) fun x11 =>
  obA (elemS 1 (.slice b150 n150 k150) (.int .i64 12)) fun h12 i12 =>
  obI .i64 (H180.load h12 i12) fun x12 =>
  obA (elemS 1 (.slice b150 n150 k150) (.int .i64 13)) fun h13 i13 =>
  obI .i64 (H180.load h13 i13) fun x13 =>
  obA (elemS 1 (.slice b150 n150 k150) (.int .i64 14)) fun h14 i14 =>
  obI .i64 (H180.load h14 i14) fun x14 =>
  letH (H180.new 4 [.int .i64 x11, .int .i64 x12, .int .i64 x13, .int .i64 x14]) fun H190 =>
  obG (appendV 4 32 H190 (.slice b181 n181 k181) (.slice (some ⟨H180.next, 0, none⟩) 1 1)) fun b191 n191 k191 H192 =>
  obH (H192.storeN h153 (i153 + 3) [.slice b191 n191 k191]) fun H193 =>
  obE1 (H190.load h153 (i153 + 3)) (.slice b181 n181 k181) (
  obE1 (H190.load h11 i11) (.int .i64 x11) (
  obE1 (H190.load h12 i12) (.int .i64 x12) (
  obE1 (H190.load h13 i13) (.int .i64 x13) (
  obE1 (H190.load h14 i14) (.int .i64 x14) (
  f38J0 (OK pm) Q h 0 (bs s) (bs w) H193)))))))))))))))))  := by
 have hlen := (List.getElem?_eq_some_iff.1 hi).1
 refine c59 (k := 15) hp hs (by omega) d.le.wf fun G1 b g1 hr hroot => ?_
 obtain ⟨n0, n1, n2, n3, n4, n5, n6, n7, n8, n9, n10, n11, n12, n13, n14, hns⟩ := len_fifteen (refNums_length s 15)
 rw [hns] at hr hJ
 have d0 := d.ofLe g1
 have L0 := d0.box.vals
 unfold Cfg.vals at L0
 obtain ⟨a, q, ha, hn, hc⟩ := d0.place hi hg
 rw [obL_some]
 simp only [L0, Nat.reduceAdd, List.cons_append, List.nil_append, List.getElem?_cons_succ, List.getElem?_cons_zero, obL_some]
 have eel : elemS 14 (.slice p.tb p.tn p.tk) (.int .i64 (IntKind.wrap .i64 ((p.tn : Int) - 1))) = some (.pointer (some ⟨a, q + (c.terms.length - 1) * 14, none⟩)) := by
  rw [wrap_of (by omega) (by omega), show (p.tn : Int) - 1 = ((c.terms.length - 1 : Nat) : Int) by omega, ha, elemS_eq (by omega) (by omega), Int.toNat_natCast]
 rw [eel, obA_some, hc 2 (by omega)]
 simp only [Trm.cells, List.getElem?_cons_zero, List.getElem?_cons_succ, obL_some]
 obtain ⟨a0, j0, e0, f0⟩ := ints_elem hr (i := 0) (x := n0) rfl
 obtain ⟨a1, j1, e1, f1⟩ := ints_elem hr (i := 1) (x := n1) rfl
 obtain ⟨a2, j2, e2, f2⟩ := ints_elem hr (i := 2) (x := n2) rfl
 obtain ⟨a3, j3, e3, f3⟩ := ints_elem hr (i := 3) (x := n3) rfl
 obtain ⟨a4, j4, e4, f4⟩ := ints_elem hr (i := 4) (x := n4) rfl
 obtain ⟨a5, j5, e5, f5⟩ := ints_elem hr (i := 5) (x := n5) rfl
 obtain ⟨a6, j6, e6, f6⟩ := ints_elem hr (i := 6) (x := n6) rfl
 obtain ⟨a7, j7, e7, f7⟩ := ints_elem hr (i := 7) (x := n7) rfl
 obtain ⟨a8, j8, e8, f8⟩ := ints_elem hr (i := 8) (x := n8) rfl
 obtain ⟨a9, j9, e9, f9⟩ := ints_elem hr (i := 9) (x := n9) rfl
 obtain ⟨a10, j10, e10, f10⟩ := ints_elem hr (i := 10) (x := n10) rfl
 rw [show elemS 1 (.slice b 15 15) (.int .i64 0) = _ from e0, obA_some, f0, obI_some]
 rw [show elemS 1 (.slice b 15 15) (.int .i64 1) = _ from e1, obA_some, f1, obI_some]
 rw [show elemS 1 (.slice b 15 15) (.int .i64 2) = _ from e2, obA_some, f2, obI_some]
 rw [show elemS 1 (.slice b 15 15) (.int .i64 3) = _ from e3, obA_some, f3, obI_some]
 rw [show elemS 1 (.slice b 15 15) (.int .i64 4) = _ from e4, obA_some, f4, obI_some]
 rw [show elemS 1 (.slice b 15 15) (.int .i64 5) = _ from e5, obA_some, f5, obI_some]
 rw [show elemS 1 (.slice b 15 15) (.int .i64 6) = _ from e6, obA_some, f6, obI_some]
 rw [show elemS 1 (.slice b 15 15) (.int .i64 7) = _ from e7, obA_some, f7, obI_some]
 rw [show elemS 1 (.slice b 15 15) (.int .i64 8) = _ from e8, obA_some, f8, obI_some]
 rw [show elemS 1 (.slice b 15 15) (.int .i64 9) = _ from e9, obA_some, f9, obI_some]
 rw [show elemS 1 (.slice b 15 15) (.int .i64 10) = _ from e10, obA_some, f10, obI_some]
 rw [letH_eq]
 have m1 := new_le g1.wf 11 [I n0, I n1, I n2, I n3, I n4, I n5, I n6, I n7, I n8, I n9, I n10]
 have d1 := d0.ofLe m1
 obtain ⟨b', G2, a1, k2, d2⟩ := d1.bear hi (by rw [← he]; exact hg) (r := [n0, n1, n2, n3, n4, n5, n6, n7, n8, n9, n10]) rfl hbn (hs := G1.next) fun j _ => by rw [Nat.zero_add, new_load]; rfl
 rw [a1, obG_some]
 have hil2 : (c.terms.set (c.terms.length - 1) { t with bears := t.bears ++ [[n0, n1, n2, n3, n4, n5, n6, n7, n8, n9, n10]] })[c.terms.length - 1]? = some { t with bears := t.bears ++ [[n0, n1, n2, n3, n4, n5, n6, n7, n8, n9, n10]] } := by rw [List.getElem?_set_self hlen]
 obtain ⟨G3, s3, k3, _, d3⟩ := d2.cell (tg := tg) (tg' := { tg with bb := b', bn := tg.bn + 1, bk := tg.bn + 1 }) hil2 hg (j := 2) (v := .slice b' (tg.bn + 1) (tg.bn + 1)) (by omega) rfl rfl ha
 rw [s3, obH_some]
 have mc := m1.load g1.wf (hc 2 (by omega))
 rw [mc, obE1_slice (d0.bears _ t tg hi (by rw [← he]; exact hg)).spot]
 rw [m1.load g1.wf f0, obE1_int]
 rw [m1.load g1.wf f1, obE1_int]
 rw [m1.load g1.wf f2, obE1_int]
 rw [m1.load g1.wf f3, obE1_int]
 rw [m1.load g1.wf f4, obE1_int]
 rw [m1.load g1.wf f5, obE1_int]
 rw [m1.load g1.wf f6, obE1_int]
 rw [m1.load g1.wf f7, obE1_int]
 rw [m1.load g1.wf f8, obE1_int]
 rw [m1.load g1.wf f9, obE1_int]
 rw [m1.load g1.wf f10, obE1_int]
 -- the numbers again
 have y1 := Rd.young g1.wf m1 hr (by simp [ints1]) (fun g hh => hh.elim) hroot
 have y2 := Rd.young m1.wf k2 y1.1 (by simp [ints1]) (fun g hh => d.dom g _ ((d1.bears _ t tg hi (by rw [← he]; exact hg)).own g hh)) y1.2
 have y3 := Rd.young k2.wf k3 y2.1 (by simp [ints1]) (fun g hh => d.dom g _ (upd_some (d2.terms.own g hh) (by simp))) y2.2
 have hgl := (List.getElem?_eq_some_iff.1 hg).1
 have hg3 : (p.tc.set (c.terms.length - 1) { tg with bb := b', bn := tg.bn + 1, bk := tg.bn + 1 })[c.terms.length - 1]? = some { tg with bb := b', bn := tg.bn + 1, bk := tg.bn + 1 } := by rw [List.getElem?_set_self hgl]
 obtain ⟨a', q', ha', _, hc3⟩ := d3.place hil2 hg3
 have eaq := ha.symm.trans ha'
 simp only [Option.some.injEq, Addr.mk.injEq, and_true] at eaq
 obtain ⟨rfl, rfl⟩ := eaq
 rw [hc3 3 (by omega)]
 simp only [Trm.cells, List.getElem?_cons_zero, List.getElem?_cons_succ, obL_some]
 obtain ⟨a11, j11, e11, f11⟩ := ints_elem y3.1 (i := 11) (x := n11) rfl
 obtain ⟨a12, j12, e12, f12⟩ := ints_elem y3.1 (i := 12) (x := n12) rfl
 obtain ⟨a13, j13, e13, f13⟩ := ints_elem y3.1 (i := 13) (x := n13) rfl
 obtain ⟨a14, j14, e14, f14⟩ := ints_elem y3.1 (i := 14) (x := n14) rfl
 rw [show elemS 1 (.slice b 15 15) (.int .i64 11) = _ from e11, obA_some, f11, obI_some]
 rw [show elemS 1 (.slice b 15 15) (.int .i64 12) = _ from e12, obA_some, f12, obI_some]
 rw [show elemS 1 (.slice b 15 15) (.int .i64 13) = _ from e13, obA_some, f13, obI_some]
 rw [show elemS 1 (.slice b 15 15) (.int .i64 14) = _ from e14, obA_some, f14, obI_some]
 rw [letH_eq]
 have m2 := new_le k3.wf 4 [I n11, I n12, I n13, I n14]
 have d4 := d3.ofLe m2
 have hg4 : (p.ts.set (c.terms.length - 1) { tg with bb := b', bn := tg.bn + 1, bk := tg.bn + 1 })[c.terms.length - 1]? = some { tg with bb := b', bn := tg.bn + 1, bk := tg.bn + 1 } := by rw [← he, List.getElem?_set_self hgl]
 obtain ⟨b'', G4, a2, k4, d5⟩ := d4.buck hil2 hg4 (r := [n11, n12, n13, n14]) rfl hkn (hs := G3.next) fun j _ => by rw [Nat.zero_add, new_load]; rfl
 rw [a2, obG_some]
 have hil5 : ((c.terms.set (c.terms.length - 1) { t with bears := t.bears ++ [[n0, n1, n2, n3, n4, n5, n6, n7, n8, n9, n10]] }).set (c.terms.length - 1) { t with bears := t.bears ++ [[n0, n1, n2, n3, n4, n5, n6, n7, n8, n9, n10]], bucks := t.bucks ++ [[n11, n12, n13, n14]] })[c.terms.length - 1]? = some { t with bears := t.bears ++ [[n0, n1, n2, n3, n4, n5, n6, n7, n8, n9, n10]], bucks := t.bucks ++ [[n11, n12, n13, n14]] } := by rw [List.getElem?_set_self (by rw [List.length_set]; exact hlen)]
 obtain ⟨G5, s5, k5, _, d6⟩ := d5.cell (tg := { tg with bb := b', bn := tg.bn + 1, bk := tg.bn + 1 }) (tg' := { tg with bb := b', bn := tg.bn + 1, bk := tg.bn + 1, kb := b'', kn := tg.kn + 1, kk := tg.kn + 1 }) hil5 hg3 (j := 3) (v := .slice b'' (tg.kn + 1) (tg.kn + 1)) (by omega) rfl rfl ha
 rw [s5, obH_some]
 have mc2 := m2.load k3.wf (hc3 3 (by omega))
 rw [mc2, obE1_slice (d0.bucks _ t tg hi (by rw [← he]; exact hg)).spot]
 rw [m2.load k3.wf f11, obE1_int]
 rw [m2.load k3.wf f12, obE1_int]
 rw [m2.load k3.wf f13, obE1_int]
 rw [m2.load k3.wf f14, obE1_int]
 have e : c.addBear [n0, n1, n2, n3, n4, n5, n6, n7, n8, n9, n10, n11, n12, n13, n14] = { c with terms := (c.terms.set (c.terms.length - 1) { t with bears := t.bears ++ [[n0, n1, n2, n3, n4, n5, n6, n7, n8, n9, n10]] }).set (c.terms.length - 1) { t with bears := t.bears ++ [[n0, n1, n2, n3, n4, n5, n6, n7, n8, n9, n10]], bucks := t.bucks ++ [[n11, n12, n13, n14]] } } := by
  rw [Cfg.addBear, hi, List.set_set]; rfl
 rw [← e] at d6
 exact hJ _ _ G5 d6 (by simp only [he])
end
end AM
end Go.Proofs.YtemcmblcogljkaaGreatDoor

namespace Go.Proofs.YtemcmblcogljkaaGreatDoor
namespace AM
open Go
open Go.Lib (decDigits itoa nDigits)
open TP
attribute [local irreducible] f38J0
theorem len_four {r : List Int} (h : r.length = 4) : ∃ a b c d, r = [a, b, c, d] := by
 match r, h with
 | [a, b, c, d], _ => exact ⟨a, b, c, d, rfl⟩
def pktOf (s : List UInt8) : Pkt := ⟨(refNums s 4).getD 0 0, (refNums s 4).getD 1 0, (refNums s 4).getD 2 0, (refNums s 4).getD 3 0, refBytes s⟩
section
variable {pm : Prims} {ω : Nat → Option Comp} {H0 G : AH} {h : Nat} {pre : List Value} {c : Cfg} {l : List Pkt} {p : Parts}
theorem case_packet (hp : Only pm) {s : List UInt8} (hs : s.length ≤ 1000000000) {w : List UInt8} {part : Int} (d : Doc ω H0 G h [I part] c l p) (hxn : p.xn ≤ 1000000000) {Q : Value → AH → Prop}
  (hJ : ∀ ω' p' G', Doc ω' H0 G' h [I 6] c (l ++ [pktOf s]) p' → p'.tc = p.tc → p'.ts = p.ts → f38J0 (OK pm) Q h 0 (bs s) (bs w) G') :
  OK pm 59 ⟨[.string (bs s), I 4]⟩ G fun v198 H199 =>
  obL (some v198) fun b200 n200 k200 =>
  OK pm 37 ⟨[.string (bs s), .int .u8 32]⟩ H199 fun v201 H202 =>
  obL (some v201) fun b203 n203 k203 =>
  obL (H202.load h (0 + 21)) fun b204 n204 k204 =>
  obA (elemS 1 (.slice b200 n200 k200) (.int .i64 0)) fun h0 i0 =>
  obI .i64 (H202.load h0 i0) fun x0 =>
  obA (elemS 1 (.slice b200 n200 k200) (.int .i64 1)) fun h1 i1 =>
  obI .i64 (H202.load h1 i1) fun x1 =>
  obA (elemS 1 (.slice b200 n200 k200) (.int .i64 2)) fun h2 i2 =>
  obI .i64 (H202.load h2 i2) fun x2 =>
  obA (elemS 1 (.slice b200 n200 k200) (.int .i64 3)) fun h3 i3 =>
  obI .i64 (H202.load h3 i3) fun x3 =>
  obA (elemS 1 (.slice b203 n203 k203) (.int .i64 (IntKind.wrap .i64 ((n203 : Int) - 1)))) fun h213 i213 =>
  obS (H202.load h213 i213) fun s214 =>
  OK pm 60 ⟨[.string s214]⟩ H202 fun v215 H216 =>
  obL (some v215) fun b217 n217 k217 =>
  letH (H216.new 5 [.int .i64 x0, .int .i64 x1, .int .i64 x2, .int .i64 x3, .slice b217 n217 k217]) fun H218 =>
  obG (appendV 5 56 H218 (.slice b204 n204 k204) (.slice (some ⟨H216.next, 0, none⟩) 1 1)) fun b219 n219 k219 H220 =>
  obH (H220.storeN h (0 + 21) [.slice b219 n219 k219]) fun H221 =>
  obE1 (H218.load h (0 + 21)) (.slice b204 n204 k204) (
  obE1 (H202.load h (0 + 21)) (.slice b204 n204 k204) (
  obE1 (H218.load h0 i0) (.int .i64 x0) (
  obE1 (H202.load h0 i0) (.int .i64 x0) (
  obE1 (H218.load h1 i1) (.int .i64 x1) (
  obE1 (H202.load h1 i1) (.int .i64 x1) (
  obE1 (H218.load h2 i2) (.int .i64 x2) (
  obE1 (H202.load h2 i2) (.int .i64 x2) (
  obE1 (H218.load h3 i3) (.int .i64 x3) (
  obE1 (H202.load h3 i3) (.int .i64 x3) (
  obE1 (H202.load h213 i213) (.string s214) (
  obH (H221.storeN h (0 + 0) [.int .i64 6]) fun H222 =>
  f38J0 (OK pm) Q h 0 (bs s) (bs w) H222)))))))))))  := by
 refine c59 (k := 4) hp hs (by omega) d.le.wf fun G1 b g1 hr hroot => ?_
 obtain ⟨n0, n1, n2, n3, hns⟩ := len_four (refNums_length s 4)
 have hpk : pktOf s = ⟨n0, n1, n2, n3, refBytes s⟩ := by rw [pktOf, hns]; rfl
 rw [hpk] at hJ
 rw [hns] at hr
 rw [obL_some]
 refine c37 (c := 32) hp hs g1.wf fun G2 b2 g2 hs2 _ hb2 => ?_
 have hspot : ∀ a, b2 = some a → a.spot = none := fun a ha => by obtain ⟨p, q, e⟩ := hb2; rw [e] at ha; injection ha with ha; subst ha; rfl
 have hrd := hs2.rd1 hspot
 have hlen2 : (cutAt 32 s).length ≤ 1000000001 := by
  have e := cutAt_join (c := 32) s
  have : ∀ L : List (List UInt8), L.length ≤ ([(32 : UInt8)].intercalate L).length + 1 := by
   intro L
   induction L with
   | nil => simp
   | cons q L ih =>
    cases L with
    | nil => simp
    | cons q2 L =>
     have hstep : [(32 : UInt8)].intercalate (q :: q2 :: L) = q ++ 32 :: [(32 : UInt8)].intercalate (q2 :: L) := by simp [List.intercalate, List.intersperse]
     rw [hstep, List.length_append]
     simp only [List.length_cons] at ih ⊢
     omega
  have := this (cutAt 32 s)
  rw [e] at this; omega
 have d0 := (d.ofLe g1).ofLe g2
 have L0 := d0.box.vals
 unfold Cfg.vals at L0
 rw [obL_some]
 simp only [L0, Nat.reduceAdd, List.cons_append, List.nil_append, List.getElem?_cons_succ, List.getElem?_cons_zero, obL_some]
 obtain ⟨a0, j0, e0, f0⟩ := ints_elem (hr.le g1.wf g2) (i := 0) (x := n0) rfl
 obtain ⟨a1, j1, e1, f1⟩ := ints_elem (hr.le g1.wf g2) (i := 1) (x := n1) rfl
 obtain ⟨a2, j2, e2, f2⟩ := ints_elem (hr.le g1.wf g2) (i := 2) (x := n2) rfl
 obtain ⟨a3, j3, e3, f3⟩ := ints_elem (hr.le g1.wf g2) (i := 3) (x := n3) rfl
 rw [show elemS 1 (.slice b 4 4) (.int .i64 0) = _ from e0, obA_some, f0, obI_some]
 rw [show elemS 1 (.slice b 4 4) (.int .i64 1) = _ from e1, obA_some, f1, obI_some]
 rw [show elemS 1 (.slice b 4 4) (.int .i64 2) = _ from e2, obA_some, f2, obI_some]
 rw [show elemS 1 (.slice b 4 4) (.int .i64 3) = _ from e3, obA_some, f3, obI_some]
 have hne := cutAt_ne 32 s
 have hpos : 0 < (cutAt 32 s).length := List.length_pos_iff.2 hne
 have hlast : (cutAt 32 s)[(cutAt 32 s).length - 1]? = some ((cutAt 32 s).getLast hne) := by rw [List.getLast_eq_getElem hne, List.getElem?_eq_getElem (by omega)]
 obtain ⟨ax, jx, ex, fx⟩ := hrd.elem (k := (cutAt 32 s).length) (strs_get hlast) (kk := .i64)
 have fx := fx 0 (by omega)
 rw [Nat.add_zero] at fx
 simp only [List.getElem?_cons_zero] at fx
 rw [wrap_of (by omega) (by omega), show ((cutAt 32 s).length : Int) - 1 = (((cutAt 32 s).length - 1 : Nat) : Int) by omega, ex, obA_some, fx, obS_some]
 have hwl := cutAt_small (List.getLast_mem hne)
 refine c60 hp (by omega) g2.wf fun G3 db dn g3 hsd hrootd hspotd => ?_
 rw [obL_some, letH_eq]
 have hdata : (byteVals (unhex ((cutAt 32 s).getLast hne))) = byteVals (refBytes s) := rfl
 rw [hdata] at hsd
 have m1 := new_le g3.wf 5 [I n0, I n1, I n2, I n3, .slice db dn dn]
 have d1 := (d0.ofLe g3).ofLe m1
 have hsd1 := hsd.le g3.wf m1
 have hfree : ∀ g, rootB (G3.new 5 [I n0, I n1, I n2, I n3, .slice db dn dn]) db g → ω g = none ∧ H0.next ≤ g := fun g hg => by
  have h1 := hrootd g ((rootB_keep g3.wf m1 hsd g).1 hg)
  have h2 := d.le.next
  have h3 := g1.next
  have h4 := g2.next
  refine ⟨?_, by omega⟩
  cases e : ω g with
  | none => rfl
  | some k => have := d.dom g k e; omega
 have d2 := d1.claim hsd1 hfree (.data l.length)
 have L1 := d1.box.vals
 unfold Cfg.vals at L1
 simp only [L1, Nat.reduceAdd, List.cons_append, List.nil_append, List.getElem?_cons_succ, List.getElem?_cons_zero]
 obtain ⟨b', G4, q0, q1, q2, q3⟩ := d2.packet (x := ⟨n0, n1, n2, n3, refBytes s⟩) (db := db) (dn := dn) (dk := dn) ⟨hsd1, fun hh => absurd rfl (hh l.length), fun g hg => ownR_self hg, hspotd⟩ hxn (hs := G3.next) fun j _ => by rw [Nat.zero_add, new_load]; rfl
 rw [q0, obG_some]
 obtain ⟨S, t1, t2, t3, _⟩ := q1.put q2.wf (i := 0 + 21) (ws := [.slice b' (p.xn + 1) (p.xn + 1)]) (us := [I part] ++ (c.vals p.fb p.fn p.fk p.tb p.tn p.tk ++ [.slice b' (p.xn + 1) (p.xn + 1)])) (by simp [Cfg.vals]) (by simp [oneCell]) rfl
 rw [show (0 + 21 : Nat) = 21 from rfl] at t1
 rw [t1, obH_some, obE1_slice d0.pkts.spot, obE1_slice d0.pkts.spot]
 rw [m1.load g3.wf (g3.load g2.wf f0), obE1_int, obE1_int]
 rw [m1.load g3.wf (g3.load g2.wf f1), obE1_int, obE1_int]
 rw [m1.load g3.wf (g3.load g2.wf f2), obE1_int, obE1_int]
 rw [m1.load g3.wf (g3.load g2.wf f3), obE1_int, obE1_int]
 rw [obE1_str]
 have d3 := q3 S [I part] t2 t3
 obtain ⟨S2, u1, _, d4⟩ := d3.put (i := 0 + 0) (ws := [I 6]) (pre' := [I 6]) (c' := c) (by simp [Cfg.vals]) (by simp [oneCell]) rfl rfl rfl
 rw [show (0 + 0 : Nat) = 0 from rfl] at u1
 rw [u1, obH_some]
 exact hJ _ _ S2 d4 rfl rfl
end
end AM
end Go.Proofs.YtemcmblcogljkaaGreatDoor

namespace Go.Proofs.YtemcmblcogljkaaGreatDoor
namespace AM
open Go
open Go.Lib (decDigits itoa nDigits)
open TP
attribute [local irreducible] f38J0
def stepS (part : Int) (c : Cfg) (l : List Pkt) (s w : List UInt8) : Option (Int × Cfg × List Pkt) :=
 if part = 0 ∧ w = wNetwork then some (1, c.set1 (refNums s 9), l)
 else if part = 1 ∧ w = wPatience then some (2, c.set2 (refNums s 3), l)
 else if part = 2 ∧ w = wRule then some (3, c.set3 (refNums s 3), l)
 else if part = 3 ∧ w = wOuter then some (4, c.set4 (refNums s 2), l)
 else if part = 4 ∧ w = wFade then some (part, c.addFade (refNums s 5), l)
 else if (part = 4 ∨ part = 5) ∧ w = wTerminal then some (5, c.addTerm (trmOf (refNums s 12)), l)
 else if part = 5 ∧ w = wBearer then some (part, c.addBear (refNums s 15), l)
 else if part ≥ 4 ∧ w = wPacket then some (6, c, l ++ [pktOf s])
 else none
structure GoodC (N : Nat) (part : Int) (c : Cfg) (l : List Pkt) : Prop where
 lo : 0 ≤ part
 hi : part ≤ 6
 sh : c.shaped
 num : c.nb
 pk : ∀ x ∈ l, x.nb
 t5 : part = 5 → c.terms ≠ []
 eq : ∀ t ∈ c.terms, t.bucks.length = t.bears.length
 len : (textOf c l).length ≤ N
theorem small_nb {n : Int} (h : small n) : AM.nb n := by unfold small at h; unfold AM.nb; omega
theorem refNums_nb (s : List UInt8) (k : Nat) : ∀ n ∈ refNums s k, AM.nb n := fun n hn => small_nb (refNums_small s k n hn)
theorem textOf_lines (c : Cfg) (l : List Pkt) : (textOf c l).length = 4 + c.fades.length + (c.terms.flatMap Trm.lines).length + l.length := by
 simp only [textOf, Cfg.heads, List.length_append, List.length_map, List.length_cons, List.length_nil]
theorem lines_len (t : Trm) : t.lines.length = 1 + t.bears.length := by simp [Trm.lines]; omega
theorem flat_mem {c : Cfg} {t : Trm} (h : t ∈ c.terms) : t.bears.length < (c.terms.flatMap Trm.lines).length := by
 generalize c.terms = T at h
 induction T with
 | nil => cases h
 | cons a T ih =>
  rw [List.flatMap_cons, List.length_append]
  rcases List.mem_cons.1 h with rfl | h
  ·rw [lines_len]; omega
  ·have := ih h; omega
theorem flat_terms (T : List Trm) : T.length ≤ (T.flatMap Trm.lines).length := by
 induction T with
 | nil => simp
 | cons a T ih => rw [List.flatMap_cons, List.length_append, lines_len, List.length_cons]; omega
theorem flat_setlen : ∀ {T : List Trm} {i : Nat} {t u : Trm}, T[i]? = some t → u.bears.length = t.bears.length + 1 → ((T.set i u).flatMap Trm.lines).length = (T.flatMap Trm.lines).length + 1
 | [], _, _, _, h, _ => by simp at h
 | x :: T, 0, t, u, h, hu => by
  simp only [List.getElem?_cons_zero, Option.some.injEq] at h
  subst h
  simp only [List.set_cons_zero, List.flatMap_cons, List.length_append, lines_len, hu]; omega
 | x :: T, i + 1, t, u, h, hu => by
  have := flat_setlen (T := T) (i := i) (by simpa using h) hu
  simp only [List.set_cons_succ, List.flatMap_cons, List.length_append, this]; omega
theorem unhex_len : ∀ s : List UInt8, (unhex s).length ≤ s.length
 | [] => by simp [unhex]
 | [_] => by simp [unhex]
 | a :: b :: r => by have := unhex_len r; simp only [unhex, List.length_cons] at *; omega
theorem pktOf_nb {s : List UInt8} (hs : s.length ≤ 1000000000) : (pktOf s).nb := by
 obtain ⟨n0, n1, n2, n3, hns⟩ := len_four (refNums_length s 4)
 have hb := refNums_nb s 4
 refine ⟨?_, ?_⟩
 ·rw [hns] at hb
  simpa [pktOf, hns, Pkt.nums] using hb
 ·have := cutAt_small (c := 32) (s := s) (List.getLast_mem (cutAt_ne 32 s))
  have := unhex_len ((cutAt 32 s).getLast (cutAt_ne 32 s))
  show (refBytes s).length ≤ _
  unfold refBytes; omega
theorem GoodC.step {N : Nat} {part : Int} {c : Cfg} {l : List Pkt} {s w : List UInt8} (g : GoodC N part c l) (hs : s.length ≤ 1000000000) {q : Int × Cfg × List Pkt} (h : stepS part c l s w = some q) : GoodC (N + 1) q.1 q.2.1 q.2.2 ∧ (w = wPacket → q.2.2 ≠ []) ∧ 1 ≤ q.1 := by
 unfold stepS at h
 have hl := g.len
 rw [textOf_lines] at hl
 have ne {u v : List UInt8} (h1 : w = u) (h2 : u ≠ v) : ¬ w = v := fun e => h2 (h1.symm.trans e)
 split at h
 ·rename_i hc
  injection h with h; subst h
  obtain ⟨n0, n1, n2, n3, n4, n5, n6, n7, n8, hns⟩ := len_nine (refNums_length s 9)
  have hb := refNums_nb s 9
  rw [hns] at hb ⊢
  exact ⟨⟨by simp, by simp, g.sh, ⟨⟨hb, g.num.1.2⟩, g.num.2⟩, g.pk, by simp, g.eq, by rw [textOf_lines]; show 4 + c.fades.length + (c.terms.flatMap Trm.lines).length + l.length ≤ _; omega⟩, fun e => absurd e (ne hc.2 (by decide)), by simp⟩
 split at h
 ·rename_i hc
  injection h with h; subst h
  obtain ⟨n0, n1, n2, hns⟩ := len_three (refNums_length s 3)
  have hb := refNums_nb s 3
  rw [hns] at hb ⊢
  exact ⟨⟨by simp, by simp, g.sh, ⟨⟨g.num.1.1, hb, g.num.1.2.2⟩, g.num.2⟩, g.pk, by simp, g.eq, by rw [textOf_lines]; show 4 + c.fades.length + (c.terms.flatMap Trm.lines).length + l.length ≤ _; omega⟩, fun e => absurd e (ne hc.2 (by decide)), by simp⟩
 split at h
 ·rename_i hc
  injection h with h; subst h
  obtain ⟨n0, n1, n2, hns⟩ := len_three (refNums_length s 3)
  have hb := refNums_nb s 3
  rw [hns] at hb ⊢
  exact ⟨⟨by simp, by simp, g.sh, ⟨⟨g.num.1.1, g.num.1.2.1, hb, g.num.1.2.2.2⟩, g.num.2⟩, g.pk, by simp, g.eq, by rw [textOf_lines]; show 4 + c.fades.length + (c.terms.flatMap Trm.lines).length + l.length ≤ _; omega⟩, fun e => absurd e (ne hc.2 (by decide)), by simp⟩
 split at h
 ·rename_i hc
  injection h with h; subst h
  obtain ⟨n0, n1, hns⟩ : ∃ a b, refNums s 2 = [a, b] := by
   have := refNums_length s 2
   match refNums s 2, this with
   | [a, b], _ => exact ⟨a, b, rfl⟩
  have hb := refNums_nb s 2
  rw [hns] at hb ⊢
  exact ⟨⟨by simp, by simp, g.sh, ⟨⟨g.num.1.1, g.num.1.2.1, g.num.1.2.2.1, hb⟩, g.num.2⟩, g.pk, by simp, g.eq, by rw [textOf_lines]; show 4 + c.fades.length + (c.terms.flatMap Trm.lines).length + l.length ≤ _; omega⟩, fun e => absurd e (ne hc.2 (by decide)), by simp⟩
 split at h
 ·rename_i hc
  injection h with h; subst h
  refine ⟨⟨g.lo, g.hi, ⟨fun r hr => ?_, g.sh.2⟩, ⟨g.num.1, fun r hr => ?_, g.num.2.2⟩, g.pk, fun e => g.t5 e, g.eq, ?_⟩, fun e => absurd e (ne hc.2 (by decide)), by have := hc.1; show 1 ≤ part; omega⟩
  ·rcases List.mem_append.1 hr with hr | hr
   ·exact g.sh.1 r hr
   ·simp only [List.mem_singleton] at hr; rw [hr]; exact refNums_length s 5
  ·rcases List.mem_append.1 hr with hr | hr
   ·exact g.num.2.1 r hr
   ·simp only [List.mem_singleton] at hr; rw [hr]; exact refNums_nb s 5
  ·rw [textOf_lines]
   show 4 + (c.fades ++ [refNums s 5]).length + (c.terms.flatMap Trm.lines).length + l.length ≤ _
   simp only [List.length_append, List.length_cons, List.length_nil]; omega
 split at h
 ·rename_i hc
  injection h with h; subst h
  obtain ⟨m0, m1, m2, m3, m4, m5, m6, m7, m8, m9, m10, m11, hns⟩ := len_twelve (refNums_length s 12)
  have hb := refNums_nb s 12
  rw [hns] at hb ⊢
  refine ⟨⟨by simp, by simp, ⟨g.sh.1, fun t ht => ?_⟩, ⟨g.num.1, g.num.2.1, fun t ht => ?_⟩, g.pk, fun _ => by simp [Cfg.addTerm], fun t ht => ?_, ?_⟩, fun e => absurd e (ne hc.2 (by decide)), by simp⟩
  ·rcases List.mem_append.1 ht with ht | ht
   ·exact g.sh.2 t ht
   ·simp only [List.mem_singleton] at ht; rw [ht]; exact ⟨by simp [trmOf], by simp [trmOf]⟩
  ·rcases List.mem_append.1 ht with ht | ht
   ·exact g.num.2.2 t ht
   ·simp only [List.mem_singleton] at ht; rw [ht]; exact ⟨hb, by simp [trmOf], by simp [trmOf]⟩
  ·rcases List.mem_append.1 ht with ht | ht
   ·exact g.eq t ht
   ·simp only [List.mem_singleton] at ht; rw [ht]; rfl
  ·rw [textOf_lines]
   show 4 + c.fades.length + ((c.terms ++ [trmOf _]).flatMap Trm.lines).length + l.length ≤ _
   rw [List.flatMap_append, List.length_append]
   simp only [List.flatMap_cons, List.flatMap_nil, List.append_nil, lines_len, trmOf, List.length_nil]; omega
 split at h
 ·rename_i hc
  injection h with h; subst h
  obtain ⟨n0, n1, n2, n3, n4, n5, n6, n7, n8, n9, n10, n11, n12, n13, n14, hns⟩ := len_fifteen (refNums_length s 15)
  have hb := refNums_nb s 15
  have hne := g.t5 hc.1
  have hpos : 0 < c.terms.length := List.length_pos_iff.2 hne
  obtain ⟨t, ht⟩ : ∃ t, c.terms[c.terms.length - 1]? = some t := ⟨_, List.getElem?_eq_getElem (by omega)⟩
  have htm := List.mem_of_getElem? ht
  rw [hns] at hb ⊢
  have e : c.addBear [n0, n1, n2, n3, n4, n5, n6, n7, n8, n9, n10, n11, n12, n13, n14] = { c with terms := c.terms.set (c.terms.length - 1) { t with bears := t.bears ++ [[n0, n1, n2, n3, n4, n5, n6, n7, n8, n9, n10]], bucks := t.bucks ++ [[n11, n12, n13, n14]] } } := by rw [Cfg.addBear, ht]; rfl
  rw [e]
  have hm : ∀ {P : Trm → Prop}, (∀ u ∈ c.terms, P u) → P { t with bears := t.bears ++ [[n0, n1, n2, n3, n4, n5, n6, n7, n8, n9, n10]], bucks := t.bucks ++ [[n11, n12, n13, n14]] } → ∀ u ∈ c.terms.set (c.terms.length - 1) { t with bears := t.bears ++ [[n0, n1, n2, n3, n4, n5, n6, n7, n8, n9, n10]], bucks := t.bucks ++ [[n11, n12, n13, n14]] }, P u := fun {P} h1 h2 u hu => by
   rcases List.mem_or_eq_of_mem_set hu with h | h
   ·exact h1 u h
   ·rw [h]; exact h2
  refine ⟨⟨g.lo, g.hi, ⟨g.sh.1, hm g.sh.2 ⟨fun r hr => ?_, fun r hr => ?_⟩⟩, ⟨g.num.1, g.num.2.1, hm g.num.2.2 ⟨(g.num.2.2 t htm).1, fun r hr => ?_, fun r hr => ?_⟩⟩, g.pk, fun _ => ?_, hm g.eq ?_, ?_⟩, fun e => absurd e (ne hc.2 (by decide)), by have := hc.1; show 1 ≤ part; omega⟩
  ·rcases List.mem_append.1 hr with hr | hr
   ·exact (g.sh.2 t htm).1 r hr
   ·simp only [List.mem_singleton] at hr; rw [hr]; rfl
  ·rcases List.mem_append.1 hr with hr | hr
   ·exact (g.sh.2 t htm).2 r hr
   ·simp only [List.mem_singleton] at hr; rw [hr]; rfl
  ·rcases List.mem_append.1 hr with hr | hr
   ·exact (g.num.2.2 t htm).2.1 r hr
   ·simp only [List.mem_singleton] at hr; rw [hr]; exact fun n hn => hb n (List.mem_of_mem_take (i := 11) hn)
  ·rcases List.mem_append.1 hr with hr | hr
   ·exact (g.num.2.2 t htm).2.2 r hr
   ·simp only [List.mem_singleton] at hr; rw [hr]; exact fun n hn => hb n (List.mem_of_mem_drop (i := 11) hn)
  ·show c.terms.set _ _ ≠ []
   rw [Ne, ← List.length_eq_zero_iff, List.length_set]; omega
  ·have := g.eq t htm; simp only [List.length_append, this, List.length_cons, List.length_nil]
  ·rw [textOf_lines]
   show 4 + c.fades.length + ((c.terms.set _ _).flatMap Trm.lines).length + l.length ≤ _
   rw [flat_setlen ht (by simp)]; omega
 split at h
 ·rename_i hc
  injection h with h; subst h
  refine ⟨⟨by simp, by simp, g.sh, g.num, fun x hx => ?_, by simp, g.eq, ?_⟩, fun _ => by simp, by simp⟩
  ·rcases List.mem_append.1 hx with hx | hx
   ·exact g.pk x hx
   ·simp only [List.mem_singleton] at hx; rw [hx]; exact pktOf_nb hs
  ·rw [textOf_lines]
   show 4 + c.fades.length + (c.terms.flatMap Trm.lines).length + (l ++ [pktOf s]).length ≤ _
   simp only [List.length_append, List.length_cons, List.length_nil]; omega
 ·cases h
end AM
end Go.Proofs.YtemcmblcogljkaaGreatDoor

namespace Go.Proofs.YtemcmblcogljkaaGreatDoor
namespace AM
open Go
open Go.Lib (decDigits itoa nDigits)
open TP
attribute [local irreducible] f38J0
theorem sw1 {G : AH} {h : Nat} {part : Int} (hl : G.load h (0 + 0) = some (I part)) (k : Int) (b : Bool) (K : Bool → AH → Prop) :
  join2 (fun J => obI .i64 (G.load h (0 + 0)) fun x => ifB (x == k) (J b G) (J false G)) K = K (decide (part = k) && b) G := by
 simp only [join2, hl, obI_some]
 by_cases e : part = k
 ·subst e
  simp only [beq_self_eq_true, decide_true, Bool.true_and]; rfl
 ·rw [show (part == k) = false by simpa using e, show decide (part = k) = false by simpa using e]; rfl
theorem sw2 {G : AH} {h : Nat} {part : Int} (hl : G.load h (0 + 0) = some (I part)) (k k' : Int) (b : Bool) (K : Bool → AH → Prop) :
  join2 (fun J => obI .i64 (G.load h (0 + 0)) fun x => ifB (x == k) (J b G) (obI .i64 (G.load h (0 + 0)) fun x => ifB (x == k') (J b G) (J false G))) K = K (decide (part = k ∨ part = k') && b) G := by
 simp only [join2, hl, obI_some]
 by_cases e : part = k
 ·subst e
  simp only [beq_self_eq_true, true_or, decide_true, Bool.true_and]; rfl
 ·rw [show (part == k) = false by simpa using e]
  by_cases e' : part = k'
  ·subst e'
   simp only [beq_self_eq_true, or_true, decide_true, Bool.true_and]; rfl
  ·rw [show (part == k') = false by simpa using e', show decide (part = k ∨ part = k') = false by simpa using ⟨e, e'⟩]; rfl
theorem sw3 {G : AH} {h : Nat} {part : Int} (hl : G.load h (0 + 0) = some (I part)) (k : Int) (b : Bool) (K : Bool → AH → Prop) :
  join2 (fun J => obI .i64 (G.load h (0 + 0)) fun x => ifB (decide (x ≥ k)) (J b G) (J false G)) K = K (decide (part ≥ k) && b) G := by
 simp only [join2, hl, obI_some]
 by_cases e : part ≥ k
 ·rw [show decide (part ≥ k) = true by simpa using e, Bool.true_and]; rfl
 ·rw [show decide (part ≥ k) = false by simpa using e]; rfl
theorem wdec (w u : List UInt8) (A : Prop) [Decidable A] : (decide A && ((bs w).data.toList == (bs u).data.toList)) = decide (A ∧ w = u) := by
 rw [bs_list, bs_list, Bool.eq_iff_iff]; simp
def wordOf (s : List UInt8) : List UInt8 := (cutAt 32 s).headD []
section
variable {pm : Prims} {ω : Nat → Option Comp} {H0 G : AH} {h : Nat} {c : Cfg} {l : List Pkt} {p : Parts}
theorem c38 (hp : Only pm) {N : Nat} {s : List UInt8} (hs : s.length ≤ 1000000000) {part : Int} (d : Doc ω H0 G h [I part] c l p) (he : p.tc = p.ts) (g : GoodC N part c l) (hN : N < 100000000) {Q : Value → AH → Prop}
  (hno : ∀ G', Doc ω H0 G' h [I part] c l p → stepS part c l s (wordOf s) = none → Q (.bool false) G')
  (hyes : ∀ q, stepS part c l s (wordOf s) = some q → ∀ ω' p' G', Doc ω' H0 G' h [I q.1] q.2.1 q.2.2 p' → p'.tc = p'.ts → Q (.bool (okLine q.1 q.2.1 q.2.2 s (wordOf s))) G') :
  OK pm 38 ⟨[.pointer (some ⟨h, 0, none⟩), .string (bs s)]⟩ G Q := by
 apply f38_ok hp
 simp only [f38R]
 refine c37 (c := 32) hp hs d.le.wf fun G1 b1 g1 hs1 _ hb1 => ?_
 have hspot : ∀ a, b1 = some a → a.spot = none := fun a ha => by obtain ⟨p, q, e⟩ := hb1; rw [e] at ha; injection ha with ha; subst ha; rfl
 have hrd := hs1.rd1 hspot
 have hne := cutAt_ne 32 s
 have hw0 : (cutAt 32 s)[0]? = some (wordOf s) := by
  unfold wordOf
  cases e : cutAt 32 s with
  | nil => exact absurd e hne
  | cons a r => rfl
 obtain ⟨ax, jx, ex, fx⟩ := hrd.elem (k := (cutAt 32 s).length) (strs_get hw0) (kk := .i64)
 have fx := fx 0 (by omega)
 rw [Nat.add_zero] at fx
 simp only [List.getElem?_cons_zero] at fx
 rw [obL_some, show elemS 1 (.slice b1 (cutAt 32 s).length (cutAt 32 s).length) (.int .i64 0) = _ from ex, obA_some, fx, obS_some]
 have d1 := d.ofLe g1
 have L0 := d1.box.vals 0
 have L0 : G1.load h (0 + 0) = some (I part) := L0
 have fin : ∀ {q : Int × Cfg × List Pkt}, stepS part c l s (wordOf s) = some q → ∀ ω' p' G', Doc ω' H0 G' h [I q.1] q.2.1 q.2.2 p' → p'.tc = p'.ts → f38J0 (OK pm) Q h 0 (bs s) (bs (wordOf s)) G' := fun {q} hq ω' p' G' d' he' => by
  obtain ⟨g', hpk, h1⟩ := g.step hs hq
  exact l38J hp d' he' g'.sh g'.num g'.pk (by have := g'.len; omega) h1 g'.hi hpk fun G2 d2 => hyes q hq ω' p' G2 d2 he'
 have hlen := g.len
 rw [textOf_lines] at hlen
 have hfn : p.fn = c.fades.length := by have := (d.rdF g.sh).1; simpa [recs] using this
 have htn : p.tn = c.terms.length := (d.rdT he g.sh).1
 have hxn : p.xn = l.length := d.rdX.1
 have hft := flat_terms c.terms
 generalize wordOf s = w at *
 unfold stepS at hno hyes fin
 rw [sw1 L0, wdec]
 refine ifB_intro (fun hc => ?_) (fun hc => ?_)
 ·have hc : part = 0 ∧ w = wNetwork := of_decide_eq_true hc
  exact case_network hp hs d1 fun G' d' => fin (if_pos hc) _ _ G' d' he
 have hc0 : ¬ (part = 0 ∧ w = wNetwork) := of_decide_eq_false hc
 rw [if_neg hc0] at hno hyes fin
 rw [sw1 L0, wdec]
 refine ifB_intro (fun hc => ?_) (fun hc => ?_)
 ·have hc : part = 1 ∧ w = wPatience := of_decide_eq_true hc
  exact case_patience hp hs d1 fun G' d' => fin (if_pos hc) _ _ G' d' he
 have hc1 : ¬ (part = 1 ∧ w = wPatience) := of_decide_eq_false hc
 rw [if_neg hc1] at hno hyes fin
 rw [sw1 L0, wdec]
 refine ifB_intro (fun hc => ?_) (fun hc => ?_)
 ·have hc : part = 2 ∧ w = wRule := of_decide_eq_true hc
  exact case_rule hp hs d1 fun G' d' => fin (if_pos hc) _ _ G' d' he
 have hc2 : ¬ (part = 2 ∧ w = wRule) := of_decide_eq_false hc
 rw [if_neg hc2] at hno hyes fin
 rw [sw1 L0, wdec]
 refine ifB_intro (fun hc => ?_) (fun hc => ?_)
 ·have hc : part = 3 ∧ w = wOuter := of_decide_eq_true hc
  exact case_outer hp hs d1 fun G' d' => fin (if_pos hc) _ _ G' d' he
 have hc3 : ¬ (part = 3 ∧ w = wOuter) := of_decide_eq_false hc
 rw [if_neg hc3] at hno hyes fin
 rw [sw1 L0, wdec]
 refine ifB_intro (fun hc => ?_) (fun hc => ?_)
 ·have hc : part = 4 ∧ w = wFade := of_decide_eq_true hc
  exact case_fade hp hs d1 (by omega) fun ω' p' G' d' e1 e2 => fin (if_pos hc) ω' p' G' d' (by rw [e1, e2, he])
 have hc4 : ¬ (part = 4 ∧ w = wFade) := of_decide_eq_false hc
 rw [if_neg hc4] at hno hyes fin
 rw [sw2 L0, wdec]
 refine ifB_intro (fun hc => ?_) (fun hc => ?_)
 ·have hc : (part = 4 ∨ part = 5) ∧ w = wTerminal := of_decide_eq_true hc
  exact case_terminal hp hs d1 (by omega) fun ω' p' G' d' e1 e2 => fin (if_pos hc) ω' p' G' d' (by rw [e1, e2, he])
 have hc5 : ¬ ((part = 4 ∨ part = 5) ∧ w = wTerminal) := of_decide_eq_false hc
 rw [if_neg hc5] at hno hyes fin
 rw [sw1 L0, wdec]
 refine ifB_intro (fun hc => ?_) (fun hc => ?_)
 ·have hc : part = 5 ∧ w = wBearer := of_decide_eq_true hc
  have hpos : 0 < c.terms.length := List.length_pos_iff.2 (g.t5 hc.1)
  obtain ⟨t, ht⟩ : ∃ t, c.terms[c.terms.length - 1]? = some t := ⟨_, List.getElem?_eq_getElem (by omega)⟩
  obtain ⟨tg, htg⟩ : ∃ tg, p.tc[c.terms.length - 1]? = some tg := ⟨_, List.getElem?_eq_getElem (by have := d.tcl; omega)⟩
  have htm := List.mem_of_getElem? ht
  have h1 := (d.bears _ t tg ht (by rw [← he]; exact htg)).sli.len
  have h2 := (d.bucks _ t tg ht (by rw [← he]; exact htg)).sli.len
  have e1 := flat_len (L := recs t.bears) (sz := 11) fun r hr => by obtain ⟨q, hq, rfl⟩ := List.mem_map.1 hr; simpa using (g.sh.2 t htm).1 q hq
  have e2 := flat_len (L := recs t.bucks) (sz := 4) fun r hr => by obtain ⟨q, hq, rfl⟩ := List.mem_map.1 hr; simpa using (g.sh.2 t htm).2 q hq
  have hm := flat_mem htm
  have hq := g.eq t htm
  simp only [recs, List.length_map] at e1 e2
  rw [recs, e1] at h1
  rw [recs, e2] at h2
  exact case_bearer hp hs d1 he ht htg (by omega) (by omega) (by omega) fun ω' p' G' d' e1 => fin (if_pos hc) ω' p' G' d' e1
 have hc6 : ¬ (part = 5 ∧ w = wBearer) := of_decide_eq_false hc
 rw [if_neg hc6] at hno hyes fin
 rw [sw3 L0, wdec]
 refine ifB_intro (fun hc => ?_) (fun hc => ?_)
 ·have hc : part ≥ 4 ∧ w = wPacket := of_decide_eq_true hc
  exact case_packet hp hs d1 (by omega) fun ω' p' G' d' e1 e2 => fin (if_pos hc) ω' p' G' d' (by rw [e1, e2, he])
 have hc7 : ¬ (part ≥ 4 ∧ w = wPacket) := of_decide_eq_false hc
 rw [if_neg hc7] at hno hyes fin
 exact hno G1 d1 rfl
end
end AM
end Go.Proofs.YtemcmblcogljkaaGreatDoor

namespace Go.Proofs.YtemcmblcogljkaaGreatDoor
namespace AM
open Go
open Go.Lib (decDigits itoa nDigits)
open TP
def Cfg.zero : Cfg := ⟨0, 0, 0, 0, 0, 0, 0, 0, 0, 0, 0, 0, 0, 0, 0, 0, 0, 0, [], []⟩
def refGo : Nat → List (List UInt8) → Int → Cfg → List Pkt → Sum Nat (Int × Cfg × List Pkt)
 | _, [], part, c, l => .inr (part, c, l)
 | i, s :: r, part, c, l => match stepS part c l s (wordOf s) with
  | none => .inl (i + 1)
  | some q => if okLine q.1 q.2.1 q.2.2 s (wordOf s) = true then refGo (i + 1) r q.1 q.2.1 q.2.2 else .inl (i + 1)
structure Ans where
 c : Cfg
 l : List Pkt
 n : Nat
 e : Int
def Ans.bad (n : Nat) (e : Int) : Ans := ⟨Cfg.zero, [], n, e⟩
def refAns (L : List (List UInt8)) : Ans :=
 match refGo 0 L.dropLast 0 Cfg.zero [] with
 | .inl n => .bad n 66
 | .inr q =>
  if L.getLastD [] ≠ [] ∨ q.1 < 4 then .bad (if L.getLastD [] = [] ∧ L.length > 1 then L.length - 1 else L.length) 66
  else if errAll q.2.1 q.2.2 ≠ 0 then .bad 0 (errAll q.2.1 q.2.2) else ⟨q.2.1, q.2.2, 0, 0⟩
def refParse (s : List UInt8) : Ans := refAns (cutAt 10 s)
structure NetIn (H : AH) (c : Cfg) (l : List Pkt) (fb : Option Addr) (fn : Nat) (tb : Option Addr) (tn : Nat) (xb : Option Addr) (xn : Nat) : Prop where
 f : Rd H 5 fb fn (recs c.fades)
 t : RdT H tb tn c.terms
 x : RdX H xb xn l
theorem netIn_zero (H : AH) : NetIn H Cfg.zero [] none 0 none 0 none 0 :=
 ⟨⟨rfl, fun i r h => by simp [Cfg.zero, recs] at h⟩, ⟨rfl, fun i r h => by simp [Cfg.zero] at h⟩, ⟨rfl, fun i r h => by simp at h⟩⟩
theorem Doc.net {ω : Nat → Option Comp} {H0 G : AH} {h : Nat} {pre : List Value} {c : Cfg} {l : List Pkt} {p : Parts} (d : Doc ω H0 G h pre c l p) (he : p.tc = p.ts) (hc : c.shaped) : NetIn G c l p.fb p.fn p.tb p.tn p.xb p.xn := ⟨d.rdF hc, d.rdT he hc, d.rdX⟩
theorem Doc.older {ω : Nat → Option Comp} {H H0 G : AH} {h : Nat} {pre : List Value} {c : Cfg} {l : List Pkt} {p : Parts} (d : Doc ω H0 G h pre c l p) (hk : Le H H0) : Doc ω H G h pre c l p :=
 { d with le := hk.trans d.le, low := fun g k e => Nat.le_trans hk.next (d.low g k e) }
theorem Doc.first {H : AH} (hw : WF H) (pre : List Value) : Doc (fun g => if g = H.next then some .box else none) H (H.new 0 (pre ++ (Cfg.zero.vals none 0 0 none 0 0 ++ [.slice none 0 0]))) H.next pre Cfg.zero [] ⟨none, 0, 0, none, 0, 0, none, 0, 0, [], [], []⟩ := by
 have nl : ∀ {k : Comp} {sz : Nat} (G : AH), Slo (fun g => if g = H.next then some .box else none) G k sz none 0 0 [] := fun G => ⟨.nil, fun _ => trivial, fun g hg => hg.elim, fun a e => by cases e⟩
 refine ⟨new_le hw _ _, fun g k e => ?_, fun g k e => ?_, Fresh.new _ _ _, by simp, nl _, rfl, rfl, nl _, fun i t g h => by simp [Cfg.zero] at h, fun i t g h => by simp [Cfg.zero] at h, rfl, nl _, fun i t g h => by simp at h⟩
 ·split at e
  ·omega
  ·cases e
 ·rw [new_next]; split at e
  ·omega
  ·cases e
section
variable {pm : Prims}
theorem out18 {G : AH} (hw : WF G) {h : Nat} {us : List Value} (hf : Fresh G h us) (hu : us.length = 20) (c : Cfg) (fb : Option Addr) (fn fk : Nat) (tb : Option Addr) (tn tk : Nat) {xv nv ev : Value} {Q : Value → AH → Prop}
  (hQ : ∀ G', Keep (fun g => g = h) G G' → Q (.tuple ⟨[.agg ⟨c.vals fb fn fk tb tn tk⟩, xv, nv, ev]⟩) G') :
  obH (G.storeN h 0 [I c.seed, I c.cells, I c.res, I c.delay, I c.betw, I c.tries, I c.pre, I c.att, I c.back, I c.pa, I c.pb, I c.pc, I c.ra, I c.rb, I c.rc, I c.oo, I c.ou, I c.od, .slice fb fn fk, .slice tb tn tk]) fun H59 =>
  obI .i64 (H59.load h (0 + 0)) fun x60 =>
  obI .i64 (H59.load h (0 + 1)) fun x61 =>
  obI .i64 (H59.load h (0 + 2)) fun x62 =>
  obI .i64 (H59.load h (0 + 3)) fun x63 =>
  obI .i64 (H59.load h (0 + 4)) fun x64 =>
  obI .i64 (H59.load h (0 + 5)) fun x65 =>
  obI .i64 (H59.load h (0 + 6)) fun x66 =>
  obI .i64 (H59.load h (0 + 7)) fun x67 =>
  obI .i64 (H59.load h (0 + 8)) fun x68 =>
  obI .i64 (H59.load h (0 + 9)) fun x69 =>
  obI .i64 (H59.load h (0 + 10)) fun x70 =>
  obI .i64 (H59.load h (0 + 11)) fun x71 =>
  obI .i64 (H59.load h (0 + 12)) fun x72 =>
  obI .i64 (H59.load h (0 + 13)) fun x73 =>
  obI .i64 (H59.load h (0 + 14)) fun x74 =>
  obI .i64 (H59.load h (0 + 15)) fun x75 =>
  obI .i64 (H59.load h (0 + 16)) fun x76 =>
  obI .i64 (H59.load h (0 + 17)) fun x77 =>
  obL (H59.load h (0 + 18)) fun b78 n78 k78 =>
  obL (H59.load h (0 + 19)) fun b79 n79 k79 =>
  Q (.tuple ⟨[.agg ⟨[.int .i64 x60, .int .i64 x61, .int .i64 x62, .int .i64 x63, .int .i64 x64, .int .i64 x65, .int .i64 x66, .int .i64 x67, .int .i64 x68, .int .i64 x69, .int .i64 x70, .int .i64 x71, .int .i64 x72, .int .i64 x73, .int .i64 x74, .int .i64 x75, .int .i64 x76, .int .i64 x77, .slice b78 n78 k78, .slice b79 n79 k79]⟩, xv, nv, ev]⟩) H59 := by
 obtain ⟨G', h1, h2, h3, h4⟩ := hf.put hw (i := 0) (ws := c.vals fb fn fk tb tn tk) (us := c.vals fb fn fk tb tn tk) (by simp [Cfg.vals, hu]) (by simp [Cfg.vals, oneCell]) (by simp [Cfg.vals, hu])
 unfold Cfg.vals at h1
 rw [h1, obH_some]
 have L := h3.vals
 unfold Cfg.vals at L
 simp only [L, Nat.zero_add, List.getElem?_cons_zero, List.getElem?_cons_succ, obI_some, obL_some]
 exact hQ G' h2
theorem cutAt_count (c : UInt8) (s : List UInt8) : (cutAt c s).length ≤ s.length + 1 := by
 have e := cutAt_join (c := c) s
 have : ∀ L : List (List UInt8), L.length ≤ ([c].intercalate L).length + 1 := by
  intro L
  induction L with
  | nil => simp
  | cons q L ih =>
   cases L with
   | nil => simp
   | cons q2 L =>
    have hstep : [c].intercalate (q :: q2 :: L) = q ++ c :: [c].intercalate (q2 :: L) := by simp [List.intercalate, List.intersperse]
    rw [hstep, List.length_append]
    simp only [List.length_cons] at ih ⊢
    omega
 have := this (cutAt c s)
 rw [e] at this; exact this
theorem bs_nil (x : List UInt8) : ((bs x).data.toList == (bs []).data.toList) = decide (x = []) := by rw [bs_list, bs_list, Bool.eq_iff_iff]; simp
theorem jA {G : AH} {b : Option Addr} {n a j hh : Nat} {v : Value} {z : List UInt8} {part : Int} (e1 : elemS 1 (.slice b n n) v = some (.pointer (some ⟨a, j, none⟩))) (e2 : G.load a j = some (.string (bs z))) (L0 : G.load hh (0 + 0) = some (I part)) (K : Bool → AH → Prop) :
  join2 (fun J => obA (elemS 1 (.slice b n n) v) fun h i => obS (G.load h i) fun s => ifB (!(s.data.toList == (bs []).data.toList)) (J true G) (obI .i64 (G.load hh (0 + 0)) fun x => J (decide (x < 4)) G)) K = K (decide (z ≠ [] ∨ part < 4)) G := by
 simp only [join2, e1, obA_some, e2, obS_some, bs_nil, L0, obI_some]
 by_cases hz : z = []
 ·rw [show decide (z = []) = true by simpa using hz, Bool.not_true, ifB_false, show decide (z ≠ [] ∨ part < 4) = decide (part < 4) by simp [hz]]
 ·rw [show decide (z = []) = false by simpa using hz, Bool.not_false, ifB_true, show decide (z ≠ [] ∨ part < 4) = true by simp [hz]]
theorem jB {G : AH} {b : Option Addr} {n a j : Nat} {v : Value} {z : List UInt8} (e1 : elemS 1 (.slice b n n) v = some (.pointer (some ⟨a, j, none⟩))) (e2 : G.load a j = some (.string (bs z))) (K : Bool → AH → Prop) :
  join2 (fun J => obA (elemS 1 (.slice b n n) v) fun h i => obS (G.load h i) fun s => ifB (s.data.toList == (bs []).data.toList) (J (decide ((n : Int) > 1)) G) (J false G)) K = K (decide (z = [] ∧ (n : Int) > 1)) G := by
 simp only [join2, e1, obA_some, e2, obS_some, bs_nil]
 by_cases hz : z = []
 ·rw [show decide (z = []) = true by simpa using hz, ifB_true, show decide (z = [] ∧ (n : Int) > 1) = decide ((n : Int) > 1) by simp [hz]]
 ·rw [show decide (z = []) = false by simpa using hz, ifB_false, show decide (z = [] ∧ (n : Int) > 1) = false by simp [hz]]
theorem good_zero : GoodC 4 0 Cfg.zero [] := by
 refine ⟨by omega, by omega, ⟨fun r h => by simp [Cfg.zero] at h, fun r h => by simp [Cfg.zero] at h⟩, ⟨?_, fun r h => by simp [Cfg.zero] at h, fun r h => by simp [Cfg.zero] at h⟩, fun r h => by simp at h, fun h => absurd h (by omega), fun r h => by simp [Cfg.zero] at h, by rw [textOf_lines]; simp [Cfg.zero]⟩
 refine ⟨?_, ?_, ?_, ?_⟩ <;> intro n hn <;> simp [Cfg.zero] at hn <;> subst hn <;> unfold AM.nb <;> omega
theorem c18 (hp : Only pm) {s : List UInt8} (hs : s.length ≤ 10000000) {H : AH} (hw : WF H) {Q : Value → AH → Prop}
  (hQ : ∀ H' fb fn fk tb tn tk xb xn xk, Le H H' → NetIn H' (refParse s).c (refParse s).l fb fn tb tn xb xn → Q (.tuple ⟨[.agg ⟨(refParse s).c.vals fb fn fk tb tn tk⟩, .slice xb xn xk, I (refParse s).n, I (refParse s).e]⟩) H') : OK pm 18 ⟨[.string (bs s)]⟩ H Q := by
 apply f18_ok hp
 simp only [f18R, letH_eq]
 have l1 := new_le hw 0 (Cfg.zero.vals none 0 0 none 0 0)
 have hf1 := Fresh.new H 0 (Cfg.zero.vals none 0 0 none 0 0)
 refine c37 (c := 10) hp (by omega) l1.wf fun H3 b g1 hs1 _ hb1 => ?_
 rw [obL_some]
 have hspot : ∀ a, b = some a → a.spot = none := fun a ha => by obtain ⟨p, q, e⟩ := hb1; rw [e] at ha; injection ha with ha; subst ha; rfl
 have hrd := hs1.rd1 hspot
 have hf3 := hf1.le l1.wf g1
 have hlt : H.next < H3.next := by have := g1.next; rw [new_next] at this; omega
 have hne := cutAt_ne 10 s
 have hpos : 0 < (cutAt 10 s).length := List.length_pos_iff.2 hne
 have hcnt := cutAt_count 10 s
 have hlast : (cutAt 10 s)[(cutAt 10 s).length - 1]? = some ((cutAt 10 s).getLastD []) := by
  rw [List.getLastD_eq_getLast?, List.getLast?_eq_getElem?]
  rw [List.getElem?_eq_getElem (show (cutAt 10 s).length - 1 < _ by omega)]; rfl
 have hans : refParse s = refAns (cutAt 10 s) := rfl
 have hsm : ∀ q ∈ cutAt 10 s, q.length ≤ s.length := fun q hq => cutAt_small hq
 generalize refParse s = A at hans hQ
 generalize cutAt 10 s = L at *
 have line : ∀ {G : AH}, Le H3 G → ∀ {i : Nat} {x : List UInt8}, L[i]? = some x → ∀ (K : ByteArray → Prop), K (bs x) → obA (elemS 1 (.slice b L.length L.length) (.int .i64 (i : Int))) fun h1 i1 => obS (G.load h1 i1) K := fun {G} hg {i x} hi K hK => by
  obtain ⟨a, j, e1, e2⟩ := (hrd.le g1.wf hg).elem (k := L.length) (strs_get hi) (kk := .i64)
  have e2 := e2 0 (by omega)
  rw [Nat.add_zero] at e2
  rw [e1, obA_some, e2]
  exact hK
 have bad : ∀ {G : AH} {n : Nat} {e : Int}, Le H3 G → A = .bad n e → ∀ G', Keep (fun g => g = H.next) G G' → Q (.tuple ⟨[.agg ⟨Cfg.zero.vals none 0 0 none 0 0⟩, .slice none 0 0, I n, I e]⟩) G' := fun {G n e} hg hA G' hk => by
  have hk' : Le H G' := Keep.trans ((l1.trans g1).trans hg) hk fun g h1 h2 => by omega
  have := hQ G' none 0 0 none 0 0 none 0 0 hk' (by rw [hA]; exact netIn_zero _)
  rwa [hA] at this
 have hf0 : ∀ {G : AH}, Le H3 G → Fresh G H.next (Cfg.zero.vals none 0 0 none 0 0) := fun hg => hf3.le g1.wf hg
 have key : ∀ (r : List (List UInt8)) (i : Nat) (part : Int) (c : Cfg) (l : List Pkt) (ω : Nat → Option Comp) (p : Parts) (G : AH), L.dropLast.drop i = r → i + r.length = L.length - 1 → Doc ω H3 G H3.next [I part] c l p → p.tc = p.ts → GoodC (4 + i) part c l → refGo 0 L.dropLast 0 Cfg.zero [] = refGo i r part c l → f18L0 (OK pm) Q H.next b L.length L.length H3.next (i : Int) G := by
  intro r
  induction r with
  | nil =>
   intro i part c l ω p G hdr hlen d he g hgo
   apply f18L0_step
   simp only [f18B0]
   simp only [List.length_nil, Nat.add_zero] at hlen
   rw [wrap_of (by omega) (by omega), decide_eq_false (by omega), ifB_false]
   have hA : A = if L.getLastD [] ≠ [] ∨ part < 4 then .bad (if L.getLastD [] = [] ∧ L.length > 1 then L.length - 1 else L.length) 66
     else if errAll c l ≠ 0 then .bad 0 (errAll c l) else ⟨c, l, 0, 0⟩ := by rw [hans, refAns, hgo]; rfl
   have L0 : G.load H3.next (0 + 0) = some (I part) := d.box.vals 0
   have hi1 : ((L.length : Int) - 1) = ((L.length - 1 : Nat) : Int) := by omega
   rw [hi1]
   obtain ⟨a, j, e1, e2⟩ := (hrd.le g1.wf d.le).elem (k := L.length) (strs_get hlast) (kk := .i64)
   have e2 := e2 0 (by omega)
   rw [Nat.add_zero] at e2
   generalize L.getLastD [] = z at *
   rw [jA e1 e2 L0, jB e1 e2]
   refine ifB_intro (fun hb => ?_) (fun hb => ?_)
   ·have hb := of_decide_eq_true hb
    rw [if_pos hb] at hA
    refine ifB_intro (fun hz => ?_) (fun hz => ?_)
    ·have hz : z = [] ∧ (L.length : Int) > 1 := of_decide_eq_true hz
     rw [if_pos ⟨hz.1, by omega⟩] at hA
     exact out18 d.le.wf (hf0 d.le) rfl Cfg.zero none 0 0 none 0 0 (bad d.le hA)
    ·have hz : ¬ (z = [] ∧ (L.length : Int) > 1) := of_decide_eq_false hz
     rw [if_neg (fun h => hz ⟨h.1, by omega⟩)] at hA
     exact out18 d.le.wf (hf0 d.le) rfl Cfg.zero none 0 0 none 0 0 (bad d.le hA)
   ·have hb := of_decide_eq_false hb
    rw [if_neg hb] at hA
    have LB : ∀ G', Doc ω H3 G' H3.next [I part] c l p → ∀ k, G'.load H3.next k = ([I part] ++ (c.vals p.fb p.fn p.fk p.tb p.tn p.tk ++ [.slice p.xb p.xn p.xk]))[k]? := fun G' d' => d'.box.vals
    have LG := LB G d
    unfold Cfg.vals at LG
    simp only [LG, Nat.zero_add, Nat.reduceAdd, List.cons_append, List.nil_append, List.getElem?_cons_zero, List.getElem?_cons_succ, obI_some, obL_some]
    have nt := d.net he g.sh
    refine c22 hp g.sh d.le.wf nt.f nt.t nt.x fun G1 g2 => ?_
    have d1 := d.ofLe g2
    have LG1 := LB G1 d1
    unfold Cfg.vals at LG1
    rw [obI_some]
    refine ifB_intro (fun hx => ?_) (fun hx => ?_)
    ·rw [if_pos (by simpa using hx)] at hA
     exact out18 d1.le.wf (hf0 d1.le) rfl Cfg.zero none 0 0 none 0 0 (bad d1.le hA)
    ·rw [if_neg (by simpa using hx)] at hA
     simp only [LG1, Nat.zero_add, Nat.reduceAdd, List.cons_append, List.nil_append, List.getElem?_cons_zero, List.getElem?_cons_succ, obI_some, obL_some]
     obtain ⟨G2, h1, h2, h3, h4⟩ := (hf0 d1.le).put d1.le.wf (i := 0) (ws := c.vals p.fb p.fn p.fk p.tb p.tn p.tk) (us := c.vals p.fb p.fn p.fk p.tb p.tn p.tk) (by simp [Cfg.vals]) (by simp [Cfg.vals, oneCell]) (by simp [Cfg.vals])
     unfold Cfg.vals at h1
     rw [h1, obH_some]
     have d2 : Doc ω H G2 H3.next [I part] c l p := (d1.older (l1.trans g1)).keep h2 (fun gg hg => by
      cases e : ω gg with
      | none => rfl
      | some k => have := d1.low gg k e; omega) (fun gg hg => by omega)
     have LG2 := d2.box.vals 21
     unfold Cfg.vals at LG2
     rw [LG2]
     simp only [List.cons_append, List.nil_append, List.getElem?_cons_zero, List.getElem?_cons_succ]
     rw [obE1_slice d.pkts.spot]
     have L2 := h3.vals
     unfold Cfg.vals at L2
     simp only [L2, Nat.zero_add, List.getElem?_cons_zero, List.getElem?_cons_succ, obI_some, obL_some]
     have := hQ G2 p.fb p.fn p.fk p.tb p.tn p.tk p.xb p.xn p.xk d2.le (by rw [hA]; exact d2.net he g.sh)
     rw [hA] at this
     exact this
  | cons x r ih =>
   intro i part c l ω p G hdr hlen d he g hgo
   apply f18L0_step
   simp only [f18B0]
   simp only [List.length_cons] at hlen
   have hx : L[i]? = some x := by
    have h0 : L.dropLast[i]? = some x := by
     have := congrArg (fun q => q[0]?) hdr
     simpa [List.getElem?_drop] using this
    rw [List.getElem?_dropLast] at h0
    split at h0
    ·exact h0
    ·cases h0
   have hdr' : L.dropLast.drop (i + 1) = r := by rw [← List.drop_drop, hdr]; rfl
   rw [wrap_of (by omega) (by omega), decide_eq_true (by omega), ifB_true]
   refine line d.le hx _ ?_
   have hxl := hsm x (List.mem_of_getElem? hx)
   have hN : 4 + i < 100000000 := by omega
   have wi : IntKind.wrap .i64 ((i : Int) + 1) = ((i + 1 : Nat) : Int) := by rw [wrap_of (by omega) (by omega)]; omega
   rw [refGo] at hgo
   have no : ∀ {G' : AH}, Le H3 G' → refGo 0 L.dropLast 0 Cfg.zero [] = .inl (i + 1) → A = .bad (i + 1) 66 := fun {G'} _ e => by rw [hans, refAns, e]
   refine c38 hp (by omega) d he g hN (fun G' d' hst => ?_) fun q hst ω' p' G' d' he' => ?_
   ·rw [obB_some, Bool.not_false, ifB_true, wi]
    rw [hst] at hgo
    have hA := no d'.le hgo
    exact out18 d'.le.wf (hf0 d'.le) rfl Cfg.zero none 0 0 none 0 0 (bad d'.le hA)
   ·rw [obB_some, wi]
    rw [hst] at hgo
    simp only at hgo
    refine ifB_intro (fun hb => ?_) (fun hb => ?_)
    ·simp only [Bool.not_eq_true'] at hb
     rw [if_neg (by rw [hb]; simp)] at hgo
     have hA := no d'.le hgo
     exact out18 d'.le.wf (hf0 d'.le) rfl Cfg.zero none 0 0 none 0 0 (bad d'.le hA)
    ·simp only [Bool.not_eq_false'] at hb
     rw [if_pos hb] at hgo
     exact ih (i + 1) q.1 q.2.1 q.2.2 ω' p' G' hdr' (by omega) d' he' (by have := (g.step (by omega) hst).1; rwa [Nat.add_assoc] at this) hgo
 exact key L.dropLast 0 0 Cfg.zero [] _ _ _ rfl (by rw [List.length_dropLast]; omega) (Doc.first g1.wf [I 0]) rfl good_zero rfl
end
end AM
end Go.Proofs.YtemcmblcogljkaaGreatDoor

