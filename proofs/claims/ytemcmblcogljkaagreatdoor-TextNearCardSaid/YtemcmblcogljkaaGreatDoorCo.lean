/- A text that is changed a little. TextNear answers true. -/
import Derived.Test.YtemcmblcogljkaaGreatDoorCn
set_option linter.all false
set_option linter.unusedSimpArgs false
set_option linter.unusedVariables false
namespace Go.Proofs.YtemcmblcogljkaaGreatDoor
namespace AM
open Go
open TP
section
variable {pm : Prims} {H0 G : AH} {dh : Nat} {L : List It} {Q : Value → AH → Prop}
theorem SD.growK (s : SD H0 dh G L) {sz n m k bytes : Nat} {b : Option Addr} {cs news : List Value} {x : Value} (i : Nat) (hi : L[i]? = some (.sl sz b n k cs)) (hsz : 0 < sz) (hlen : lenOf' x = some m) (hsrc : srcV G sz m x = some news) (hl : news.length = m * sz) (hone : ∀ v ∈ news, oneCell v = true)
  (hb : (n + m) * bytes * 2 ≤ 140737488355328) (hb2 : n + m ≤ 4611686018427387904) {K : Option Addr → Nat → Nat → AH → Prop} (hK : ∀ b' k' G', SD H0 dh G' (L.set i (.sl sz b' (n + m) k' (cs ++ news))) → K b' (n + m) k' G') : obG (appendV sz bytes G (.slice b n k) x) K := by
 by_cases h0 : m = 0
 ·subst h0
  rw [Nat.zero_mul] at hl
  have hnil := List.length_eq_zero_iff.1 hl
  subst hnil
  have e : appendV sz bytes G (.slice b n k) x = some (.slice b n k, G) := by
   simp only [appendV, hlen, hsrc, Nat.beq_refl]
  rw [e, obG_some]
  have := hK b k G (by
   rw [List.append_nil, Nat.add_zero]
   have : L.set i (.sl sz b n k cs) = L := by
    obtain ⟨hlt, he⟩ := List.getElem?_eq_some_iff.1 hi
    rw [← he, List.set_getElem_self]
   rw [this]; exact s)
  exact this
 ·obtain ⟨b', G', a1, a2⟩ := s.grow bytes i hi hsz hlen hsrc (by omega) hl hone hb hb2
  rw [a1, obG_some]
  exact hK b' _ G' a2
theorem SD.cut (s : SD H0 dh G L) {h o n k : Nat} {cs : List Value} (i : Nat) (hi : L[i]? = some (.sl 1 (some ⟨h, o, none⟩) n k cs)) {m : Nat} (hm : m ≤ n) (k' : Nat) : SD H0 dh G (L.set i (.sl 1 (some ⟨h, o, none⟩) m k' (cs.take m))) := by
 obtain ⟨h1, h2, h3⟩ := s.item (List.mem_of_getElem? hi)
 refine s.change hi (Keep.refl s.wf) ⟨?_, h2, h3⟩ fun g hg => .inl hg
 cases h1 with
 | row hr hs hf ho hl hh hn hc =>
  refine .row hr hs hf ho hl (by omega) (by rw [List.length_take]; omega) fun j hj => ?_
  rw [List.length_take] at hj
  rw [hc j (by omega), List.getElem?_take_of_lt (by omega)]
theorem Sli.part {h o n k : Nat} {cs : List Value} (hs : Sli G 1 (some ⟨h, o, none⟩) n k cs) {a m : Nat} (ha : a + m ≤ n) (k' : Nat) : srcV G 1 m (.slice (some ⟨h, o + a * 1, none⟩) m k') = some ((cs.drop a).take m) := by
 cases hs with
 | row hr hsz hf ho hl hh hn hc =>
  have e : m * 1 = ((cs.drop a).take m).length := by rw [List.length_take, List.length_drop]; omega
  simp only [srcV]
  rw [e]
  refine loadN_of fun j hj => ?_
  rw [← e] at hj
  rw [Nat.mul_one] at hj ⊢
  rw [show o + a + j = o + (a + j) by omega, hc (a + j) (by omega), List.getElem?_take_of_lt hj, List.getElem?_drop]
theorem Sli.from {h o n : Nat} {cs : List Value} (hs : Sli G 1 (some ⟨h, o, none⟩) n n cs) {m : Nat} (hm : m ≤ n) : sliceV 1 G (.slice (some ⟨h, o, none⟩) n n) (some (.int .i64 (m : Int))) none = some (.slice (some ⟨h, o + m * 1, none⟩) (n - m) (n - m)) := by
 cases hs with
 | row hr hsz _ _ _ _ _ _ =>
  have e : cutAtV n n none = some n := rfl
  simp only [sliceV, cutAt_some hm, hr, hsz, e]
  rfl
theorem j4 {s w : List UInt8} {b : Option Addr} {n k : Nat} {H : AH} (hH : Le H G) (hs : s.length ≤ 100000) (hw : w.length ≤ 100000) (i : Nat) (sd : SD H0 dh G L) (hi : L[i]? = some (.sl 1 b n k (byteVals w))) (hQ : ∀ G', Le H G' → Q (.bool true) G') : f4J0 (OK pmT) Q (bs s) b n k G := by
 rw [f4J0_eq]
 simp only [f4K0, join2]
 refine c6 hs sd.wf fun H2 l2 => ?_
 rw [obB_some, ifB_true]
 obtain ⟨h1, h2, h3⟩ := (sd.mono l2).item (List.mem_of_getElem? hi)
 rw [ofBytes_sli h1 h3, obS_some]
 refine c6 hw l2.wf fun H3 l3 => ?_
 rw [obB_some, ifB_true]
 refine c7 ?_
 rw [obB_some]
 exact hQ H3 ((hH.trans l2).trans l3)
theorem rem5 {x : Int} (h : 0 ≤ x) : aInt .rem .u8 x 5 = some (.int .u8 (x % 5)) := by
 show some (Value.int .u8 (x.tmod 5)) = _
 rw [Int.tmod_eq_emod_of_nonneg h]
theorem byteVals_take (w : List UInt8) (m : Nat) : (byteVals w).take m = byteVals (w.take m) := by simp [byteVals]
theorem byteVals_drop (w : List UInt8) (m : Nat) : (byteVals w).drop m = byteVals (w.drop m) := by simp [byteVals]
theorem byteVals_app (w v : List UInt8) : byteVals w ++ byteVals v = byteVals (w ++ v) := by simp [byteVals]
theorem byteVals_one (w : List UInt8) : ∀ v ∈ byteVals w, oneCell v = true := fun v hv => by
 obtain ⟨u, _, rfl⟩ := List.mem_map.1 hv; rfl
theorem byteVals_len (w : List UInt8) : (byteVals w).length = w.length := by simp [byteVals]
theorem obE_slc (h i n k : Nat) (A : Prop) : obE (some (.slice (some ⟨h, i, none⟩) n k)) (.slice (some ⟨h, i, none⟩) n k) A = A := by simp [obE, same, same1]
theorem plain_size : plainS.size = 170 := by kernel_rfl
theorem e4 {s : List UInt8} {a1 a2 a3 a4 : Int} {H : AH} (hH : Le H G) (hs : 1 ≤ s.length ∧ s.length ≤ 90000) (h3 : 0 ≤ a3 ∧ a3 ≤ 255) (h4 : 0 ≤ a4) (sd : SD H0 dh G L) (hle : ∀ G', Le H0 G' → Le H G') (hQ : ∀ G', Le H G' → Q (.bool true) G') : f4E (OK pmT) Q (bs s) a1 a2 a3 a4 G := by
 have hz : (bs s).size = s.length := rfl
 simp only [f4E, hz]
 refine c14 onlyT (by omega) fun r _ hr => ?_
 have hr := hr (by omega)
 rw [obI_some, letH_eq]
 have hbv : bytesV (bs s) = byteVals s := rfl
 rw [hbv]
 have s1 := sd.newB (n := s.length) s.length (cs := byteVals s) (byteVals_len s)
 obtain ⟨i, hi⟩ : ∃ i : Nat, r = (i : Int) := ⟨r.toNat, by omega⟩
 subst hi
 have hil : i < s.length := by omega
 rw [rem5 h4, obI_some]
 have fin : ∀ {w : List UInt8} {b n k G'} {L' : List It} (j : Nat), SD H0 dh G' L' → L'[j]? = some (.sl 1 b n k (byteVals w)) → w.length ≤ 100000 → f4J0 (OK pmT) Q (bs s) b n k G' := fun j sd' hj hw =>
  j4 (hle _ sd'.le) (by omega) hw j sd' hj hQ
 refine ifB_intro (fun h => ?_) (fun h => ?_)
 ·rw [elemS_eq (by omega) (by omega), obA_some, Int.toNat_natCast, Nat.mul_one]
  obtain ⟨G2, b1, s2⟩ := s1.sstore 0 rfl (j := i) (v := .int .u8 a3) (by rw [byteVals_len]; omega) rfl
  rw [b1, obH_some]
  obtain ⟨u, hu⟩ := isB_of h3.1 h3.2
  have e : (byteVals s).set i (.int .u8 a3) = byteVals (s.set i u) := by rw [hu]; simp [byteVals, List.map_set]
  rw [e] at s2
  exact fin 0 s2 rfl (by rw [List.length_set]; omega)
 refine ifB_intro (fun h => ?_) (fun h => ?_)
 ·have hsl := (s1.item (x := .sl 1 (some ⟨G.next, 0, none⟩) s.length s.length (byteVals s)) (by simp)).1
  rw [hsl.upto (by omega), obL_some, wrap_of (by omega) (by omega), show (i : Int) + 1 = ((i + 1 : Nat) : Int) by omega, hsl.from (by omega), obL_some]
  have hsrc := hsl.part (a := i + 1) (m := s.length - (i + 1)) (by omega) (s.length - (i + 1))
  rw [byteVals_drop, byteVals_take] at hsrc
  have s2 := s1.cut 0 rfl (m := i) (by omega) s.length
  rw [byteVals_take] at s2
  refine s2.growK 0 rfl (by omega) rfl hsrc (by rw [byteVals_len, List.length_take, List.length_drop]; omega) (byteVals_one _) (by omega) (by omega) fun b' k' G' s3 => ?_
  rw [byteVals_app] at s3
  exact fin 0 s3 rfl (by rw [List.length_append, List.length_take, List.length_take, List.length_drop]; omega)
 refine ifB_intro (fun h => ?_) (fun h => ?_)
 ·rw [letH_eq]
  have s2 := s1.newB (n := 0) 0 (cs := []) rfl
  have A : ∀ {G' : AH} {L' : List It} (j : Nat), SD H0 dh G' L' → L'[j]? = some (.sl 1 (some ⟨G.next, 0, none⟩) s.length s.length (byteVals s)) →
    sliceV 1 G' (.slice (some ⟨G.next, 0, none⟩) s.length s.length) none (some (.int .i64 (i : Int))) = some (.slice (some ⟨G.next, 0, none⟩) i s.length) ∧
    sliceV 1 G' (.slice (some ⟨G.next, 0, none⟩) s.length s.length) (some (.int .i64 (i : Int))) none = some (.slice (some ⟨G.next, 0 + i * 1, none⟩) (s.length - i) (s.length - i)) ∧
    srcV G' 1 i (.slice (some ⟨G.next, 0, none⟩) i s.length) = some (byteVals (s.take i)) ∧
    srcV G' 1 (s.length - i) (.slice (some ⟨G.next, 0 + i * 1, none⟩) (s.length - i) (s.length - i)) = some (byteVals (s.drop i)) := fun j sd' hj => by
   have hsl := (sd'.item (List.mem_of_getElem? hj)).1
   have q1 := hsl.part (a := 0) (m := i) (by omega) s.length
   have q2 := hsl.part (a := i) (m := s.length - i) (by omega) (s.length - i)
   rw [byteVals_drop, byteVals_take, List.drop_zero] at q1
   rw [byteVals_drop, byteVals_take, List.take_of_length_le (by rw [List.length_drop]; omega)] at q2
   exact ⟨hsl.upto (by omega), hsl.from (by omega), q1, q2⟩
  rw [(A 1 s2 rfl).1, obL_some, letH_eq]
  have s3 := s2.newB (n := 1) 1 (cs := [.int .u8 a3]) rfl
  rw [(A 2 s3 rfl).2.1, obL_some]
  refine s3.growK 1 rfl (by omega) rfl (A 2 s3 rfl).2.2.1 (by rw [byteVals_len, List.length_take]; omega) (byteVals_one _) (by omega) (by omega) fun b4 k4 G4 s4 => ?_
  obtain ⟨u, hu⟩ := isB_of h3.1 h3.2
  have hsl4 := (s4.item (x := .sl 1 (some ⟨(G.new 1 (byteVals s)).next + 1, 0, none⟩) 1 1 [.int .u8 a3]) (by simp [new_next])).1
  have q4 := hsl4.part (a := 0) (m := 1) (by omega) 1
  refine s4.growK 1 rfl (by omega) rfl q4 (by simp) (by simp [oneCell]) (by omega) (by omega) fun b5 k5 G5 s5 => ?_
  refine s5.growK 1 rfl (by omega) rfl (A 2 s5 rfl).2.2.2 (by rw [byteVals_len, List.length_drop]; omega) (byteVals_one _) (by omega) (by omega) fun b6 k6 G6 s6 => ?_
  rw [(A 2 s3 rfl).1, obE_slc, (A 2 s5 rfl).2.1, obE_slc, (A 2 s4 rfl).2.1, obE_slc, obE_slc]
  have ec : (([] ++ byteVals (s.take i)) ++ (([Value.int .u8 a3] : List Value).drop 0).take 1) ++ byteVals (s.drop i) = byteVals ((s.take i ++ [u]) ++ s.drop i) := by
   rw [hu]; simp [byteVals]
  rw [ec] at s6
  exact fin 1 s6 rfl (by rw [List.length_append, List.length_append, List.length_take, List.length_drop, List.length_singleton]; omega)
 refine ifB_intro (fun h => ?_) (fun h => ?_)
 ·have hsl := (s1.item (x := .sl 1 (some ⟨G.next, 0, none⟩) s.length s.length (byteVals s)) (by simp)).1
  rw [hsl.upto (by omega), obL_some]
  have s2 := s1.cut 0 rfl (m := i) (by omega) s.length
  rw [byteVals_take] at s2
  exact fin 0 s2 rfl (by rw [List.length_take]; omega)
 ·rw [letH_eq]
  have s2 := s1.newB (n := 0) 0 (cs := []) rfl
  have hsl := (s2.item (x := .sl 1 (some ⟨G.next, 0, none⟩) s.length s.length (byteVals s)) (by simp)).1
  have q := hsl.part (a := 0) (m := s.length) (by omega) s.length
  rw [byteVals_drop, byteVals_take, List.drop_zero, List.take_length] at q
  refine s2.growK 0 rfl (by omega) rfl q (by rw [byteVals_len]; omega) (byteVals_one _) (by omega) (by omega) fun b3 k3 G3 s3 => ?_
  refine c14 onlyT (by omega) fun r2 _ hr2 => ?_
  have hr2 := hr2 (by omega)
  rw [obI_some]
  have hcut : cutAtV 0 170 (some (.int .i64 r2)) = some r2.toNat := by
   rw [show r2 = (r2.toNat : Int) by omega]
   exact cutAt_some (by omega) .i64
  have e1 : sliceS (.string plainS) (some (.int .i64 r2)) none = some (.string (plainS.extract r2.toNat 170)) := by
   have e : cutAtV plainS.size plainS.size none = some 170 := by rw [plain_size]; rfl
   simp only [sliceS, e, hcut]
  rw [e1, obS_some]
  generalize ht : plainS.extract r2.toNat 170 = x
  have hx : x.data.toList.length ≤ 170 := by
   rw [← ht]
   show (plainS.extract r2.toNat 170).size ≤ 170
   rw [ByteArray.size_extract]
   omega
  refine s3.growK (x := .string x) (m := x.size) (news := byteVals x.data.toList) 0 rfl (by omega) rfl ?_ (by rw [byteVals_len]; show x.size = _; omega) (byteVals_one _) ?_ ?_ fun b4 k4 G4 s4 => ?_
  ·show some ((x.data.toList.take x.size).map _) = _
   rw [List.take_of_length_le (show x.data.toList.length ≤ x.size from Nat.le_refl _)]
   rfl
  ·have : x.size ≤ 170 := hx
   omega
  ·have : x.size ≤ 170 := hx
   omega
  ·have ec : ([] ++ byteVals s) ++ byteVals x.data.toList = byteVals (s ++ x.data.toList) := by simp [byteVals]
   rw [ec] at s4
   exact fin 0 s4 rfl (by rw [List.length_append]; omega)
end
end AM
end Go.Proofs.YtemcmblcogljkaaGreatDoor

namespace Go.Proofs.YtemcmblcogljkaaGreatDoor
namespace AM
open Go
open TP
section
variable {pm : Prims} {H0 G : AH} {dh : Nat} {L : List It} {Q : Value → AH → Prop}
theorem arch_mem {p : Trm × TG} (ps : List (Trm × TG)) : p ∈ ps → It.sl 11 p.2.bb p.2.bn p.2.bk (recs p.1.bears).flatten ∈ arch ps ∧ It.sl 4 p.2.kb p.2.kn p.2.kk (recs p.1.bucks).flatten ∈ arch ps := by
 induction ps with
 | nil => intro h; cases h
 | cons q ps ih =>
  intro h
  rcases List.mem_cons.1 h with h | h
  ·subst h
   exact ⟨.head _, .tail _ (.head _)⟩
  ·exact ⟨.tail _ (.tail _ (ih h).1), .tail _ (.tail _ (ih h).2)⟩
theorem xarch_mem : ∀ {ps : List (Pkt × PG)} {p : Pkt × PG}, p ∈ ps → It.sl 1 p.2.db p.2.dn p.2.dk (byteVals p.1.data) ∈ xarch ps
 | q :: ps, p, h => by
  rcases List.mem_cons.1 h with h | h
  ·subst h
   exact List.mem_cons_self
  ·exact List.mem_cons_of_mem _ (xarch_mem h)
theorem recs_rows {L : List (List Int)} {k : Nat} (h : ∀ r ∈ L, r.length = k) : ∀ r ∈ recs L, r.length = k := fun r hr => by
 obtain ⟨q, hq, rfl⟩ := List.mem_map.1 hr
 rw [List.length_map]; exact h q hq
theorem SD.rdT (s : SD H0 dh G L) {tb : Option Addr} {tn tk : Nat} {ps : List (Trm × TG)} (ht : It.sl 14 tb tn tk (tcells ps).flatten ∈ L) (ha : ∀ x ∈ arch ps, x ∈ L) (hs : ∀ p ∈ ps, p.1.shaped) : RdT G tb tn (ps.map (·.1)) := by
 obtain ⟨h1, _, h3⟩ := s.item ht
 have hr := h1.rd h3 (fun r hr => (tcells_len ps r hr).1) (by omega)
 refine ⟨by rw [hr.1]; simp [tcells], fun i t hi => ?_⟩
 rw [List.getElem?_map, Option.map_eq_some_iff] at hi
 obtain ⟨p, hp, rfl⟩ := hi
 obtain ⟨h, j, e1, e2⟩ := hr.2 i (p.1.cells p.2.bb p.2.bn p.2.bk p.2.kb p.2.kn p.2.kk) (by simp [tcells, hp])
 have hm := arch_mem ps (List.mem_of_getElem? hp)
 have hsh := hs p (List.mem_of_getElem? hp)
 obtain ⟨b1, _, b3⟩ := s.item (ha _ hm.1)
 obtain ⟨c1, _, c3⟩ := s.item (ha _ hm.2)
 exact ⟨h, j, p.2.bb, p.2.bn, p.2.bk, p.2.kb, p.2.kn, p.2.kk, e1, fun k hk => (e2 k hk).1, b1.rd b3 (recs_rows hsh.1) (by omega), c1.rd c3 (recs_rows hsh.2) (by omega), b3, c3⟩
theorem SD.rdX (s : SD H0 dh G L) {xb : Option Addr} {xn xk : Nat} {ps : List (Pkt × PG)} (ht : It.sl 5 xb xn xk (pcells ps).flatten ∈ L) (ha : ∀ x ∈ xarch ps, x ∈ L) : RdX G xb xn (ps.map (·.1)) := by
 obtain ⟨h1, _, h3⟩ := s.item ht
 have hr := h1.rd h3 (fun r hr => by obtain ⟨p, _, rfl⟩ := List.mem_map.1 hr; rfl) (by omega)
 refine ⟨by rw [hr.1]; simp [pcells], fun i t hi => ?_⟩
 rw [List.getElem?_map, Option.map_eq_some_iff] at hi
 obtain ⟨p, hp, rfl⟩ := hi
 obtain ⟨h, j, e1, e2⟩ := hr.2 i (p.1.cells p.2.db p.2.dn p.2.dk) (by simp [pcells, hp])
 obtain ⟨b1, _, b3⟩ := s.item (ha _ (xarch_mem (List.mem_of_getElem? hp)))
 have hd := b1.rd1 b3
 exact ⟨h, j, p.2.db, p.2.dn, p.2.dk, e1, fun k hk => (e2 k hk).1, by rw [byteVals, List.map_map] at hd; exact hd, b3⟩
theorem smallI_nb {B n : Int} (hB : B ≤ 1000000) (h : smallI B n) : AM.nb n := by unfold smallI at h; unfold AM.nb; omega
theorem TOk.nb {t : Trm} (h : TOk t) : t.nb := ⟨fun n hn => smallI_nb (by omega) (h.nm n hn), fun r hr n hn => smallI_nb (by omega) (h.be r hr n hn), fun r hr n hn => smallI_nb (by omega) (h.bu r hr n hn)⟩
theorem COk.shaped {c : Cfg} (h : COk c) : c.shaped := ⟨fun r hr => (h.fd r hr).1, fun t ht => (h.tm t ht).sh⟩
theorem COk.nb {c : Cfg} (h : COk c) : c.nb := by
 have hn : ∀ n ∈ [c.seed, c.cells, c.res, c.delay, c.betw, c.tries, c.pre, c.att, c.back, c.pa, c.pb, c.pc, c.ra, c.rb, c.rc, c.ou, c.od], AM.nb n := fun n hn => smallI_nb (by omega) (h.nm n hn)
 simp only [List.mem_cons, List.not_mem_nil, or_false, forall_eq_or_imp, forall_eq] at hn
 refine ⟨⟨?_, ?_, ?_, ?_⟩, fun r hr n hn => smallI_nb (by omega) ((h.fd r hr).2 n hn), fun t ht => (h.tm t ht).nb⟩ <;> simp only [List.mem_cons, List.not_mem_nil, or_false, forall_eq_or_imp, forall_eq] <;> simp only [hn, and_self]
theorem POk.nb {p : Pkt} (h : POk p) : p.nb := ⟨fun n hn => smallI_nb (by omega) (h.nm n hn), by have := h.data; omega⟩
theorem flat_lines : ∀ {ts : List Trm}, (∀ t ∈ ts, t.bears.length ≤ 2) → (ts.flatMap Trm.lines).length ≤ 3 * ts.length
 | [], _ => by simp
 | t :: ts, h => by
  have h1 := h t (by simp)
  have h2 := flat_lines (ts := ts) fun u hu => h u (by simp [hu])
  rw [List.flatMap_cons, List.length_append, List.length_cons]
  have : t.lines.length = 1 + t.bears.length := by simp [Trm.lines]; omega
  omega
theorem COk.lines {c : Cfg} (h : COk c) {l : List Pkt} (hl : l.length ≤ 9) : (textOf c l).length ≤ 154 := by
 have h1 := flat_lines (ts := c.terms) fun t ht => (h.tm t ht).n1.2
 have h2 := h.fl
 have h3 := h.tl
 have h4 : c.heads.length = 4 := rfl
 unfold textOf
 simp only [List.length_append, List.length_map]
 omega
theorem COk.bytes {c : Cfg} (h : COk c) {l : List Pkt} (hl : l.length ≤ 9) (hp : ∀ p ∈ l, POk p) : (ends (textOf c l)).length ≤ 90000 := by
 have h1 := ends_len (text_small h.shaped h.nb (fun p hp' => (hp p hp').nb) (B := 80) fun p hp' => (hp p hp').data.2)
 have h2 := h.lines hl
 have h3 : (textOf c l).length * (400 + 2 * 80 + 1) ≤ 154 * 561 := Nat.mul_le_mul h2 (by omega)
 omega
set_option maxRecDepth 100000 in
theorem c4 {b : Option Addr} {n k : Nat} {a1 a2 a3 a4 : Int} {H : AH} (hw : WF H) (hb : ∀ a, b = some a → a.spot = none) (hr : ∃ ns : List Int, Rd H 1 b n (ns.map fun n => [I n]) ∧ ∀ n ∈ ns, -9223372036854775808 ≤ n ∧ n ≤ 9223372036854775807)
  (h3 : 0 ≤ a3 ∧ a3 ≤ 255) (h4 : 0 ≤ a4) (hQ : ∀ H', Le H H' → Q (.bool true) H') : OK pmT 4 ⟨[.slice b n k, I a1, I a2, .int .u8 a3, .int .u8 a4]⟩ H Q := by
 apply f4_ok onlyT
 simp only [f4R]
 refine c8 onlyT ?_
 rw [obB_some]
 refine ifB_intro (fun h => ?_) (fun h => ?_)
 ·refine c7 ?_
  rw [obB_some]
  exact hQ H (Keep.refl hw)
 have hn : n ≤ 300 := by
  have : (n : Int) ≤ 300 := by simpa using h
  omega
 obtain ⟨ns, hr1, hr2⟩ := hr
 refine c9 onlyT hw hr1 hr2 (by omega) hb fun G1 dh G2 l1 s => ?_
 rw [obA_some]
 refine c11K onlyT (by omega) (by omega) s fun x1 G3 s1 _ _ => ?_
 refine c10 onlyT s1 fun c G4 fb fn tb tn ps hc hct htn hfn s2 => ?_
 have hfb : ∀ a, fb = some a → a.spot = none := (s2.item (x := .sl 5 fb fn fn (recs c.fades).flatten) (by simp)).2.2
 have htb : ∀ a, tb = some a → a.spot = none := (s2.item (x := .sl 14 tb tn tn (tcells ps).flatten) (by simp)).2.2
 unfold Cfg.vals
 rw [obN_eq 20 _ _ rfl]
 simp only [cellAt_eq, List.getElem?_cons_succ, List.getElem?_cons_zero, obI_some, obL_some]
 rw [letH_eq]
 refine (s2.new 0 _).storeK 0 rfl (by simp) (by simp [oneCell]) fun G5 s3 => ?_
 simp only [Nat.zero_add, sS, sZ, sN, List.set_cons_zero, List.set_cons_succ] at s3
 simp only [Nat.zero_add, s3.load 0 rfl, List.getElem?_cons_succ, List.getElem?_cons_zero, obI_some, obL_some]
 refine c11K onlyT (by omega) (by omega) s3 fun x2 G6 s4 _ _ => ?_
 have hbn : ∀ p ∈ ps, 1 ≤ p.2.bn ∧ p.2.bn ≤ 100 := fun p hp => by
  have ht := hc.tm p.1 (by rw [hct]; exact List.mem_map_of_mem hp)
  have := ((s4.item (x := .sl 11 p.2.bb p.2.bn p.2.bk (recs p.1.bears).flatten) (by simp [(arch_mem ps hp).1])).1).len
  rw [flat_len (recs_rows ht.sh.1)] at this
  have hl : (recs p.1.bears).length = p.1.bears.length := by simp [recs]
  have := ht.n1
  omega
 have hpl : 1 ≤ ps.length ∧ ps.length ≤ 3 := by have := hc.tl; rw [hct, List.length_map] at this; exact this
 refine c13 onlyT (c := c) (ps := ps) (by omega) (by omega) 2 s4 rfl (by omega) hbn fun G7 xb xn xs s5 hxs hxn hxl => ?_
 rw [obL_some]
 have hrow : ∀ k, G7.load G4.next k = (c.vals fb fn fn tb tn tn)[k]? := fun k => s5.load ((xarch xs).length + 1) (by
  rw [List.getElem?_cons_succ, List.getElem?_append_right (by omega), Nat.sub_self]; rfl) k
 unfold Cfg.vals at hrow
 have hl9 : (xs.map (·.1)).length ≤ 9 := by rw [List.length_map]; omega
 have hxp : ∀ p ∈ xs.map (·.1), POk p := fun p hp => by
  obtain ⟨q, hq, rfl⟩ := List.mem_map.1 hp
  exact hxs q hq
 have hlines := hc.lines hl9
 have hbytes := hc.bytes hl9 hxp
 refine c12 onlyT (c := c) hc.shaped hc.nb (l := xs.map (·.1)) (fun p hp => (hxp p hp).nb) s5.wf
  (((s5.item (x := .sl 5 fb fn fn (recs c.fades).flatten) (by simp)).1).rd hfb (recs_rows hc.shaped.1) (by omega))
  (by rw [hct]; exact s5.rdT (ps := ps) (tk := tn) (by simp) (fun x hx => by simp [hx]) fun p hp => (hc.tm p.1 (by rw [hct]; exact List.mem_map_of_mem hp)).sh)
  (s5.rdX (ps := xs) (xk := xn) (by simp) fun x hx => by simp [hx]) (by omega) (by omega) fun G8 l8 => ?_
 simp only [tupV_eq, List.getElem?_cons_succ, List.getElem?_cons_zero, obS_some, obI_some, hrow, s4.load 0 rfl, obE1_int, obE1_slice hfb, obE1_slice htb, join2]
 have hlen : (formatOf c (xs.map (·.1))).1.length ≤ 90000 := by
  unfold formatOf
  split
  ·simp
  ·exact hbytes
 generalize (formatOf c (xs.map (·.1))).1 = w at hlen ⊢
 refine c11K onlyT (by omega) (by omega) (s5.mono l8) fun x3 G9 s6 _ _ => ?_
 have hle : ∀ G', Le G1 G' → Le H G' := fun G' h => l1.trans h
 have p1 : f4E (OK pmT) Q plainS a1 a2 a3 a4 G9 := by
  have hp : plainS = bs plainS.data.toList := by kernel_rfl
  have hl : plainS.data.toList.length = 170 := by kernel_rfl
  rw [hp]
  exact e4 (hle G9 s6.le) (by omega) h3 h4 s6 hle hQ
 refine ifB_intro (fun h => ?_) (fun h => ?_)
 ·exact p1
 ·refine ifB_intro (fun h => ?_) (fun h => ?_)
  ·exact p1
  ·have hne : w ≠ [] := by
    intro e
    subst e
    simp at h
   have := List.length_pos_iff.2 hne
   exact e4 (hle G9 s6.le) (by omega) h3 h4 s6 hle hQ
end
end AM
end Go.Proofs.YtemcmblcogljkaaGreatDoor

