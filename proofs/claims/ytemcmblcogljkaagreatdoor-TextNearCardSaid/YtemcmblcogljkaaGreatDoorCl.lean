/- Memory that is owned piece by piece. What is made of numbers: the dice, bearers. What is made of numbers: the scripts of channels. -/
import Derived.Test.YtemcmblcogljkaaGreatDoorCk
set_option linter.all false
set_option linter.unusedSimpArgs false
set_option linter.unusedVariables false
namespace Go.Proofs.YtemcmblcogljkaaGreatDoor
namespace AM
open Go
inductive It where
 | row (h : Nat) (vs : List Value)
 | sl (sz : Nat) (b : Option Addr) (n k : Nat) (cs : List Value)
def It.fam (G : AH) : It → Nat → Prop
 | .row h _, g => g = h
 | .sl _ b _ _ _, g => rootB G b g
def It.ok (G : AH) : It → Prop
 | .row h vs => Fresh G h vs
 | .sl sz b n k cs => Sli G sz b n k cs ∧ TipB G b ∧ ∀ a, b = some a → a.spot = none
theorem It.ok.keep {F : Nat → Prop} {G G' : AH} (hw : WF G) (hk : Keep F G G') {x : It} (h : x.ok G) (hF : ∀ g, x.fam G g → ¬ F g) : x.ok G' := by
 cases x with
 | row a vs => exact Fresh.keep hw hk h (hF a rfl)
 | sl sz b n k cs => exact ⟨h.1.keep hw hk hF, h.2.1.keep hw hk hF, h.2.2⟩
theorem It.ok.fam {F : Nat → Prop} {G G' : AH} (hw : WF G) (hk : Keep F G G') {x : It} (h : x.ok G) (g : Nat) : x.fam G' g ↔ x.fam G g := by
 cases x with
 | row a vs => exact Iff.rfl
 | sl sz b n k cs => exact rootB_keep hw hk h.1 g
theorem It.ok.lt {G : AH} (hw : WF G) {x : It} (h : x.ok G) {g : Nat} (hg : x.fam G g) : g < G.next := by
 cases x with
 | row a vs => have h' : Fresh G a vs := h; have := h'.own.lt hw; have hg : g = a := hg; omega
 | sl sz b n k cs => exact rootB_lt hw h.1 hg
structure Sep (H0 G : AH) (L : List It) : Prop where
 w0 : WF H0
 le : Le H0 G
 ok : ∀ x ∈ L, x.ok G
 low : ∀ x ∈ L, ∀ g, x.fam G g → H0.next ≤ g
 dis : L.Pairwise fun x y => ∀ g, x.fam G g → ¬ y.fam G g
theorem Sep.perm {H0 G : AH} {L L' : List It} (s : Sep H0 G L) (hp : L.Perm L') : Sep H0 G L' :=
 ⟨s.w0, s.le, fun x hx => s.ok x (hp.mem_iff.2 hx), fun x hx => s.low x (hp.mem_iff.2 hx), (hp.pairwise_iff fun h g a b => h g b a).1 s.dis⟩
theorem Sep.sub {H0 G : AH} {L L' : List It} (s : Sep H0 G L) (hp : L'.Sublist L) : Sep H0 G L' :=
 ⟨s.w0, s.le, fun x hx => s.ok x (hp.subset hx), fun x hx => s.low x (hp.subset hx), s.dis.sublist hp⟩
theorem perm_pick : ∀ {L : List It} {i : Nat} {x : It}, L[i]? = some x → L.Perm (x :: L.eraseIdx i)
 | [], i, x, h => by simp at h
 | a :: L, 0, x, h => by simp at h; subst h; exact .refl _
 | a :: L, i + 1, x, h => by
  have := perm_pick (L := L) (i := i) (x := x) (by simpa using h)
  exact (this.cons a).trans (.swap _ _ _)
theorem perm_set : ∀ {L : List It} {i : Nat} {x y : It}, L[i]? = some x → (y :: L.eraseIdx i).Perm (L.set i y)
 | [], i, x, _, h => by simp at h
 | a :: L, 0, x, _, h => .refl _
 | a :: L, i + 1, x, y, h => by
  have := perm_set (L := L) (i := i) (x := x) (y := y) (by simpa using h)
  exact (List.Perm.swap _ _ _).trans (this.cons a)
theorem Sep.change1 {H0 G G' : AH} {L : List It} {x y : It} (s : Sep H0 G (x :: L)) (hk : Keep (x.fam G) G G') (hy : y.ok G') (hf : ∀ g, y.fam G' g → x.fam G g ∨ G.next ≤ g) : Sep H0 G' (y :: L) := by
 have hd := List.pairwise_cons.1 s.dis
 have hw := s.le.wf
 have hok : ∀ z ∈ L, z.ok G := fun z hz => s.ok z (List.mem_cons_of_mem _ hz)
 have hx := s.low x (by simp)
 refine ⟨s.w0, Keep.trans s.le hk fun g hg hh => by have := hx g hh; omega, fun z hz => ?_, fun z hz g hg => ?_, List.pairwise_cons.2 ⟨fun z hz g hg hh => ?_, ?_⟩⟩
 ·rcases List.mem_cons.1 hz with rfl | hz
  ·exact hy
  ·exact (hok z hz).keep hw hk fun g h1 h2 => hd.1 z hz g h2 h1
 ·rcases List.mem_cons.1 hz with rfl | hz
  ·rcases hf g hg with h | h
   ·exact hx g h
   ·exact Nat.le_trans s.le.next h
  ·exact s.low z (List.mem_cons_of_mem _ hz) g (((hok z hz).fam hw hk g).1 hg)
 ·have hh := ((hok z hz).fam hw hk g).1 hh
  rcases hf g hg with h | h
  ·exact hd.1 z hz g h hh
  ·have := (hok z hz).lt hw hh; omega
 ·refine hd.2.imp_of_mem fun {a b} ha hb h g h1 h2 => ?_
  exact h g (((hok a ha).fam hw hk g).1 h1) (((hok b hb).fam hw hk g).1 h2)
theorem Sep.change {H0 G G' : AH} {L : List It} {i : Nat} {x y : It} (s : Sep H0 G L) (hi : L[i]? = some x) (hk : Keep (x.fam G) G G') (hy : y.ok G') (hf : ∀ g, y.fam G' g → x.fam G g ∨ G.next ≤ g) : Sep H0 G' (L.set i y) :=
 ((s.perm (perm_pick hi)).change1 hk hy hf).perm (perm_set hi)
theorem Sep.add {H0 G G' : AH} {L : List It} {y : It} (s : Sep H0 G L) (hk : Le G G') (hy : y.ok G') (hf : ∀ g, y.fam G' g → G.next ≤ g) : Sep H0 G' (y :: L) := by
 have hw := s.le.wf
 refine ⟨s.w0, s.le.trans hk, fun z hz => ?_, fun z hz g hg => ?_, List.pairwise_cons.2 ⟨fun z hz g hg hh => ?_, ?_⟩⟩
 ·rcases List.mem_cons.1 hz with rfl | hz
  ·exact hy
  ·exact (s.ok z hz).keep hw hk fun _ _ h => h
 ·rcases List.mem_cons.1 hz with rfl | hz
  ·exact Nat.le_trans s.le.next (hf g hg)
  ·exact s.low z hz g (((s.ok z hz).fam hw hk g).1 hg)
 ·have hh := ((s.ok z hz).fam hw hk g).1 hh
  have := (s.ok z hz).lt hw hh
  have := hf g hg
  omega
 ·refine s.dis.imp_of_mem fun {a b} ha hb h g h1 h2 => ?_
  exact h g (((s.ok a ha).fam hw hk g).1 h1) (((s.ok b hb).fam hw hk g).1 h2)
theorem Sep.mono {H0 G G' : AH} {L : List It} (s : Sep H0 G L) (hk : Le G G') : Sep H0 G' L := by
 have := (s.add (y := .sl 1 none 0 0 []) hk ⟨.nil, trivial, fun a h => by cases h⟩ fun g hg => hg.elim)
 exact this.sub (List.sublist_cons_self _ _)
theorem Sep.start {H0 : AH} (hw : WF H0) : Sep H0 H0 [] := ⟨hw, Keep.refl hw, fun x h => (by cases h), fun x h => (by cases h), .nil⟩
def SD (H0 : AH) (dh : Nat) (G : AH) (L : List It) : Prop :=
 ∃ lb ln lk, ∃ ns : List Int, ∃ at' : Nat, Rd H0 1 lb ln (ns.map fun n => [I n]) ∧ (∀ n ∈ ns, -9223372036854775808 ≤ n ∧ n ≤ 9223372036854775807) ∧ ln ≤ 1000000 ∧ at' ≤ ln ∧ Sep H0 G (.row dh [.slice lb ln lk, I at'] :: L)
section
variable {H0 G G' : AH} {dh : Nat} {L L' : List It}
theorem SD.le (s : SD H0 dh G L) : Le H0 G := by obtain ⟨_, _, _, _, _, _, _, _, _, s⟩ := s; exact s.le
theorem SD.wf (s : SD H0 dh G L) : WF G := s.le.wf
theorem SD.perm (s : SD H0 dh G L) (hp : L.Perm L') : SD H0 dh G L' := by
 obtain ⟨_, _, _, _, _, h1, h2, h3, h4, s⟩ := s
 exact ⟨_, _, _, _, _, h1, h2, h3, h4, s.perm (hp.cons _)⟩
theorem SD.sub (s : SD H0 dh G L) (hp : L'.Sublist L) : SD H0 dh G L' := by
 obtain ⟨_, _, _, _, _, h1, h2, h3, h4, s⟩ := s
 exact ⟨_, _, _, _, _, h1, h2, h3, h4, s.sub (hp.cons_cons _)⟩
theorem SD.erase (s : SD H0 dh G L) (i : Nat) : SD H0 dh G (L.eraseIdx i) := s.sub (List.eraseIdx_sublist _ _)
theorem SD.mono (s : SD H0 dh G L) (hk : Le G G') : SD H0 dh G' L := by
 obtain ⟨_, _, _, _, _, h1, h2, h3, h4, s⟩ := s
 exact ⟨_, _, _, _, _, h1, h2, h3, h4, s.mono hk⟩
theorem SD.item (s : SD H0 dh G L) {x : It} (hx : x ∈ L) : x.ok G := by
 obtain ⟨_, _, _, _, _, _, _, _, _, s⟩ := s
 exact s.ok x (List.mem_cons_of_mem _ hx)
theorem SD.add (s : SD H0 dh G L) {y : It} (hk : Le G G') (hy : y.ok G') (hf : ∀ g, y.fam G' g → G.next ≤ g) : SD H0 dh G' (y :: L) := by
 obtain ⟨_, _, _, _, _, h1, h2, h3, h4, s⟩ := s
 exact ⟨_, _, _, _, _, h1, h2, h3, h4, (s.add hk hy hf).perm (.swap _ _ _)⟩
theorem SD.change (s : SD H0 dh G L) {i : Nat} {x y : It} (hi : L[i]? = some x) (hk : Keep (x.fam G) G G') (hy : y.ok G') (hf : ∀ g, y.fam G' g → x.fam G g ∨ G.next ≤ g) : SD H0 dh G' (L.set i y) := by
 obtain ⟨_, _, _, _, _, h1, h2, h3, h4, s⟩ := s
 exact ⟨_, _, _, _, _, h1, h2, h3, h4, s.change (i := i + 1) (by simpa using hi) hk hy hf⟩
theorem SD.new (s : SD H0 dh G L) (sz : Nat) (cs : List Value) : SD H0 dh (G.new sz cs) (.row G.next cs :: L) :=
 s.add (new_le s.wf sz cs) (Fresh.new G sz cs) fun g hg => by have hg : g = G.next := hg; omega
theorem SD.newSl (s : SD H0 dh G L) (sz n k : Nat) {cs : List Value} (hn : cs.length = n * sz) : SD H0 dh (G.new sz cs) (.sl sz (some ⟨G.next, 0, none⟩) n k cs :: L) := by
 refine s.add (new_le s.wf sz cs) ⟨new_sli G sz n hn, new_tip G sz cs 0 none, fun a h => by cases h; rfl⟩ fun g hg => ?_
 have hg : g = rootOf (G.new sz cs) G.next := hg
 rw [new_root] at hg
 omega
theorem SD.nil (s : SD H0 dh G L) (sz : Nat) : SD H0 dh G (.sl sz none 0 0 [] :: L) :=
 s.add (Keep.refl s.wf) ⟨.nil, trivial, fun a h => by cases h⟩ fun g hg => hg.elim
theorem SD.load (s : SD H0 dh G L) {h : Nat} {vs : List Value} (i : Nat) (hi : L[i]? = some (.row h vs)) (j : Nat) : G.load h j = vs[j]? :=
 Fresh.vals (s.item (List.mem_of_getElem? hi)) j
def spl (vs : List Value) (j : Nat) (ws : List Value) : List Value := vs.take j ++ ws ++ vs.drop (j + ws.length)
theorem sS (a : Value) (vs ws : List Value) (j : Nat) : spl (a :: vs) (j + 1) ws = a :: spl vs j ws := by
 simp only [spl, List.take_succ_cons, List.cons_append]
 rw [show j + 1 + ws.length = (j + ws.length) + 1 by omega, List.drop_succ_cons]
theorem sZ (a w : Value) (vs ws : List Value) : spl (a :: vs) 0 (w :: ws) = w :: spl vs 0 ws := by
 simp only [spl, List.take_zero, List.nil_append, List.length_cons, List.cons_append]
 rw [show 0 + (ws.length + 1) = (0 + ws.length) + 1 by omega, List.drop_succ_cons]
theorem sN (vs : List Value) : spl vs 0 [] = vs := rfl
theorem SD.store (s : SD H0 dh G L) {h : Nat} {vs : List Value} (i : Nat) (hi : L[i]? = some (.row h vs)) (j : Nat) (ws : List Value) (hl : j + ws.length ≤ vs.length) (hv : ∀ v ∈ ws, oneCell v = true) :
  ∃ G', G.storeN h j ws = some G' ∧ SD H0 dh G' (L.set i (.row h (spl vs j ws))) := by
 have hf : Fresh G h vs := s.item (List.mem_of_getElem? hi)
 obtain ⟨G', h1, h2, h3, h4⟩ := hf.put s.wf hl hv (us := spl vs j ws) rfl
 exact ⟨G', h1, s.change hi h2 h3 fun g hg => .inl hg⟩
theorem SD.grow (s : SD H0 dh G L) {sz n k : Nat} {b : Option Addr} {cs : List Value} (bytes : Nat) (i : Nat) (hi : L[i]? = some (.sl sz b n k cs)) (hsz : 0 < sz) {x : Value} {m : Nat} {news : List Value} (hlen : lenOf' x = some m) (hx : srcV G sz m x = some news) (hm : 0 < m) (hnl : news.length = m * sz) (hone : ∀ v ∈ news, oneCell v = true)
  (hb : (n + m) * bytes * 2 ≤ 140737488355328) (hb2 : n + m ≤ 4611686018427387904) :
  ∃ b' G', appendV sz bytes G (.slice b n k) x = some (.slice b' (n + m) (n + m), G') ∧ SD H0 dh G' (L.set i (.sl sz b' (n + m) (n + m) (cs ++ news))) := by
 obtain ⟨h1, h2, h3⟩ := s.item (List.mem_of_getElem? hi)
 obtain ⟨b', G', a1, a2, a3, a4, ⟨h', i', a5⟩⟩ := append_ok s.wf hsz (bytes := bytes) h1 hlen hx hm hnl hone hb hb2
 refine ⟨b', G', a1, s.change hi a3 ⟨a2, append_tip hlen hm a1 ?_, fun a ha => by rw [a5] at ha; injection ha with ha; subst ha; rfl⟩ a4⟩
 intro h i s r f hbs hr hf
 subst hbs
 cases h1 with
 | row hr' _ hf' ho' _ _ _ _ =>
  rw [hr] at hr'; injection hr' with hr'; subst hr'
  rw [hf] at hf'; injection hf' with hf'; subst hf'
  exact ho'
theorem SD.push (s : SD H0 dh G L) {sz n k hs : Nat} {b : Option Addr} {cs news : List Value} (bytes : Nat) (i : Nat) (hi : L[i]? = some (.sl sz b n k cs)) (hsz : 0 < sz) (j : Nat) (hj : L[j]? = some (.row hs news)) (hnl : news.length = sz) (hone : ∀ v ∈ news, oneCell v = true)
  (hb : (n + 1) * bytes * 2 ≤ 140737488355328) (hb2 : n + 1 ≤ 4611686018427387904) :
  ∃ b' G', appendV sz bytes G (.slice b n k) (.slice (some ⟨hs, 0, none⟩) 1 1) = some (.slice b' (n + 1) (n + 1), G') ∧ SD H0 dh G' (L.set i (.sl sz b' (n + 1) (n + 1) (cs ++ news))) :=
 s.grow bytes i hi hsz rfl (src_slice (by omega) fun k _ => by rw [Nat.zero_add]; exact s.load j hj k) (by omega) (by omega) hone hb hb2
theorem SD.rd (s : SD H0 dh G L) {sz n k : Nat} {b : Option Addr} {M : List (List Value)} (i : Nat) (hi : L[i]? = some (.sl sz b n k M.flatten)) (hM : ∀ r ∈ M, r.length = sz) (hsz : 0 < sz) : Rd G sz b n M := by
 obtain ⟨h1, h2, h3⟩ := s.item (List.mem_of_getElem? hi)
 exact h1.rd h3 hM hsz
theorem SD.sstore (s : SD H0 dh G L) {sz n k h o : Nat} {cs : List Value} (i : Nat) (hi : L[i]? = some (.sl sz (some ⟨h, o, none⟩) n k cs)) {j : Nat} (hj : j < cs.length) {v : Value} (hv : oneCell v = true) :
  ∃ G', G.storeN h (o + j) [v] = some G' ∧ SD H0 dh G' (L.set i (.sl sz (some ⟨h, o, none⟩) n k (cs.set j v))) := by
 obtain ⟨h1, h2, h3⟩ := s.item (List.mem_of_getElem? hi)
 obtain ⟨G', a1, a2, a3, a4, a5, a6⟩ := sli_store s.wf h1 h2 hj hv
 refine ⟨G', by simp only [AH.storeN, a1], s.change hi a4 ⟨a2, a3, h3⟩ fun g hg => .inl ?_⟩
 have hg : g = rootOf G' h := hg
 show g = rootOf G h
 rw [hg, a6]
end
section
variable {pm : Prims} {H0 G : AH} {dh : Nat} {L : List It}
theorem c14 (hp : Only pm) {x n : Int} (hn : n ≤ 4611686018427387904) {Q : Value → AH → Prop} (hQ : ∀ r, (n < 1 → r = 0) → (1 ≤ n → 0 ≤ r ∧ r < n) → Q (I r) G) : OK pm 14 ⟨[I x, I n]⟩ G Q := by
 apply f14_ok hp
 simp only [f14R]
 refine ifB_intro (fun h => ?_) (fun h => ?_)
 ·have h : n < 1 := of_decide_eq_true h
  exact hQ 0 (fun _ => rfl) fun h' => by omega
 ·have h : ¬ n < 1 := of_decide_eq_false h
  have a1 := Int.lt_tmod_of_pos x (show 0 < n by omega)
  have a2 := Int.tmod_lt_of_pos x (show 0 < n by omega)
  have e1 : aInt .rem .i64 x n = some (I (x.tmod n)) := by
   show (match decide (n = 0) with | true => none | false => some (Value.int .i64 (x.tmod n))) = _
   rw [decide_eq_false (by omega)]
  rw [e1, obI_some, wrap_of (by omega) (by omega)]
  have b1 := Int.tmod_nonneg n (show 0 ≤ x.tmod n + n by omega)
  have b2 := Int.tmod_lt_of_pos (x.tmod n + n) (show 0 < n by omega)
  have e2 : aInt .rem .i64 (x.tmod n + n) n = some (I ((x.tmod n + n).tmod n)) := by
   show (match decide (n = 0) with | true => none | false => some (Value.int .i64 ((x.tmod n + n).tmod n))) = _
   rw [decide_eq_false (by omega)]
  rw [e2, obI_some]
  exact hQ _ (fun h' => by omega) fun _ => ⟨b1, b2⟩
theorem c11 (hp : Only pm) {n : Int} (hn : n ≤ 4611686018427387904) (s : SD H0 dh G L) {Q : Value → AH → Prop} (hQ : ∀ r G', SD H0 dh G' L → (n < 1 → r = 0) → (1 ≤ n → 0 ≤ r ∧ r < n) → Q (I r) G') : OK pm 11 ⟨[.pointer (some ⟨dh, 0, none⟩), I n]⟩ G Q := by
 obtain ⟨lb, ln, lk, ns, at', h1, h2, h3, h4, s⟩ := s
 apply f11_ok hp
 have hf : Fresh G dh [.slice lb ln lk, I at'] := s.ok (.row dh [.slice lb ln lk, I at']) (by simp)
 simp only [f11R, hf.vals, Nat.zero_add, List.getElem?_cons_zero, List.getElem?_cons_succ, obI_some, obL_some]
 refine ifB_intro (fun h => ?_) (fun h => ?_)
 ·exact hQ 0 G ⟨_, _, _, _, _, h1, h2, h3, h4, s⟩ (fun _ => rfl) fun h => by omega
 ·have h : ¬ ((at' : Int) ≥ (ln : Int)) := of_decide_eq_false h
  obtain ⟨G1, a1, a2, a3, a4⟩ := hf.put s.le.wf (i := 1) (ws := [I (IntKind.wrap .i64 ((at' : Int) + 1))]) (by simp) (by simp [oneCell]) (us := [.slice lb ln lk, I ((at' + 1 : Nat) : Int)]) (by simp only [List.take_succ_cons, List.take_zero, List.drop, List.length_cons, List.length_nil]; rw [wrap_of (by omega) (by omega)]; rfl)
  rw [a1, obH_some]
  simp only [a3.vals, List.getElem?_cons_zero, List.getElem?_cons_succ, obI_some, obL_some]
  have s1 := s.change1 (y := .row dh [.slice lb ln lk, I ((at' + 1 : Nat) : Int)]) a2 a3 fun g hg => .inl hg
  have hlen : ln = ns.length := by have := h1.1; simpa using this
  obtain ⟨x, hx⟩ : ∃ x, ns[at']? = some x := ⟨_, List.getElem?_eq_getElem (by omega)⟩
  obtain ⟨eh, ej, e1, e2⟩ := (h1.le s.w0 s1.le).elem (k := lk) (i := at') (r := [I x]) (kk := .i64) (by simp [hx])
  rw [show IntKind.wrap .i64 (((at' + 1 : Nat) : Int) - 1) = (at' : Int) by rw [wrap_of (by omega) (by omega)]; omega, e1, obA_some]
  have e3 := e2 0 (by omega)
  rw [Nat.add_zero] at e3
  rw [e3, List.getElem?_cons_zero, obI_some]
  exact c14 hp hn fun r r1 r2 => by
   rw [obI_some]
   exact hQ r G1 ⟨_, _, _, _, _, h1, h2, h3, by omega, s1⟩ r1 r2
theorem c11K (hp : Only pm) {n : Int} (h1 : 1 ≤ n) (hn : n ≤ 4611686018427387904) (s : SD H0 dh G L) {K : Int → AH → Prop} (hK : ∀ r G', SD H0 dh G' L → 0 ≤ r → r < n → K r G') : OK pm 11 ⟨[.pointer (some ⟨dh, 0, none⟩), I n]⟩ G (fun v H => obI .i64 (some v) fun x => K x H) :=
 c11 hp hn s fun r G' s' _ z => by rw [obI_some]; exact hK r G' s' (z h1).1 (z h1).2
theorem SD.storeK (s : SD H0 dh G L) {h : Nat} {vs : List Value} (i : Nat) (hi : L[i]? = some (.row h vs)) {j : Nat} {ws : List Value} {K : AH → Prop} (hl : j + ws.length ≤ vs.length) (hv : ∀ v ∈ ws, oneCell v = true) (hK : ∀ G', SD H0 dh G' (L.set i (.row h (spl vs j ws))) → K G') : obH (G.storeN h j ws) K := by
 obtain ⟨G', h1, h2⟩ := s.store i hi j ws hl hv
 rw [h1, obH_some]
 exact hK G' h2
theorem SD.pushK (s : SD H0 dh G L) {sz n k hs bytes : Nat} {b : Option Addr} {cs news : List Value} (i : Nat) (hi : L[i]? = some (.sl sz b n k cs)) (hsz : 0 < sz) (j : Nat) (hj : L[j]? = some (.row hs news)) (hnl : news.length = sz) (hone : ∀ v ∈ news, oneCell v = true)
  (hb : (n + 1) * bytes * 2 ≤ 140737488355328) (hb2 : n + 1 ≤ 4611686018427387904) {K : Option Addr → Nat → Nat → AH → Prop} (hK : ∀ b' G', SD H0 dh G' (L.set i (.sl sz b' (n + 1) (n + 1) (cs ++ news))) → K b' (n + 1) (n + 1) G') : obG (appendV sz bytes G (.slice b n k) (.slice (some ⟨hs, 0, none⟩) 1 1)) K := by
 obtain ⟨b', G', h1, h2⟩ := s.push bytes i hi hsz j hj hnl hone hb hb2
 rw [h1, obG_some]
 exact hK b' G' h2
theorem SD.recK (s : SD H0 dh G L) {sz n k bytes : Nat} {b : Option Addr} {cs news : List Value} (i : Nat) (hi : L[i]? = some (.sl sz b n k cs)) (hsz : 0 < sz) (hnl : news.length = sz) (hone : ∀ v ∈ news, oneCell v = true)
  (hb : (n + 1) * bytes * 2 ≤ 140737488355328) (hb2 : n + 1 ≤ 4611686018427387904) {K : Option Addr → Nat → Nat → AH → Prop} (hK : ∀ b' G', SD H0 dh G' (L.set i (.sl sz b' (n + 1) (n + 1) (cs ++ news))) → K b' (n + 1) (n + 1) G') : letH (G.new sz news) fun H2 => obG (appendV sz bytes H2 (.slice b n k) (.slice (some ⟨G.next, 0, none⟩) 1 1)) K :=
 (s.new sz news).pushK (i + 1) (by simpa using hi) hsz 0 rfl hnl hone hb hb2 fun b' G' s' => hK b' G' (s'.erase 0)
theorem SD.catK (s : SD H0 dh G L) {sz n m k2 bytes : Nat} {b b2 : Option Addr} {cs news : List Value} (i : Nat) (hi : L[i]? = some (.sl sz b n n cs)) (hsz : 0 < sz) (j : Nat) (hj : L[j]? = some (.sl sz b2 m k2 news)) (hone : ∀ v ∈ news, oneCell v = true)
  (hb : (n + m) * bytes * 2 ≤ 140737488355328) (hb2 : n + m ≤ 4611686018427387904) {K : Option Addr → Nat → Nat → AH → Prop} (hK : ∀ b' G', SD H0 dh G' (L.set i (.sl sz b' (n + m) (n + m) (cs ++ news))) → K b' (n + m) (n + m) G') : obG (appendV sz bytes G (.slice b n n) (.slice b2 m k2)) K := by
 obtain ⟨h1, h2, h3⟩ := s.item (List.mem_of_getElem? hj)
 have hlen := h1.len
 have hsrc : srcV G sz m (.slice b2 m k2) = some news := by
  cases h1 with
  | nil => rfl
  | row hr hs hf ho hl hh hn hc =>
   rename_i h o r f
   exact src_slice hn hc
 by_cases h0 : m = 0
 ·subst h0
  rw [Nat.zero_mul] at hlen
  have hnil := List.length_eq_zero_iff.1 hlen
  subst hnil
  have e : appendV sz bytes G (.slice b n n) (.slice b2 0 k2) = some (.slice b n n, G) := by
   simp only [appendV, lenOf', hsrc, Nat.beq_refl]
  rw [e, obG_some]
  have := hK b G (by
   rw [List.append_nil, Nat.add_zero]
   have : L.set i (.sl sz b n n cs) = L := by
    obtain ⟨hlt, he⟩ := List.getElem?_eq_some_iff.1 hi
    rw [← he, List.set_getElem_self]
   rw [this]; exact s)
  exact this
 ·obtain ⟨b', G', a1, a2⟩ := s.grow bytes i hi hsz rfl hsrc (by omega) hlen hone hb hb2
  rw [a1, obG_some]
  exact hK b' G' a2
end
end AM
end Go.Proofs.YtemcmblcogljkaaGreatDoor

namespace Go.Proofs.YtemcmblcogljkaaGreatDoor
namespace AM
open Go
section
variable {pm : Prims} {H0 G : AH} {dh : Nat} {L : List It} {Q : Value → AH → Prop}
theorem flat1 {α β : Type} (f : α → β) (l : List α) : (l.map fun x => [f x]).flatten = l.map f := by
 induction l with
 | nil => rfl
 | cons x l ih => simp [ih]
theorem c8 (hp : Only pm) {b : Option Addr} {n k : Nat} (hQ : Q (.bool (decide ((n : Int) ≤ 300))) G) : OK pm 8 ⟨[.slice b n k]⟩ G Q := by
 apply f8_ok hp
 exact hQ
theorem c9 (hp : Only pm) {b : Option Addr} {n k : Nat} {ns : List Int} (hw : WF G) (hr : Rd G 1 b n (ns.map fun n => [I n])) (hns : ∀ n ∈ ns, -9223372036854775808 ≤ n ∧ n ≤ 9223372036854775807) (hn : n ≤ 1000000) (hb : ∀ a, b = some a → a.spot = none)
  (hQ : ∀ G1 dh G', Le G G1 → SD G1 dh G' [] → Q (.pointer (some ⟨dh, 0, none⟩)) G') : OK pm 9 ⟨[.slice b n k]⟩ G Q := by
 apply f9_ok hp
 simp only [f9R, letH_eq]
 have hlen : n = ns.length := by have := hr.1; simpa using this
 have l1 := new_le hw 1 []
 have fin : ∀ G1 lb lk, Le G G1 → Rd G1 1 lb n (ns.map fun n => [I n]) → SD G1 G1.next (G1.new 0 [.slice lb n lk, I 0]) [] := fun G1 lb lk l2 h2 => by
  have := (Sep.start l2.wf).add (y := .row G1.next [.slice lb n lk, I 0]) (new_le l2.wf 0 [.slice lb n lk, I 0]) (Fresh.new G1 0 _) fun g hg => by have hg : g = G1.next := hg; omega
  exact ⟨lb, n, lk, ns, 0, h2, hns, hn, by omega, this⟩
 by_cases h0 : n = 0
 ·subst h0
  have e : appendV 1 8 (G.new 1 []) (.slice (some ⟨G.next, 0, none⟩) 0 0) (.slice b 0 k) = some (.slice (some ⟨G.next, 0, none⟩) 0 0, G.new 1 []) := by
   cases b with
   | none => rfl
   | some a =>
    obtain ⟨h, i, sp⟩ := a
    have := hb _ rfl
    simp only at this
    subst this
    rfl
  rw [e, obG_some]
  refine hQ _ _ _ l1 (fin _ _ _ l1 ⟨by rw [hlen]; simp, fun i r hi => ?_⟩)
  rw [List.length_eq_zero_iff.1 hlen.symm] at hi
  simp at hi
 ·have hs := new_sli G 1 0 (cs := []) rfl (c := 0)
  have hr1 := hr.le hw l1
  obtain ⟨h, j, hb⟩ : ∃ h j, b = some ⟨h, j, none⟩ := by
   obtain ⟨x, hx⟩ : ∃ x, ns[0]? = some x := ⟨_, List.getElem?_eq_getElem (by omega)⟩
   obtain ⟨h, j, e, _⟩ := hr.2 0 [I x] (by simp [hx])
   exact ⟨h, j, e⟩
  subst hb
  have hsrc : srcV (G.new 1 []) 1 n (.slice (some ⟨h, j, none⟩) n k) = some (ns.map I) := src_slice (by simp [hlen]) fun i hi => by
   rw [List.length_map] at hi
   obtain ⟨x, hx⟩ : ∃ x, ns[i]? = some x := ⟨_, List.getElem?_eq_getElem hi⟩
   obtain ⟨h', j', e, e2⟩ := hr1.2 i [I x] (by simp [hx])
   injection e with e; injection e with e3 e4; subst e3; subst e4
   have := (e2 0 (by omega)).1
   rw [Nat.add_zero, Nat.mul_one] at this
   rw [this]; simp [hx]
  obtain ⟨b', H', a1, a2, a3, a4, ⟨h', i', a5⟩⟩ := append_ok l1.wf (sz := 1) (bytes := 8) (by omega) hs (x := .slice (some ⟨h, j, none⟩) n k) (m := n) rfl hsrc (by omega) (by simp [hlen]) (by simp [oneCell]) (by omega) (by omega)
  rw [Nat.zero_add] at a1 a2
  rw [a1, obG_some]
  have l2 : Le G H' := Keep.trans l1 a3 fun g hg hh => by have hh : g = rootOf (G.new 1 []) G.next := hh; rw [new_root] at hh; omega
  refine hQ _ _ _ l2 (fin _ _ _ l2 ?_)
  rw [List.nil_append] at a2
  exact Sli.rd (L := ns.map fun n => [I n]) (by rw [flat1]; exact a2) (fun a ha => by rw [a5] at ha; injection ha with ha; subst ha; rfl) (by simp) (by omega)
def smallI (B : Int) (x : Int) : Prop := -B ≤ x ∧ x ≤ B
theorem c20 (hp : Only pm) {m : Int} (hm : smallI 100 m) (s : SD H0 dh G L) (hQ : ∀ (xs : List Int) G', xs.length = 11 → (∀ x ∈ xs, smallI 100 x) → SD H0 dh G' L → Q (.agg ⟨xs.map I⟩) G') : OK pm 20 ⟨[.pointer (some ⟨dh, 0, none⟩), I m]⟩ G Q := by
 apply f20_ok hp
 simp only [f20R, letH_eq]
 refine c11K hp (by omega) (by omega) (s.new 0 _) fun x1 G1 s1 _ _ => ?_
 refine c11K hp (by omega) (by omega) s1 fun x2 G2 s2 _ _ => ?_
 refine c11K hp (by omega) (by omega) s2 fun x3 G3 s3 _ _ => ?_
 rw [wrap_of (by omega) (by omega), wrap_of (by omega) (by omega)]
 refine (s3.new 0 _).storeK 0 rfl (by simp) (by simp [oneCell]) fun G4 s4 => ?_
 simp only [Nat.zero_add, sS, sZ, sN, List.set_cons_zero, List.set_cons_succ] at s4
 simp only [s4.load 0 rfl]
 simp only [Nat.zero_add, List.getElem?_cons_succ, List.getElem?_cons_zero, obI_some, obL_some]
 refine ifB_intro (fun h => ?_) (fun h => ?_)
 ·refine c11K hp (by omega) (by omega) s4 fun x4 G5 s5 _ _ => ?_
  rw [wrap_of (by omega) (by omega)]
  refine s5.storeK 0 rfl (by simp) (by simp [oneCell]) fun G6 s6 => ?_
  simp only [Nat.zero_add, sS, sZ, sN, List.set_cons_zero, List.set_cons_succ] at s6
  obtain ⟨w, hw⟩ : ∃ w, w = 1 + x4 := ⟨_, rfl⟩
  rw [← hw] at s6
  refine c11K hp (by omega) (by omega) s6 fun x5 G7 s7 _ _ => ?_
  refine c11K hp (by omega) (by omega) s7 fun x6 G8 s8 _ _ => ?_
  refine c11K hp (by omega) (by omega) s8 fun x7 G9 s9 _ _ => ?_
  refine c11K hp (by omega) (by omega) s9 fun x8 G10 s10 _ _ => ?_
  refine c11K hp (by omega) (by omega) s10 fun x9 G11 s11 _ _ => ?_
  rw [wrap_of (by omega) (by omega), wrap_of (by omega) (by omega), wrap_of (by omega) (by omega), wrap_of (by omega) (by omega)]
  refine s11.storeK 0 rfl (by simp) (by simp [oneCell]) fun G12 s12 => ?_
  simp only [Nat.zero_add, sS, sZ, sN, List.set_cons_zero, List.set_cons_succ] at s12
  simp only [s12.load 0 rfl]
  simp only [Nat.zero_add, List.getElem?_cons_succ, List.getElem?_cons_zero, obI_some, obL_some]
  refine s12.storeK 1 rfl (by simp) (by simp [oneCell]) fun G13 s13 => ?_
  simp only [Nat.zero_add, sS, sZ, sN, List.set_cons_zero, List.set_cons_succ] at s13
  simp only [s13.load 1 rfl]
  simp only [Nat.zero_add, List.getElem?_cons_succ, List.getElem?_cons_zero, obI_some, obL_some]
  exact hQ [m, x1, w, 5 + x2, 1 + x3, 5 + x5, 1 + x6, 2 + x7, 1 + x8, x9, 32] _ rfl (by simp only [List.mem_cons, List.not_mem_nil, or_false, forall_eq_or_imp, forall_eq]; unfold smallI at *; omega) ((s13.erase 0).erase 0)
 ·have s6 := s4
  obtain ⟨w, hw⟩ : ∃ w : Int, w = 0 := ⟨_, rfl⟩
  refine c11K hp (by omega) (by omega) s6 fun x5 G7 s7 _ _ => ?_
  refine c11K hp (by omega) (by omega) s7 fun x6 G8 s8 _ _ => ?_
  refine c11K hp (by omega) (by omega) s8 fun x7 G9 s9 _ _ => ?_
  refine c11K hp (by omega) (by omega) s9 fun x8 G10 s10 _ _ => ?_
  refine c11K hp (by omega) (by omega) s10 fun x9 G11 s11 _ _ => ?_
  rw [wrap_of (by omega) (by omega), wrap_of (by omega) (by omega), wrap_of (by omega) (by omega), wrap_of (by omega) (by omega)]
  refine s11.storeK 0 rfl (by simp) (by simp [oneCell]) fun G12 s12 => ?_
  simp only [Nat.zero_add, sS, sZ, sN, List.set_cons_zero, List.set_cons_succ] at s12
  simp only [s12.load 0 rfl]
  simp only [Nat.zero_add, List.getElem?_cons_succ, List.getElem?_cons_zero, obI_some, obL_some]
  refine s12.storeK 1 rfl (by simp) (by simp [oneCell]) fun G13 s13 => ?_
  simp only [Nat.zero_add, sS, sZ, sN, List.set_cons_zero, List.set_cons_succ] at s13
  simp only [s13.load 1 rfl]
  simp only [Nat.zero_add, List.getElem?_cons_succ, List.getElem?_cons_zero, obI_some, obL_some]
  exact hQ [m, x1, 0, 5 + x2, 1 + x3, 5 + x5, 1 + x6, 2 + x7, 1 + x8, x9, 32] _ rfl (by simp only [List.mem_cons, List.not_mem_nil, or_false, forall_eq_or_imp, forall_eq]; unfold smallI at *; omega) ((s13.erase 0).erase 0)
end
end AM
end Go.Proofs.YtemcmblcogljkaaGreatDoor

namespace Go.Proofs.YtemcmblcogljkaaGreatDoor
namespace AM
open Go
section
variable {pm : Prims} {H0 G : AH} {dh : Nat} {L : List It} {Q : Value → AH → Prop}
theorem recs_snoc (M : List (List Int)) (r : List Int) : (recs (M ++ [r])).flatten = (recs M).flatten ++ r.map I := by simp [recs]
structure FI (H0 : AH) (dh ch : Nat) (cv : List Value) (L : List It) (G : AH) (b : Option Addr) (n : Nat) (M : List (List Int)) : Prop where
 s : SD H0 dh G (.sl 5 b n n (recs M).flatten :: .row ch cv :: L)
 ok : ∀ r ∈ M, r.length = 5 ∧ ∀ x ∈ r, smallI 1000 x
 len : n = M.length
theorem FI.snoc {ch : Nat} {cv : List Value} {b b' : Option Addr} {n : Nat} {M : List (List Int)} (ok : ∀ r ∈ M, r.length = 5 ∧ ∀ x ∈ r, smallI 1000 x) (len : n = M.length) {r : List Int} (s : SD H0 dh G (.sl 5 b' (n + 1) (n + 1) ((recs M).flatten ++ r.map I) :: .row ch cv :: L)) (hr : r.length = 5) (h : ∀ x ∈ r, smallI 1000 x) : FI H0 dh ch cv L G b' (n + 1) (M ++ [r]) :=
 ⟨by rw [recs_snoc]; exact s, fun q hq => by
  rcases List.mem_append.1 hq with hq | hq
  ·exact ok q hq
  ·simp only [List.mem_singleton] at hq; subst hq; exact ⟨hr, h⟩, by simp [len]⟩
theorem FI.c1 {ch : Nat} {cv : List Value} {b : Option Addr} {n : Nat} {M : List (List Int)} (f : FI H0 dh ch cv L G b n M) (k : Nat) : G.load ch k = cv[k]? := f.s.load 1 rfl k
theorem l21_3 (hp : Only pm) {ch : Nat} {cv : List Value} {C id : Int} {t3 : Bool} (h1 : cv[1]? = some (I C)) (hC : 1 ≤ C ∧ C ≤ 3) (hid : 0 ≤ id ∧ id ≤ 3)
  (hQ : ∀ G b n M, FI H0 dh ch cv L G b n M → n ≤ 44 → Q (.slice b n n) G) :
  ∀ (d : Nat) (i : Int) G b n M, i + d = C → 0 ≤ i → FI H0 dh ch cv L G b n M → n ≤ 41 + i → f21L3 (OK pm) Q dh 0 id t3 ch b n n i G := by
 intro d
 induction d with
 | zero =>
  intro i G b n M hi h0 f hn
  apply f21L3_step
  simp only [f21B3, join2, Nat.zero_add, f.c1, h1, obI_some]
  rw [decide_eq_false (show ¬ i < C by omega), ifB_false, ifB_false]
  exact hQ G b n M f (by omega)
 | succ d ih =>
  intro i G b n M hi h0 f hn
  apply f21L3_step
  simp only [f21B3, join2, Nat.zero_add, f.c1, h1, obI_some]
  rw [decide_eq_true (show i < C by omega), ifB_true]
  refine ifB_intro (fun h => ?_) (fun h => ?_)
  ·refine c11K hp (by omega) (by omega) f.s fun x1 G1 s1 _ _ => ?_
   refine c11K hp (by omega) (by omega) s1 fun x2 G2 s2 _ _ => ?_
   rw [wrap_of (show -9223372036854775808 ≤ 20 + x1 by omega) (by omega), wrap_of (show -9223372036854775808 ≤ 2 * (20 + x1) by omega) (by omega), wrap_of (show -9223372036854775808 ≤ i + 1 by omega) (by omega)]
   refine s2.recK 0 rfl (by omega) rfl (by simp [oneCell]) (by omega) (by omega) fun b' G' s3 => ?_
   exact ih (i + 1) G' b' (n + 1) (M ++ [[id, i, 2 * (20 + x1), 30, x2]]) (by omega) (by omega) (FI.snoc (b := b) f.ok f.len s3 rfl (by simp only [List.mem_cons, List.not_mem_nil, or_false, forall_eq_or_imp, forall_eq]; unfold smallI at *; omega)) (by omega)
  ·exact hQ G b n M f (by omega)
theorem l21_2 (hp : Only pm) {ch : Nat} {cv : List Value} {C id good t13 : Int} {t3 t4 : Bool} {rec1 : St → Prop} (h1 : cv[1]? = some (I C)) (hC : 1 ≤ C ∧ C ≤ 3) (hid : 0 ≤ id ∧ id ≤ 3) (ht : 10 ≤ t13 ∧ t13 < 160) {N : Int} (hN : N ≤ 41)
  (fin : ∀ G b n M x, FI H0 dh ch cv L G b n M → n ≤ N → 0 ≤ x → x < 30 → rec1 (f21S1 dh 0 id t3 t4 ch b n n (t13 + 15 + x) G)) :
  ∀ (d : Nat) (i : Int) G b n M, i + d = C → 0 ≤ i → FI H0 dh ch cv L G b n M → n + d ≤ N → f21L2 (OK pm) Q rec1 dh 0 id t3 t4 ch b n n t13 good i G := by
 intro d
 induction d with
 | zero =>
  intro i G b n M hi h0 f hn
  apply f21L2_step
  simp only [f21B2, Nat.zero_add, f.c1, h1, obI_some]
  rw [decide_eq_false (show ¬ i < C by omega), ifB_false]
  refine c11K hp (by omega) (by omega) f.s fun x G1 s1 _ _ => ?_
  rw [wrap_of (show -9223372036854775808 ≤ t13 + 15 by omega) (by omega), wrap_of (show -9223372036854775808 ≤ t13 + 15 + x by omega) (by omega)]
  exact fin G1 b n M x ⟨s1, f.ok, f.len⟩ (by omega) (by omega) (by omega)
 | succ d ih =>
  intro i G b n M hi h0 f hn
  apply f21L2_step
  simp only [f21B2, Nat.zero_add, f.c1, h1]
  rw [obI_some, decide_eq_true (show i < C by omega), ifB_true]
  refine c11K hp (by omega) (by omega) f.s fun x1 G1 s1 _ _ => ?_
  rw [letH_eq]
  rw [wrap_of (show -9223372036854775808 ≤ 8 + x1 by omega) (by omega), wrap_of (show -9223372036854775808 ≤ 2 * t13 by omega) (by omega)]
  refine (s1.new 0 _).storeK 0 rfl (by simp) (by simp [oneCell]) fun G2 s2 => ?_
  simp only [Nat.zero_add, sS, sZ, sN, List.set_cons_zero, List.set_cons_succ] at s2
  have tail : ∀ (q g : Int) G3, smallI 1000 q → smallI 1000 g → SD H0 dh G3 (.row G1.next [I id, I i, I (2 * t13), I g, I q] :: .sl 5 b n n (recs M).flatten :: .row ch cv :: L) →
    letH (G3.new 5 [I id, I i, I (2 * t13), I g, I q]) fun H2 => obG (appendV 5 40 H2 (.slice b n n) (.slice (some ⟨G3.next, 0, none⟩) 1 1)) fun b' n' k' H3 => f21J1 (OK pm) Q rec1 (LoopP (f21W2 (OK pm) Q rec1)) dh 0 id t3 t4 ch b' n' k' t13 good i H3 := fun q g G3 hq hg s3 => by
   refine s3.recK 1 rfl (by omega) rfl (by simp [oneCell]) (by omega) (by omega) fun b' G' s4 => ?_
   rw [f21J1_eq]
   simp only [f21K1]
   rw [wrap_of (show -9223372036854775808 ≤ i + 1 by omega) (by omega)]
   exact ih (i + 1) G' b' (n + 1) (M ++ [[id, i, 2 * t13, g, q]]) (by omega) (by omega) (FI.snoc (b := b) f.ok f.len (s4.erase 0) rfl (by simp only [List.mem_cons, List.not_mem_nil, or_false, forall_eq_or_imp, forall_eq]; unfold smallI at *; omega)) (by omega)
  refine ifB_intro (fun h => ?_) (fun h => ?_)
  ·refine s2.storeK 0 rfl (by simp) (by simp [oneCell]) fun G3 s3 => ?_
   simp only [Nat.zero_add, sS, sZ, sN, List.set_cons_zero, List.set_cons_succ] at s3
   refine c11K hp (by omega) (by omega) s3 fun x2 G4 s4 _ _ => ?_
   refine ifB_intro (fun h => ?_) (fun h => ?_)
   ·refine s4.storeK 0 rfl (by simp) (by simp [oneCell]) fun G5 s5 => ?_
    simp only [Nat.zero_add, sS, sZ, sN, List.set_cons_zero, List.set_cons_succ] at s5
    simp only [s5.load 0 rfl]
    simp only [Nat.zero_add, List.getElem?_cons_succ, List.getElem?_cons_zero, obI_some, obL_some]
    exact tail _ _ _ (by unfold smallI; omega) (by unfold smallI; omega) s5
   ·simp only [s4.load 0 rfl]
    simp only [Nat.zero_add, List.getElem?_cons_succ, List.getElem?_cons_zero, obI_some, obL_some]
    exact tail _ _ _ (by unfold smallI; omega) (by unfold smallI; omega) s4
  ·refine c11K hp (by omega) (by omega) s2 fun x2 G4 s4 _ _ => ?_
   refine ifB_intro (fun h => ?_) (fun h => ?_)
   ·refine s4.storeK 0 rfl (by simp) (by simp [oneCell]) fun G5 s5 => ?_
    simp only [Nat.zero_add, sS, sZ, sN, List.set_cons_zero, List.set_cons_succ] at s5
    simp only [s5.load 0 rfl]
    simp only [Nat.zero_add, List.getElem?_cons_succ, List.getElem?_cons_zero, obI_some, obL_some]
    exact tail _ _ _ (by unfold smallI; omega) (by unfold smallI; omega) s5
   ·simp only [s4.load 0 rfl]
    simp only [Nat.zero_add, List.getElem?_cons_succ, List.getElem?_cons_zero, obI_some, obL_some]
    exact tail _ _ _ (by unfold smallI; omega) (by unfold smallI; omega) s4
theorem l21_1 (hp : Only pm) {ch : Nat} {cv : List Value} {C id : Int} {t3 t4 : Bool} (h1 : cv[1]? = some (I C)) (hC : 1 ≤ C ∧ C ≤ 3) (hid : 0 ≤ id ∧ id ≤ 3)
  (hQ : ∀ G b n M, FI H0 dh ch cv L G b n M → n ≤ 44 → Q (.slice b n n) G) :
  ∀ (d : Nat) (t : Int) G b n M, t + d ≥ 160 → 10 ≤ t → t ≤ 203 → FI H0 dh ch cv L G b n M → 5 * n ≤ t + 5 → f21L1 (OK pm) Q dh 0 id t3 t4 ch b n n t G := by
 have exit : ∀ (t : Int) G b n M, t ≤ 203 → FI H0 dh ch cv L G b n M → 5 * n ≤ t + 5 → f21L3 (OK pm) Q dh 0 id t3 ch b n n 0 G := fun t G b n M h0 f hn =>
  l21_3 hp h1 hC hid hQ C.toNat 0 G b n M (by omega) (by omega) f (by omega)
 intro d
 induction d with
 | zero =>
  intro t G b n M hd h0 h00 f hn
  apply f21L1_step
  simp only [f21B1, join2]
  rw [decide_eq_false (show ¬ t < 160 by omega)]
  cases t4
  ·rw [ifB_false, ifB_false]; exact exit t G b n M h00 f hn
  ·rw [ifB_true, ifB_false]; exact exit t G b n M h00 f hn
 | succ d ih =>
  intro t G b n M hd h0 h00 f hn
  apply f21L1_step
  simp only [f21B1, join2]
  cases t4
  ·rw [ifB_false, ifB_false]; exact exit t G b n M h00 f hn
  ·rw [ifB_true]
   refine ifB_intro (fun h => ?_) (fun h => ?_)
   ·have h : t < 160 := of_decide_eq_true h
    simp only [Nat.zero_add, f.c1, h1]
    rw [obI_some]
    refine c11K hp (by omega) (by omega) f.s fun x1 G1 s1 _ _ => ?_
    refine l21_2 hp h1 hC hid ⟨h0, h⟩ (N := n + C) (by omega) (fun G b n' M x f' hn' _ _ => ?_) C.toNat 0 G1 b n M (by omega) (by omega) ⟨s1, f.ok, f.len⟩ (by omega)
    exact ih (t + 15 + x) G b n' M (by omega) (by omega) (by omega) f' (by omega)
   ·exact exit t G b n M h00 f hn
theorem l21_0 (hp : Only pm) {ch : Nat} {cv : List Value} {C id : Int} {t3 t4 : Bool} {tb : Option Addr} {tn tk tk' : Nat} {M14 : List (List Value)} (h1 : cv[1]? = some (I C)) (h19 : cv[19]? = some (.slice tb tn tk)) (hC : 1 ≤ C ∧ C ≤ 3) (hid : 0 ≤ id ∧ id ≤ 3) (j : Nat) (hj : L[j]? = some (.sl 14 tb tn tk' M14.flatten)) (hM : ∀ r ∈ M14, r.length = 14 ∧ ∃ x, r[0]? = some (I x)) (hidl : id < tn)
  (hQ : ∀ G b n M, FI H0 dh ch cv L G b n M → n ≤ 44 → Q (.slice b n n) G) :
  ∀ (d : Nat) (i : Int) G b n M, i + d = C → 0 ≤ i → FI H0 dh ch cv L G b n M → (n : Int) = i → f21L0 (OK pm) Q dh 0 id t3 t4 ch b n n i G := by
 intro d
 induction d with
 | zero =>
  intro i G b n M hi h0 f hn
  apply f21L0_step
  simp only [f21B0, Nat.zero_add, f.c1, h1]
  rw [obI_some, decide_eq_false (show ¬ i < C by omega), ifB_false]
  refine c11K hp (by omega) (by omega) f.s fun x1 G1 s1 _ _ => ?_
  rw [wrap_of (show -9223372036854775808 ≤ 10 + x1 by omega) (by omega)]
  exact l21_1 hp h1 hC hid hQ 160 (10 + x1) G1 b n M (by omega) (by omega) (by omega) ⟨s1, f.ok, f.len⟩ (by omega)
 | succ d ih =>
  intro i G b n M hi h0 f hn
  apply f21L0_step
  simp only [f21B0, Nat.zero_add, f.c1, h1]
  rw [obI_some, decide_eq_true (show i < C by omega), ifB_true]
  refine f.s.recK 0 rfl (by omega) rfl (by simp [oneCell]) (by omega) (by omega) fun b' G' s1 => ?_
  have f1 : FI H0 dh ch cv L G' b' (n + 1) (M ++ [[id, i, 0, 40, 0]]) := FI.snoc (b := b) f.ok f.len s1 rfl (by simp only [List.mem_cons, List.not_mem_nil, or_false, forall_eq_or_imp, forall_eq]; unfold smallI at *; omega)
  have nx : ∀ G b n M, FI H0 dh ch cv L G b n M → (n : Int) = i + 1 → f21K0 (OK pm) Q (LoopP (f21W0 (OK pm) Q)) dh 0 id t3 t4 ch b n n i G := fun G b n M f hn => by
   simp only [f21K0]
   rw [wrap_of (show -9223372036854775808 ≤ i + 1 by omega) (by omega)]
   exact ih (i + 1) G b n M (by omega) (by omega) f hn
  simp only [join2]
  cases t4
  ·rw [ifB_false, ifB_false]
   rw [f21J0_eq]
   exact nx G' b' (n + 1) _ f1 (by omega)
  ·rw [ifB_true]
   simp only [f1.c1, h19]
   rw [obL_some]
   have hrd := f1.s.rd (j + 2) (by simpa using hj) (fun r hr => (hM r hr).1) (by omega)
   have htl : tn = M14.length := hrd.1
   obtain ⟨r, hr⟩ : ∃ r, M14[id.toNat]? = some r := ⟨_, List.getElem?_eq_getElem (by omega)⟩
   obtain ⟨x0, hx0⟩ := (hM r (List.mem_of_getElem? hr)).2
   obtain ⟨eh, ej, e1, e2⟩ := hrd.elem (k := tk) (kk := .i64) hr
   rw [Int.toNat_of_nonneg hid.1] at e1
   have e3 := e2 0 (by omega)
   rw [e1, obA_some, e3, hx0, obI_some]
   refine ifB_intro (fun h => ?_) (fun h => ?_)
   ·have e4 : IntKind.wrap .i64 (((n + 1 : Nat) : Int) - 1) = (n : Int) := by rw [wrap_of (by omega) (by omega)]; omega
    rw [e4]
    obtain ⟨ah, ai, hb⟩ : ∃ ah ai, b' = some ⟨ah, ai, none⟩ := by
     have h := (f1.s.rd (M := recs (M ++ [[id, i, 0, 40, 0]])) 0 rfl (fun r hr => by obtain ⟨q, hq, rfl⟩ := List.mem_map.1 hr; rw [List.length_map]; exact (f1.ok q hq).1) (by omega)).2 n _ (recs_get (r := [id, i, 0, 40, 0]) (by rw [f.len]; simp))
     obtain ⟨h, j, e, _⟩ := h
     exact ⟨h, j, e⟩
    subst hb
    rw [elemS_eq (by omega) (by omega), obA_some, Int.toNat_natCast]
    have hlen : (recs M).flatten.length = n * 5 := by
     rw [flat_len (sz := 5) fun r hr => by obtain ⟨q, hq, rfl⟩ := List.mem_map.1 hr; rw [List.length_map]; exact (f.ok q hq).1]
     simp [recs, f.len]
    obtain ⟨G2, a1, a2⟩ := s1.sstore 0 rfl (j := n * 5 + 4) (v := I 30) (by rw [List.length_append, hlen]; simp) rfl
    rw [show ai + n * 5 + 4 = ai + (n * 5 + 4) by omega, a1, obH_some]
    rw [f21J0_eq]
    refine nx G2 _ (n + 1) (M ++ [[id, i, 0, 40, 30]]) ?_ (by omega)
    refine FI.snoc (b := b) (b' := some ⟨ah, ai, none⟩) f.ok f.len (r := [id, i, 0, 40, 30]) ?_ rfl (by simp only [List.mem_cons, List.not_mem_nil, or_false, forall_eq_or_imp, forall_eq]; unfold smallI at *; omega)
    rw [List.set_cons_zero, List.set_append_right _ _ (by omega), hlen, Nat.add_sub_cancel_left] at a2
    exact a2
   ·rw [f21J0_eq]
    exact nx G' b' (n + 1) _ f1 (by omega)
end
end AM
end Go.Proofs.YtemcmblcogljkaaGreatDoor

