/- What is made of numbers: networks. -/
import Derived.Test.YtemcmblcogljkaaGreatDoorCl
set_option linter.all false
set_option linter.unusedSimpArgs false
set_option linter.unusedVariables false
namespace Go.Proofs.YtemcmblcogljkaaGreatDoor
namespace AM
open Go
section
variable {pm : Prims} {H0 G : AH} {dh : Nat} {L : List It} {Q : Value → AH → Prop}
theorem c21 (hp : Only pm) {c : Cfg} {fb tb : Option Addr} {fn fk tn tk tk' : Nat} {id : Int} {t3 t4 : Bool} {M14 : List (List Value)} (hC : 1 ≤ c.cells ∧ c.cells ≤ 3) (hid : 0 ≤ id ∧ id ≤ 3) (j : Nat) (s : SD H0 dh G L) (hj : L[j]? = some (.sl 14 tb tn tk' M14.flatten)) (hM : ∀ r ∈ M14, r.length = 14 ∧ ∃ x, r[0]? = some (I x)) (hidl : id < tn)
  (hQ : ∀ G b n M, SD H0 dh G (.sl 5 b n n (recs M).flatten :: L) → (∀ r ∈ M, r.length = 5 ∧ ∀ x ∈ r, smallI 1000 x) → n = M.length → n ≤ 44 → Q (.slice b n n) G) : OK pm 21 ⟨[.pointer (some ⟨dh, 0, none⟩), .agg ⟨c.vals fb fn fk tb tn tk⟩, I id, .bool t3, .bool t4]⟩ G Q := by
 unfold Cfg.vals
 apply f21_ok hp
 simp only [f21R, letH_eq]
 refine l21_0 (H0 := H0) (L := L) hp (C := c.cells) (cv := c.vals fb fn fk tb tn tk) rfl rfl hC hid j hj hM hidl (fun G b n M f hn => ?_) c.cells.toNat 0 _ none 0 [] (by omega) (by omega) ⟨?_, fun r h => (by cases h), rfl⟩ rfl
 ·exact hQ G b n M (f.s.erase 1) f.ok f.len hn
 ·exact (s.new 0 (c.vals fb fn fk tb tn tk)).nil 5
structure TOk (t : Trm) : Prop where
 sh : t.shaped
 nm : ∀ n ∈ t.nums, smallI 10000 n
 be : ∀ r ∈ t.bears, ∀ n ∈ r, smallI 10000 n
 bu : ∀ r ∈ t.bucks, ∀ n ∈ r, smallI 10000 n
 eq : t.bucks.length = t.bears.length
 n1 : 1 ≤ t.bears.length ∧ t.bears.length ≤ 2
def arch : List (Trm × TG) → List It
 | [] => []
 | p :: ps => .sl 11 p.2.bb p.2.bn p.2.bk (recs p.1.bears).flatten :: .sl 4 p.2.kb p.2.kn p.2.kk (recs p.1.bucks).flatten :: arch ps
theorem arch_append : ∀ ps qs : List (Trm × TG), arch (ps ++ qs) = arch ps ++ arch qs
 | [], _ => rfl
 | p :: ps, qs => by simp only [List.cons_append, arch, arch_append ps qs]
theorem tcells_snoc (ps : List (Trm × TG)) (p : Trm × TG) : (tcells (ps ++ [p])).flatten = (tcells ps).flatten ++ p.1.cells p.2.bb p.2.bn p.2.bk p.2.kb p.2.kn p.2.kk := by simp [tcells]
structure BI (H0 : AH) (dh th : Nat) (T : Trm) (Lr : List It) (G : AH) (bb : Option Addr) (bn : Nat) (kb : Option Addr) (kn : Nat) (B K : List (List Int)) : Prop where
 s : SD H0 dh G (.row th (T.cells bb bn bn kb kn kn) :: .sl 11 bb bn bn (recs B).flatten :: .sl 4 kb kn kn (recs K).flatten :: Lr)
 ok : ∀ r ∈ B, r.length = 11 ∧ ∀ x ∈ r, smallI 10000 x
 ok4 : ∀ r ∈ K, r.length = 4 ∧ ∀ x ∈ r, smallI 10000 x
 lb : bn = B.length
 lk : kn = K.length
 eq : kn = bn
theorem rows_snoc {k : Nat} {M : List (List Int)} {B : Int} (h : ∀ r ∈ M, r.length = k ∧ ∀ x ∈ r, smallI B x) {r : List Int} (hr : r.length = k) (hx : ∀ x ∈ r, smallI B x) : ∀ r' ∈ M ++ [r], r'.length = k ∧ ∀ x ∈ r', smallI B x := fun q hq => by
 rcases List.mem_append.1 hq with hq | hq
 ·exact h q hq
 ·simp only [List.mem_singleton] at hq; subst hq; exact ⟨hr, hx⟩
theorem l10_1 (hp : Only pm) {th t6h t7h : Nat} {T : Trm} {Lr : List It} {t1 t2 : Bool} {t8 t9 : Int} {rec0 : St → Prop}
  (fin : ∀ G bb bn kb kn B K, BI H0 dh th T Lr G bb bn kb kn B K → 1 ≤ bn → bn ≤ 2 → f10B1 (OK pm) Q rec0 (LoopP (f10W1 (OK pm) Q rec0)) dh 0 t1 t2 t6h t7h t8 t9 th 0 G) :
  ∀ (d : Nat) G bb bn kb kn B K, BI H0 dh th T Lr G bb bn kb kn B K → bn + d ≤ 2 → 1 ≤ bn + d → f10L1 (OK pm) Q rec0 dh 0 t1 t2 t6h t7h t8 t9 th (d : Int) G := by
 intro d
 induction d with
 | zero =>
  intro G bb bn kb kn B K f h1 h2
  apply f10L1_step
  exact fin G bb bn kb kn B K f h2 h1
 | succ d ih =>
  intro G bb bn kb kn B K f h1 h2
  apply f10L1_step
  simp only [f10B1]
  rw [decide_eq_true (show ((d + 1 : Nat) : Int) > 0 by omega), ifB_true]
  have sb : ∀ a, bb = some a → a.spot = none := (f.s.item (x := .sl 11 bb bn bn (recs B).flatten) (by simp)).2.2
  have sk : ∀ a, kb = some a → a.spot = none := (f.s.item (x := .sl 4 kb kn kn (recs K).flatten) (by simp)).2.2
  refine c11K hp (by omega) (by omega) f.s fun x0 G1 s1 _ _ => ?_
  have heq := f.eq
  refine ifB_intro (fun h => ?_) (fun h => ?_)
  all_goals
   simp only [Nat.zero_add, s1.load 0 rfl, Trm.cells, List.getElem?_cons_succ, List.getElem?_cons_zero, obL_some]
   refine c20 hp (by unfold smallI; omega) s1 fun xs G2 hxl hxs s2 => ?_
   obtain ⟨a0, a1, a2, a3, a4, a5, a6, a7, a8, a9, a10, rfl⟩ := eleven hxl
   simp only [List.map_cons, List.map_nil]
   rw [obN_eq 11 [I a0, I a1, I a2, I a3, I a4, I a5, I a6, I a7, I a8, I a9, I a10] _ rfl]
   simp only [cellAt_eq, List.getElem?_cons_succ, List.getElem?_cons_zero, obI_some]
   rw [letH_eq]
   have s3 := s2.new 11 [I a0, I a1, I a2, I a3, I a4, I a5, I a6, I a7, I a8, I a9, I a10]
   refine s3.pushK 2 rfl (by omega) 0 rfl rfl (by simp [oneCell]) (by omega) (by omega) fun b' G3 s4 => ?_
   refine s4.storeK 1 rfl (by simp [Trm.cells]) (by simp [oneCell]) fun G4 s5 => ?_
   simp only [Trm.cells] at s5
   simp only [Nat.zero_add, sS, sZ, sN, List.set_cons_zero, List.set_cons_succ] at s5
   simp only [s3.load 1 rfl, s5.load 1 rfl, Trm.cells, List.getElem?_cons_succ, List.getElem?_cons_zero, obL_some]
   rw [obE1_slice sb, obE1_slice sb]
   refine c11K hp (by omega) (by omega) s5 fun x1 G5 s6 _ _ => ?_
   refine c11K hp (by omega) (by omega) s6 fun x2 G6 s7 _ _ => ?_
   rw [letH_eq]
   have s8 := s7.new 4 [I x1, I x2, I 80, I 0]
   refine s8.pushK 4 rfl (by omega) 0 rfl rfl (by simp [oneCell]) (by omega) (by omega) fun b2 G7 s9 => ?_
   refine s9.storeK 2 rfl (by simp) (by simp [oneCell]) fun G8 s10 => ?_
   simp only [Nat.zero_add, sS, sZ, sN, List.set_cons_zero, List.set_cons_succ] at s10
   simp only [s8.load 2 rfl, s6.load 1 rfl, Trm.cells, List.getElem?_cons_succ, List.getElem?_cons_zero]
   rw [obE1_slice sk, obE1_slice sk, obE1_slice sk]
   rw [f10J0_eq]
   simp only [f10K0]
   rw [wrap_of (by omega) (by omega), show ((d + 1 : Nat) : Int) - 1 = (d : Int) by omega]
   refine ih G8 b' (bn + 1) b2 (kn + 1) (B ++ [[a0, a1, a2, a3, a4, a5, a6, a7, a8, a9, a10]]) (K ++ [[x1, x2, 80, 0]]) ⟨?_, rows_snoc f.ok rfl fun x hx => ?_, rows_snoc f.ok4 rfl (by simp only [List.mem_cons, List.not_mem_nil, or_false, forall_eq_or_imp, forall_eq]; unfold smallI at *; omega), by simp [f.lb], by simp [f.lk], by omega⟩ (by omega) (by omega)
   ·rw [recs_snoc, recs_snoc]
    exact (s10.erase 0).erase 0
   ·have := hxs x hx
    unfold smallI at *; omega
structure CI (H0 : AH) (dh ch rh : Nat) (c0 : Cfg) (zs : List Value) (L0 : List It) (G : AH) (fb : Option Addr) (fn : Nat) (tb : Option Addr) (tn : Nat) (M : List (List Int)) (ps : List (Trm × TG)) : Prop where
 s : SD H0 dh G (.row ch (c0.vals fb fn fn tb tn tn) :: .sl 5 fb fn fn (recs M).flatten :: .sl 14 tb tn tn (tcells ps).flatten :: .row rh zs :: (arch ps ++ L0))
 ok : ∀ r ∈ M, r.length = 5 ∧ ∀ x ∈ r, smallI 1000 x
 fl : fn = M.length
 fm : fn ≤ 44 * ps.length
 tok : ∀ p ∈ ps, TOk p.1
 tl : tn = ps.length
theorem perm6 (a b c d e f : It) (A L : List It) : (a :: b :: c :: d :: e :: f :: (A ++ L)).Perm (c :: d :: e :: f :: (A ++ (a :: b :: L))) := by
 have := (List.perm_append_comm (l₁ := [a, b]) (l₂ := c :: d :: e :: f :: A)).append_right L
 simpa using this
theorem tcells_len (ps : List (Trm × TG)) : ∀ r ∈ tcells ps, r.length = 14 ∧ ∃ x, r[0]? = some (I x) := fun r hr => by
 obtain ⟨p, _, rfl⟩ := List.mem_map.1 hr
 exact ⟨rfl, _, rfl⟩
theorem l10_x (hp : Only pm) {ch th rh : Nat} {c0 : Cfg} {T : Trm} {zs : List Value} {L0 : List It} {t1 t2 : Bool} {t8 : Int} {rec0 rec1 : St → Prop} {fb tb : Option Addr} {fn tn : Nat} {M : List (List Int)} {ps : List (Trm × TG)} (hC : 1 ≤ c0.cells ∧ c0.cells ≤ 3) (hps : ps.length ≤ 2) (hT : ∀ n ∈ T.nums, smallI 10000 n)
  (hok : ∀ r ∈ M, r.length = 5 ∧ ∀ x ∈ r, smallI 1000 x) (hfl : fn = M.length) (hfm : fn ≤ 44 * ps.length) (htok : ∀ p ∈ ps, TOk p.1) (htl : tn = ps.length)
  (nx : ∀ G fb fn tb tn M ps', ps'.length = ps.length + 1 → CI H0 dh ch rh c0 zs L0 G fb fn tb tn M ps' → rec0 (f10S0 dh 0 t1 t2 rh ch t8 ((ps.length : Int) + 1) G)) :
  ∀ G bb bn kb kn B K, BI H0 dh th T (.row ch (c0.vals fb fn fn tb tn tn) :: .sl 5 fb fn fn (recs M).flatten :: .sl 14 tb tn tn (tcells ps).flatten :: .row rh zs :: (arch ps ++ L0)) G bb bn kb kn B K → 1 ≤ bn → bn ≤ 2 → f10B1 (OK pm) Q rec0 rec1 dh 0 t1 t2 rh ch t8 (ps.length : Int) th 0 G := by
 intro G bb bn kb kn B K f h1 h2
 have hfb : ∀ a, fb = some a → a.spot = none := (f.s.item (x := .sl 5 fb fn fn (recs M).flatten) (by simp)).2.2
 simp only [f10B1]
 rw [decide_eq_false (by omega), ifB_false]
 simp only [Nat.zero_add, f.s.load 0 rfl, f.s.load 3 rfl, Trm.cells, Cfg.vals, List.getElem?_cons_succ, List.getElem?_cons_zero, obI_some, obL_some]
 refine f.s.recK 5 rfl (by omega) rfl (by simp [oneCell]) (by omega) (by omega) fun b' G1 s1 => ?_
 refine s1.storeK 3 rfl (by simp [Cfg.vals]) (by simp [oneCell]) fun G2 s2 => ?_
 simp only [Cfg.vals] at s2
 simp only [Nat.zero_add, sS, sZ, sN, List.set_cons_zero, List.set_cons_succ] at s2
 simp only [s2.load 3 rfl, List.getElem?_cons_succ, List.getElem?_cons_zero, obI_some, obL_some]
 have heq := f.eq
 have hlb := f.lb
 have hlk := f.lk
 refine c21 hp (c := c0) (M14 := tcells (ps ++ [(({ T with bears := B, bucks := K } : Trm), (⟨bb, bn, bn, kb, kn, kn⟩ : TG))])) hC (by omega) 5 s2 (by rw [tcells_snoc]; rfl) (tcells_len _) (by omega) fun G3 b3 n3 M3 s3 hM3 hn3 h44 => ?_
 rw [obL_some]
 refine s3.catK 5 rfl (by omega) 0 rfl (fun v hv => by
  obtain ⟨q, hq, hv⟩ := List.mem_flatten.1 hv
  obtain ⟨r, _, rfl⟩ := List.mem_map.1 hq
  obtain ⟨x, _, rfl⟩ := List.mem_map.1 hv
  rfl) (by omega) (by omega) fun b4 G4 s4 => ?_
 refine s4.storeK 4 rfl (by simp) (by simp [oneCell]) fun G5 s5 => ?_
 simp only [Nat.zero_add, sS, sZ, sN, List.set_cons_zero, List.set_cons_succ] at s5
 simp only [s3.load 4 rfl, List.getElem?_cons_succ, List.getElem?_cons_zero]
 rw [obE1_slice hfb, wrap_of (by omega) (by omega)]
 refine nx G5 b4 (fn + n3) b' (tn + 1) (M ++ M3) (ps ++ [(({ T with bears := B, bucks := K } : Trm), (⟨bb, bn, bn, kb, kn, kn⟩ : TG))]) (by simp) ⟨?_, fun r hr => ?_, by simp [hfl, hn3], by rw [List.length_append, List.length_singleton]; omega, fun p hp => ?_, by simp [htl]⟩
 ·have s6 := (s5.erase 0).erase 0
  rw [tcells_snoc, arch_append]
  have e : (recs (M ++ M3)).flatten = (recs M).flatten ++ (recs M3).flatten := by simp [recs]
  rw [e]
  refine s6.perm ?_
  simp only [List.eraseIdx_cons_zero, arch, List.append_assoc, List.cons_append, List.nil_append]
  exact perm6 _ _ _ _ _ _ _ _
 ·rcases List.mem_append.1 hr with hr | hr
  ·exact hok r hr
  ·exact hM3 r hr
 ·rcases List.mem_append.1 hp with hp | hp
  ·exact htok p hp
  ·simp only [List.mem_singleton] at hp
   subst hp
   exact ⟨⟨fun r hr => (f.ok r hr).1, fun r hr => (f.ok4 r hr).1⟩, hT, fun r hr => (f.ok r hr).2, fun r hr => (f.ok4 r hr).2, by show K.length = B.length; omega, by show 1 ≤ B.length ∧ B.length ≤ 2; omega⟩
structure COk (c : Cfg) : Prop where
 cells : 1 ≤ c.cells ∧ c.cells ≤ 3
 oo : c.oo = 0
 nm : ∀ n ∈ [c.seed, c.cells, c.res, c.delay, c.betw, c.tries, c.pre, c.att, c.back, c.pa, c.pb, c.pc, c.ra, c.rb, c.rc, c.ou, c.od], smallI 10000 n
 fd : ∀ r ∈ c.fades, r.length = 5 ∧ ∀ x ∈ r, smallI 1000 x
 fl : c.fades.length ≤ 132
 tm : ∀ t ∈ c.terms, TOk t
 tl : 1 ≤ c.terms.length ∧ c.terms.length ≤ 3
theorem l10_0 (hp : Only pm) {ch rh : Nat} {c0 : Cfg} {zs : List Value} {L0 : List It} {t1 t2 : Bool} {N : Nat} (hz : zs.length = 20) (hN : 1 ≤ N ∧ N ≤ 3) (hC : 1 ≤ c0.cells ∧ c0.cells ≤ 3) (hoo : c0.oo = 0) (hnm : ∀ n ∈ [c0.seed, c0.cells, c0.res, c0.delay, c0.betw, c0.tries, c0.pre, c0.att, c0.back, c0.pa, c0.pb, c0.pc, c0.ra, c0.rb, c0.rc, c0.ou, c0.od], smallI 10000 n)
  (hQ : ∀ c G fb fn tb tn ps, COk c → c.terms = ps.map (·.1) → tn = ps.length → fn = c.fades.length → SD H0 dh G (.sl 5 fb fn fn (recs c.fades).flatten :: .sl 14 tb tn tn (tcells ps).flatten :: (arch ps ++ L0)) → Q (.agg ⟨c.vals fb fn fn tb tn tn⟩) G) :
  ∀ (d : Nat) G fb fn tb tn M ps, ps.length + d = N → CI H0 dh ch rh c0 zs L0 G fb fn tb tn M ps → f10L0 (OK pm) Q dh 0 t1 t2 rh ch (N : Int) (ps.length : Int) G := by
 intro d
 induction d with
 | zero =>
  intro G fb fn tb tn M ps hd f
  apply f10L0_step
  simp only [f10B0]
  rw [decide_eq_false (by omega), ifB_false]
  simp only [Nat.zero_add, f.s.load 0 rfl, Cfg.vals, List.getElem?_cons_succ, List.getElem?_cons_zero, obI_some, obL_some]
  refine f.s.storeK 3 rfl (by simp [hz]) (by simp [oneCell]) fun G1 s1 => ?_
  have e : spl zs 0 [I c0.seed, I c0.cells, I c0.res, I c0.delay, I c0.betw, I c0.tries, I c0.pre, I c0.att, I c0.back, I c0.pa, I c0.pb, I c0.pc, I c0.ra, I c0.rb, I c0.rc, I c0.oo, I c0.ou, I c0.od, .slice fb fn fn, .slice tb tn tn] = [I c0.seed, I c0.cells, I c0.res, I c0.delay, I c0.betw, I c0.tries, I c0.pre, I c0.att, I c0.back, I c0.pa, I c0.pb, I c0.pc, I c0.ra, I c0.rb, I c0.rc, I c0.oo, I c0.ou, I c0.od, .slice fb fn fn, .slice tb tn tn] := by
   simp only [spl, List.take_zero, List.nil_append, List.length_cons, List.length_nil]
   rw [List.drop_eq_nil_of_le (by omega), List.append_nil]
  rw [e] at s1
  simp only [List.set_cons_succ, List.set_cons_zero] at s1
  simp only [s1.load 3 rfl, List.getElem?_cons_succ, List.getElem?_cons_zero, obI_some, obL_some]
  refine hQ { c0 with fades := M, terms := ps.map (·.1) } G1 fb fn tb tn ps ⟨hC, hoo, hnm, f.ok, by have := f.fl; have := f.fm; show M.length ≤ 132; omega, fun t ht => ?_, by simp; omega⟩ rfl f.tl f.fl ((s1.erase 0).erase 2)
  obtain ⟨p, hp, rfl⟩ := List.mem_map.1 ht
  exact f.tok p hp
 | succ d ih =>
  intro G fb fn tb tn M ps hd f
  apply f10L0_step
  simp only [f10B0]
  rw [decide_eq_true (by omega), ifB_true]
  have s0 := (f.s.nil 4).nil 11
  simp only [Nat.zero_add, f.s.load 0 rfl, Cfg.vals, List.getElem?_cons_succ, List.getElem?_cons_zero]
  rw [obI_some]
  refine c11K hp (by omega) (by omega) s0 fun x1 G1 s1 _ _ => ?_
  refine c11K hp (by omega) (by omega) s1 fun x2 G2 s2 _ _ => ?_
  refine c11K hp (by omega) (by omega) s2 fun x3 G3 s3 _ _ => ?_
  rw [letH_eq, wrap_of (show -9223372036854775808 ≤ 500 + x3 by omega) (by omega)]
  refine (s3.new 0 _).storeK 0 rfl (by simp) (by simp [oneCell]) fun G4 s4 => ?_
  simp only [Nat.zero_add, sS, sZ, sN, List.set_cons_zero, List.set_cons_succ] at s4
  have fin : ∀ (T : Trm), (∀ n ∈ T.nums, smallI 10000 n) → ∀ G' y, 0 ≤ y → y < 2 → SD H0 dh G' (.row G3.next (T.cells none 0 0 none 0 0) :: .sl 11 none 0 0 [] :: .sl 4 none 0 0 [] :: .row ch (c0.vals fb fn fn tb tn tn) :: .sl 5 fb fn fn (recs M).flatten :: .sl 14 tb tn tn (tcells ps).flatten :: .row rh zs :: (arch ps ++ L0)) →
    f10L1 (OK pm) Q (LoopP (f10W0 (OK pm) Q)) dh 0 t1 t2 rh ch (N : Int) (ps.length : Int) G3.next (IntKind.wrap .i64 (1 + y)) G' := fun T hT G' y hy0 hy1 s' => by
   rw [wrap_of (by omega) (by omega)]
   have := l10_1 (H0 := H0) (Q := Q) (t1 := t1) (t2 := t2) (t6h := rh) (t7h := ch) (t8 := (N : Int)) (t9 := (ps.length : Int)) (rec0 := LoopP (f10W0 (OK pm) Q)) hp (th := G3.next) (T := T) (l10_x hp hC (by omega) hT f.ok f.fl f.fm f.tok f.tl fun G fb fn tb tn M ps' hps' f' => by
    have := ih G fb fn tb tn M ps' (by omega) f'
    rw [hps'] at this
    exact this) (1 + y).toNat G' none 0 none 0 [] [] ⟨s', fun r h => (by cases h), fun r h => (by cases h), rfl, rfl, rfl⟩ (by omega) (by omega)
   rw [Int.toNat_of_nonneg (by omega)] at this
   exact this
  refine c11K hp (by omega) (by omega) s4 fun x4 G5 s5 _ _ => ?_
  refine ifB_intro (fun h => ?_) (fun h => ?_)
  ·refine c11K hp (by omega) (by omega) s5 fun x5 G6 s6 _ _ => ?_
   refine c11K hp (by omega) (by omega) s6 fun x6 G7 s7 _ _ => ?_
   refine c11K hp (by omega) (by omega) s7 fun x7 G8 s8 _ _ => ?_
   rw [wrap_of (show -9223372036854775808 ≤ 4 + x5 by omega) (by omega), wrap_of (show -9223372036854775808 ≤ 1 + x6 by omega) (by omega)]
   refine s8.storeK 0 rfl (by simp) (by simp [oneCell]) fun G9 s9 => ?_
   simp only [Nat.zero_add, sS, sZ, sN, List.set_cons_zero, List.set_cons_succ] at s9
   refine c11K hp (by omega) (by omega) s9 fun x8 G10 s10 _ _ => ?_
   refine c11K hp (by omega) (by omega) s10 fun x9 G11 s11 _ _ => ?_
   rw [wrap_of (show -9223372036854775808 ≤ 1 + x8 by omega) (by omega)]
   refine s11.storeK 0 rfl (by simp) (by simp [oneCell]) fun G12 s12 => ?_
   simp only [Nat.zero_add, sS, sZ, sN, List.set_cons_zero, List.set_cons_succ] at s12
   refine c11K hp (by omega) (by omega) s12 fun y G13 s13 _ _ => ?_
   exact fin ⟨x1, x2, 0, 1 + x8, x9, 4 + x5, 0, 1 + x6, x7, 0, 0, 500 + x3, [], []⟩ (by simp only [Trm.nums]; simp only [List.mem_cons, List.not_mem_nil, or_false, forall_eq_or_imp, forall_eq]; unfold smallI at *; omega) G13 y (by omega) (by omega) s13
  ·refine c11K hp (by omega) (by omega) s5 fun x8 G10 s10 _ _ => ?_
   refine c11K hp (by omega) (by omega) s10 fun x9 G11 s11 _ _ => ?_
   rw [wrap_of (show -9223372036854775808 ≤ 1 + x8 by omega) (by omega)]
   refine s11.storeK 0 rfl (by simp) (by simp [oneCell]) fun G12 s12 => ?_
   simp only [Nat.zero_add, sS, sZ, sN, List.set_cons_zero, List.set_cons_succ] at s12
   refine c11K hp (by omega) (by omega) s12 fun y G13 s13 _ _ => ?_
   exact fin ⟨x1, x2, 0, 1 + x8, x9, 1, 0, 1, 0, 0, 0, 500 + x3, [], []⟩ (by simp only [Trm.nums]; simp only [List.mem_cons, List.not_mem_nil, or_false, forall_eq_or_imp, forall_eq]; unfold smallI at *; omega) G13 y (by omega) (by omega) s13
theorem c10 (hp : Only pm) {t1 t2 : Bool} (s : SD H0 dh G L)
  (hQ : ∀ c G fb fn tb tn ps, COk c → c.terms = ps.map (·.1) → tn = ps.length → fn = c.fades.length → SD H0 dh G (.sl 5 fb fn fn (recs c.fades).flatten :: .sl 14 tb tn tn (tcells ps).flatten :: (arch ps ++ L)) → Q (.agg ⟨c.vals fb fn fn tb tn tn⟩) G) : OK pm 10 ⟨[.pointer (some ⟨dh, 0, none⟩), .bool t1, .bool t2]⟩ G Q := by
 apply f10_ok hp
 simp only [f10R, letH_eq]
 refine c11K hp (by omega) (by omega) (((s.nil 14).nil 5).new 0 _) fun x1 G1 s1 _ _ => ?_
 refine c11K hp (by omega) (by omega) s1 fun x2 G2 s2 _ _ => ?_
 refine c11K hp (by omega) (by omega) s2 fun x3 G3 s3 _ _ => ?_
 refine c11K hp (by omega) (by omega) s3 fun x4 G4 s4 _ _ => ?_
 refine c11K hp (by omega) (by omega) s4 fun x5 G5 s5 _ _ => ?_
 refine c11K hp (by omega) (by omega) s5 fun x6 G6 s6 _ _ => ?_
 rw [wrap_of (show -9223372036854775808 ≤ 1 + x2 by omega) (by omega), wrap_of (show -9223372036854775808 ≤ 6 + x3 by omega) (by omega), wrap_of (show -9223372036854775808 ≤ 1 + x4 by omega) (by omega), wrap_of (show -9223372036854775808 ≤ 1 + x5 by omega) (by omega), wrap_of (show -9223372036854775808 ≤ 1 + x6 by omega) (by omega)]
 refine (s6.new 0 _).storeK 0 rfl (by simp) (by simp [oneCell]) fun G7 s7 => ?_
 simp only [Nat.zero_add, sS, sZ, sN, List.set_cons_zero, List.set_cons_succ] at s7
 refine c11K hp (by omega) (by omega) s7 fun x7 G8 s8 _ _ => ?_
 refine c11K hp (by omega) (by omega) s8 fun x8 G9 s9 _ _ => ?_
 refine c11K hp (by omega) (by omega) s9 fun x9 G10 s10 _ _ => ?_
 rw [wrap_of (show -9223372036854775808 ≤ 1 + x7 by omega) (by omega), wrap_of (show -9223372036854775808 ≤ 1 + x8 by omega) (by omega)]
 refine s10.storeK 0 rfl (by simp) (by simp [oneCell]) fun G11 s11 => ?_
 simp only [Nat.zero_add, sS, sZ, sN, List.set_cons_zero, List.set_cons_succ] at s11
 refine s11.storeK 0 rfl (by simp) (by simp [oneCell]) fun G12 s12 => ?_
 simp only [Nat.zero_add, sS, sZ, sN, List.set_cons_zero, List.set_cons_succ] at s12
 refine s12.storeK 0 rfl (by simp) (by simp [oneCell]) fun G13 s13 => ?_
 simp only [Nat.zero_add, sS, sZ, sN, List.set_cons_zero, List.set_cons_succ] at s13
 refine c11K hp (by omega) (by omega) s13 fun x10 G14 s14 _ _ => ?_
 refine c11K hp (by omega) (by omega) s14 fun x11 G15 s15 _ _ => ?_
 refine c11K hp (by omega) (by omega) s15 fun x12 G16 s16 _ _ => ?_
 rw [wrap_of (show -9223372036854775808 ≤ 4 + x10 by omega) (by omega), wrap_of (show -9223372036854775808 ≤ 2 + x11 by omega) (by omega), wrap_of (show -9223372036854775808 ≤ 2 + x12 by omega) (by omega)]
 refine s16.storeK 0 rfl (by simp) (by simp [oneCell]) fun G17 s17 => ?_
 simp only [Nat.zero_add, sS, sZ, sN, List.set_cons_zero, List.set_cons_succ] at s17
 refine c11K hp (by omega) (by omega) s17 fun x13 G18 s18 _ _ => ?_
 refine c11K hp (by omega) (by omega) s18 fun x14 G19 s19 _ _ => ?_
 refine c11K hp (by omega) (by omega) s19 fun x15 G20 s20 _ _ => ?_
 rw [wrap_of (show -9223372036854775808 ≤ 1 + x15 by omega) (by omega)]
 refine s20.storeK 0 rfl (by simp) (by simp [oneCell]) fun G21 s21 => ?_
 simp only [Nat.zero_add, sS, sZ, sN, List.set_cons_zero, List.set_cons_succ] at s21
 refine c11K hp (by omega) (by omega) s21 fun x16 G22 s22 _ _ => ?_
 refine c11K hp (by omega) (by omega) s22 fun x17 G23 s23 _ _ => ?_
 rw [wrap_of (show -9223372036854775808 ≤ 1 + x16 by omega) (by omega), wrap_of (show -9223372036854775808 ≤ 4 + x17 by omega) (by omega)]
 refine s23.storeK 0 rfl (by simp) (by simp [oneCell]) fun G24 s24 => ?_
 simp only [Nat.zero_add, sS, sZ, sN, List.set_cons_zero, List.set_cons_succ] at s24
 refine c11K hp (by omega) (by omega) s24 fun x18 G25 s25 _ _ => ?_
 rw [wrap_of (show -9223372036854775808 ≤ 1 + x18 by omega) (by omega)]
 have := l10_0 (H0 := H0) (dh := dh) (t1 := t1) (t2 := t2) (L0 := L) (Q := Q) hp (ch := G6.next) (rh := G.next) (c0 := ⟨x1, 1 + x2, 6 + x3, 1 + x4, 1 + x5, 1 + x6, 1 + x7, 1 + x8, x9, 4 + x10, 2 + x11, 2 + x12, x13, x14, 1 + x15, 0, 1 + x16, 4 + x17, [], []⟩) (N := (1 + x18).toNat) (zs := [I 0, I 0, I 0, I 0, I 0, I 0, I 0, I 0, I 0, I 0, I 0, I 0, I 0, I 0, I 0, I 0, I 0, I 0, .slice none 0 0, .slice none 0 0]) rfl (by omega) (by show 1 ≤ 1 + x2 ∧ 1 + x2 ≤ 3; omega) rfl (by simp only [List.mem_cons, List.not_mem_nil, or_false, forall_eq_or_imp, forall_eq]; unfold smallI at *; omega) hQ (1 + x18).toNat G25 none 0 none 0 [] [] (by simp) ⟨s25.perm ?_, fun r h => (by cases h), rfl, by simp, fun p h => (by cases h), rfl⟩
 ·rw [Int.toNat_of_nonneg (by omega)] at this
  exact this
 ·exact ((List.Perm.swap _ _ _).trans ((List.Perm.swap _ _ _).cons _)).cons _
end
end AM
end Go.Proofs.YtemcmblcogljkaaGreatDoor

