/- Two values of the type Outer compared. Configurations. Numbers written by the reference. Slices that are appended to. Lines and hexadecimal digits written by the reference. Texts cut by the reference. -/
import Derived.Test.YtemcmblcogljkaaGreatDoorCb
import Derived.Test.YtemcmblcogljkaaGreatDoorPl
set_option linter.all false
set_option linter.unusedSimpArgs false
set_option linter.unusedVariables false
namespace Go.Proofs.YtemcmblcogljkaaGreatDoor
namespace AM
open Go
theorem peel_bindB {α β : Type} (P : Program) (f : α → Sem β) : ∀ s : Sem α, peel P (s >>= f) = (peel P s).bind fun a => peel P (f a) := by
 intro s
 induction s with
 | pure a => rfl
 | program k ih => exact ih P
 | _ => rfl
theorem eq_int (d : Nat) (x y : Int) : peel Tryz.prog (Op.equalIn (d + 1) 3 (I x) (I y)) = some (x == y) := by kernel_rfl
def outerFields : Array Field := #[{ name := "Offset", type := 3, offset := 0, embedded := false, tag := "", pkgPath := "", byteOffset := 0 },
    { name := "Up", type := 3, offset := 1, embedded := false, tag := "", pkgPath := "", byteOffset := 8 },
    { name := "Down", type := 3, offset := 2, embedded := false, tag := "", pkgPath := "", byteOffset := 16 }]
theorem und33 : peel Tryz.prog (underlying 33) = some (.struct outerFields) := by kernel_rfl
theorem part0 (a b c : Int) : peel Tryz.prog (part 3 #[I a, I b, I c] 0) = some (I a) := by kernel_rfl
theorem part1 (a b c : Int) : peel Tryz.prog (part 3 #[I a, I b, I c] 1) = some (I b) := by kernel_rfl
theorem part2 (a b c : Int) : peel Tryz.prog (part 3 #[I a, I b, I c] 2) = some (I c) := by kernel_rfl
theorem held : Tryz.prog.stoodInHeld 33 = false := by kernel_rfl
theorem peel_program : peel Tryz.prog program = some Tryz.prog := rfl
theorem peel_pure {α : Type} (P : Program) (a : α) : peel P (pure a : Sem α) = some a := rfl
theorem eq_outer (d : Nat) (a b c x y z : Int) : peel Tryz.prog (Op.equalIn (d + 2) 33 (.agg #[I a, I b, I c]) (.agg #[I x, I y, I z])) = some (a == x && b == y && c == z) := by
 rw [Op.equalIn]
 rw [peel_bindB, und33]
 simp only [Option.bind_some]
 simp only [peel_bindB, peel_program, Option.bind_some, held, Bool.false_eq_true, if_false, outerFields, List.forIn_toArray, List.forIn_cons, List.forIn_nil]
 rw [if_pos (show "Offset" ≠ "_" by decide), if_pos (show "Up" ≠ "_" by decide), if_pos (show "Down" ≠ "_" by decide)]
 simp only [peel_bindB, part0, part1, part2, eq_int, Option.bind_some]
 cases a == x
 ·rfl
 ·simp only [Bool.not_true, Bool.false_eq_true, if_false, peel_pure, Option.bind_some, peel_bindB, part1, eq_int]
  cases b == y
  ·rfl
  ·simp only [Bool.not_true, Bool.false_eq_true, if_false, peel_pure, Option.bind_some, peel_bindB, part2, eq_int]
   cases c == z
   ·rfl
   ·rfl
theorem aBin_outer (xo yo : Operand) (a b c x y z : Int) : aBin Tryz.prog .neq 33 xo yo (.agg #[I a, I b, I c]) (.agg #[I x, I y, I z]) = some (.bool (!(a == x && b == y && c == z))) := by
 show peelF Tryz.prog (do eqGuard .neq 33 xo yo (.agg #[I a, I b, I c]) (.agg #[I x, I y, I z]); binOp .neq 33 (.agg #[I a, I b, I c]) (.agg #[I x, I y, I z])) = _
 unfold peelF
 rw [peel_bindB, show peel Tryz.prog (eqGuard .neq 33 xo yo (.agg #[I a, I b, I c]) (.agg #[I x, I y, I z])) = some () by kernel_rfl]
 simp only [Option.bind_some]
 rw [show binOp .neq 33 (.agg #[I a, I b, I c]) (.agg #[I x, I y, I z]) = (Op.equalIn (9998 + 2) 33 (.agg #[I a, I b, I c]) (.agg #[I x, I y, I z]) >>= fun r => pure (.bool (!r))) from rfl]
 rw [peel_bindB, eq_outer]
 rfl
end AM
end Go.Proofs.YtemcmblcogljkaaGreatDoor

namespace Go.Proofs.YtemcmblcogljkaaGreatDoor
namespace AM
open Go
section
variable {pm : Prims}
theorem obN2 (a b : Value) (A : Prop) : obN 2 (.agg ⟨[a, b]⟩) A = A := rfl
theorem obN4 (a b c d : Value) (A : Prop) : obN 4 (.agg ⟨[a, b, c, d]⟩) A = A := rfl
theorem obN8 (a b c d e f g h : Value) (A : Prop) : obN 8 (.agg ⟨[a, b, c, d, e, f, g, h]⟩) A = A := rfl
theorem over' {H G : AH} (hw : WF H) {zs vs : List Value} (sz : Nat) (hg : Le (H.new sz zs) G) (hl : vs.length = zs.length) (hv : ∀ v ∈ vs, oneCell v = true) :
  ∃ H', G.storeN H.next 0 vs = some H' ∧ Keep (fun g => g = H.next) G H' ∧ (∀ j, H'.load H.next j = vs[j]?) ∧ H'.next = G.next := by
 have o := (new_own H sz zs).le (new_wf hw sz zs) hg
 have r0 : rootOf G H.next = H.next := by rw [hg.root (by rw [new_next]; omega), new_root]
 obtain ⟨H', h1, h2, _, h4, h5⟩ := storeN_ok hg.wf o (i := 0) (vs := vs) (by omega) hv
 rw [r0] at h2
 refine ⟨H', h1, h2, fun j => ?_, h4⟩
 rw [h5]
 by_cases h : 0 ≤ j ∧ j < 0 + vs.length
 ·rw [if_pos h]; rfl
 ·rw [if_neg h, Keep.load (new_wf hw sz zs) hg (by rw [new_next]; omega) (fun hh => hh), new_load, List.getElem?_eq_none (by omega), List.getElem?_eq_none (by omega)]
theorem c64 (hp : Only pm) {a0 a1 a2 a3 a4 a5 a6 a7 a8 a9 a10 a11 a12 a13 a14 a15 a16 a17 : Int} {fb tb : Option Addr} {fn fk tn tk : Nat} {H : AH} {Q : Value → AH → Prop} (hw : WF H) (hQ : ∀ H', Le H H' → Q (.agg ⟨[I a6, I a7, I a8, .slice none 0 0]⟩) H') : OK pm 64 ⟨[.agg ⟨[I a0, I a1, I a2, I a3, I a4, I a5, I a6, I a7, I a8, I a9, I a10, I a11, I a12, I a13, I a14, I a15, I a16, I a17, .slice fb fn fk, .slice tb tn tk]⟩]⟩ H Q := by
 apply f64_ok hp
 have l1 := new_le hw 0 [I a0, I a1, I a2, I a3, I a4, I a5, I a6, I a7, I a8, I a9, I a10, I a11, I a12, I a13, I a14, I a15, I a16, I a17, .slice fb fn fk, .slice tb tn tk]
 have l2 := new_le l1.wf 0 [I 0, I 0, I 0, .slice none 0 0]
 simp only [f64R, letH_eq, load2 hw, Nat.zero_add, Nat.reduceAdd, List.getElem?_cons_zero, List.getElem?_cons_succ, obI_some, obL_some, obB_some]
 obtain ⟨H', h1, h2, h3, h4⟩ := over l1.wf 0 (zs := [I 0, I 0, I 0, .slice none 0 0]) (vs := [I a6, I a7, I a8, .slice none 0 0]) rfl (by simp [oneCell])
 rw [h1, obH_some]
 simp only [h3, Nat.zero_add, Nat.reduceAdd, List.getElem?_cons_zero, List.getElem?_cons_succ, obI_some, obL_some, obB_some]
 exact hQ H' (l1.trans h2)
theorem c77 (hp : Only pm) {a0 a1 a2 a3 a4 a5 a6 a7 a8 a9 a10 a11 a12 a13 a14 a15 a16 a17 : Int} {fb tb : Option Addr} {fn fk tn tk : Nat} {H : AH} {Q : Value → AH → Prop} (hw : WF H) (hQ : ∀ H', Le H H' → Q (.agg ⟨[I a6, I a7, I a8, .slice none 0 0]⟩) H') : OK pm 77 ⟨[.agg ⟨[I a0, I a1, I a2, I a3, I a4, I a5, I a6, I a7, I a8, I a9, I a10, I a11, I a12, I a13, I a14, I a15, I a16, I a17, .slice fb fn fk, .slice tb tn tk]⟩]⟩ H Q := by
 apply f77_ok hp
 have l1 := new_le hw 0 [I a0, I a1, I a2, I a3, I a4, I a5, I a6, I a7, I a8, I a9, I a10, I a11, I a12, I a13, I a14, I a15, I a16, I a17, .slice fb fn fk, .slice tb tn tk]
 have l2 := new_le l1.wf 0 [I 0, I 0, I 0, .slice none 0 0]
 simp only [f77R, letH_eq, load2 hw, Nat.zero_add, Nat.reduceAdd, List.getElem?_cons_zero, List.getElem?_cons_succ, obI_some, obL_some, obB_some]
 obtain ⟨H', h1, h2, h3, h4⟩ := over l1.wf 0 (zs := [I 0, I 0, I 0, .slice none 0 0]) (vs := [I a6, I a7, I a8, .slice none 0 0]) rfl (by simp [oneCell])
 rw [h1, obH_some]
 simp only [h3, Nat.zero_add, Nat.reduceAdd, List.getElem?_cons_zero, List.getElem?_cons_succ, obI_some, obL_some, obB_some]
 exact hQ H' (l1.trans h2)
def errA (p t b : Int) : Int := if 1 ≤ p ∧ p ≤ 64 ∧ 1 ≤ t ∧ t ≤ 32 ∧ 0 ≤ b ∧ b ≤ 1000 then 0 else 3
theorem c63 (hp : Only pm) {p t b : Int} {H : AH} {Q : Value → AH → Prop} (hw : WF H) (hQ : ∀ H', Le H H' → Q (I (errA p t b)) H') : OK pm 63 ⟨[.agg ⟨[I p, I t, I b, .slice none 0 0]⟩]⟩ H Q := by
 apply f63_ok hp
 have l1 := new_le hw 0 [I p, I t, I b, .slice none 0 0]
 simp only [f63R, letH_eq, new_load, Nat.zero_add, Nat.reduceAdd, List.getElem?_cons_zero, List.getElem?_cons_succ, obI_some, obL_some, obB_some, ifB_J, join2_J, Bool.cond_true_left]
 refine ifB_intro (fun h => ?_) (fun h => ?_)
 ·have := hQ _ l1
  simp only [Bool.or_eq_true, Bool.or_eq_false_iff, Bool.not_eq_true', Bool.not_eq_false', decide_eq_true_eq, decide_eq_false_iff_not, bne_iff_ne, bne_eq_false_iff_eq, within'] at h
  rwa [errA, if_neg (by omega)] at this
 ·have := hQ _ l1
  simp only [Bool.or_eq_true, Bool.or_eq_false_iff, Bool.not_eq_true', Bool.not_eq_false', decide_eq_true_eq, decide_eq_false_iff_not, bne_iff_ne, bne_eq_false_iff_eq, within'] at h
  rw [errA, if_pos (by omega)] at this
  refine ifB_intro (fun h => ?_) (fun _ => ?_)
  ·simp at h
  ·apply f63L0_step
   simp only [f63B0, new_load, Nat.zero_add, Nat.reduceAdd, List.getElem?_cons_zero, List.getElem?_cons_succ, obI_some, obL_some, obB_some]
   rw [decide_eq_false (by omega), ifB_false]
   exact this
theorem c76 (hp : Only pm) {p t b : Int} {H : AH} {Q : Value → AH → Prop} (hw : WF H) (hQ : ∀ H', Le H H' → Q (I (errA p t b)) H') : OK pm 76 ⟨[.agg ⟨[I p, I t, I b, .slice none 0 0]⟩]⟩ H Q := by
 apply f76_ok hp
 have l1 := new_le hw 0 [I p, I t, I b, .slice none 0 0]
 simp only [f76R, letH_eq, new_load, Nat.zero_add, Nat.reduceAdd, List.getElem?_cons_zero, List.getElem?_cons_succ, obI_some, obL_some, obB_some, ifB_J, join2_J, Bool.cond_true_left]
 refine ifB_intro (fun h => ?_) (fun h => ?_)
 ·have := hQ _ l1
  simp only [Bool.or_eq_true, Bool.or_eq_false_iff, Bool.not_eq_true', Bool.not_eq_false', decide_eq_true_eq, decide_eq_false_iff_not, bne_iff_ne, bne_eq_false_iff_eq, within'] at h
  rwa [errA, if_neg (by omega)] at this
 ·have := hQ _ l1
  simp only [Bool.or_eq_true, Bool.or_eq_false_iff, Bool.not_eq_true', Bool.not_eq_false', decide_eq_true_eq, decide_eq_false_iff_not, bne_iff_ne, bne_eq_false_iff_eq, within'] at h
  rw [errA, if_pos (by omega)] at this
  refine ifB_intro (fun h => ?_) (fun _ => ?_)
  ·simp at h
  ·apply f76L0_step
   simp only [f76B0, new_load, Nat.zero_add, Nat.reduceAdd, List.getElem?_cons_zero, List.getElem?_cons_succ, obI_some, obL_some, obB_some]
   rw [decide_eq_false (by omega), ifB_false]
   exact this
structure Cfg where
 seed : Int
 cells : Int
 res : Int
 delay : Int
 betw : Int
 tries : Int
 pre : Int
 att : Int
 back : Int
 pa : Int
 pb : Int
 pc : Int
 ra : Int
 rb : Int
 rc : Int
 oo : Int
 ou : Int
 od : Int
 fades : List (List Int)
 terms : List Trm
def Cfg.shaped (c : Cfg) : Prop := (∀ r ∈ c.fades, r.length = 5) ∧ ∀ t ∈ c.terms, t.shaped
def Cfg.vals (c : Cfg) (fb : Option Addr) (fn fk : Nat) (tb : Option Addr) (tn tk : Nat) : List Value :=
 [I c.seed, I c.cells, I c.res, I c.delay, I c.betw, I c.tries, I c.pre, I c.att, I c.back, I c.pa, I c.pb, I c.pc, I c.ra, I c.rb, I c.rc, I c.oo, I c.ou, I c.od, .slice fb fn fk, .slice tb tn tk]
def RdT (H : AH) (b : Option Addr) (n : Nat) (L : List Trm) : Prop :=
 n = L.length ∧ ∀ i t, L[i]? = some t → ∃ h j bb bn bk kb kn kk, b = some ⟨h, j, none⟩ ∧ (∀ k, k < 14 → H.load h (j + i * 14 + k) = (t.cells bb bn bk kb kn kk)[k]?) ∧ Rd H 11 bb bn (recs t.bears) ∧ Rd H 4 kb kn (recs t.bucks) ∧ (∀ a, bb = some a → a.spot = none) ∧ (∀ a, kb = some a → a.spot = none)
theorem RdT.le {H H' : AH} (hw : WF H) (hk : Le H H') {b : Option Addr} {n : Nat} {L : List Trm} (hr : RdT H b n L) : RdT H' b n L := by
 refine ⟨hr.1, fun i t hi => ?_⟩
 obtain ⟨h, j, bb, bn, bk, kb, kn, kk, h1, h2, h3, h4, h6⟩ := hr.2 i t hi
 refine ⟨h, j, bb, bn, bk, kb, kn, kk, h1, fun k hk' => ?_, h3.le hw hk, h4.le hw hk, h6⟩
 have h5 := h2 k hk'
 have : k < (t.cells bb bn bk kb kn kk).length := hk'
 rw [List.getElem?_eq_getElem this] at h5 ⊢
 exact hk.load hw h5
theorem RdT.elem {H : AH} {b : Option Addr} {n k : Nat} {L : List Trm} (hr : RdT H b n L) {i : Nat} {t : Trm} (hi : L[i]? = some t) :
  ∃ h j bb bn bk kb kn kk, elemS 14 (.slice b n k) (.int .i64 (i : Int)) = some (.pointer (some ⟨h, j, none⟩)) ∧ (∀ k, k < 14 → H.load h (j + k) = (t.cells bb bn bk kb kn kk)[k]?) ∧ Rd H 11 bb bn (recs t.bears) ∧ Rd H 4 kb kn (recs t.bucks) ∧ (∀ a, bb = some a → a.spot = none) ∧ (∀ a, kb = some a → a.spot = none) := by
 obtain ⟨h, j, bb, bn, bk, kb, kn, kk, h1, h2⟩ := hr.2 i t hi
 have hlt : i < n := by rw [hr.1]; exact (List.getElem?_eq_some_iff.1 hi).1
 refine ⟨h, j + i * 14, bb, bn, bk, kb, kn, kk, ?_, h2⟩
 rw [h1, elemS_eq (by omega) (by omega), Int.toNat_natCast]
def errC (c : Cfg) : Int :=
 if ¬ (1 ≤ c.cells ∧ c.cells ≤ 3) then 63
 else if ¬ (1 ≤ c.terms.length ∧ c.terms.length ≤ 4) then 64
 else if ¬ (0 ≤ c.seed ∧ c.seed ≤ 1048576 ∧ 1 ≤ c.res ∧ c.res ≤ 12 ∧ 1 ≤ c.delay ∧ c.delay ≤ 1000 ∧ 1 ≤ c.betw ∧ c.betw ≤ 1000 ∧ 1 ≤ c.tries ∧ c.tries ≤ 32) then 3
 else if ¬ (errA c.pre c.att c.back = 0 ∧ errP c.pa c.pb c.pc = 0 ∧ errM c.ra c.rb c.rc = 0 ∧ c.oo = 0 ∧ 0 ≤ c.ou ∧ c.ou ≤ 256 ∧ 0 ≤ c.od ∧ c.od ≤ 256) then 3
 else if errFs c.fades ≠ 0 then errFs c.fades
 else firstE (c.terms.map (errT c.cells))
theorem OK_of {f : FuncId} {args : Array Value} {H H' : AH} {v : Value} {K : Value → AH → Prop} (e : OK pm f args H K = K v H') (_ : WF H') (hl : Le H H') (h : ∀ H', Le H H' → K v H') : OK pm f args H K := by
 rw [e]; exact h _ hl
theorem c43 (hp : Only pm) {c : Cfg} (hc : c.shaped) {fb tb : Option Addr} {fn fk tn tk : Nat} {H : AH} {Q : Value → AH → Prop} (hw : WF H) (hf : Rd H 5 fb fn (recs c.fades)) (htt : RdT H tb tn c.terms) (hQ : ∀ H', Le H H' → Q (I (errC c)) H') :
  OK pm 43 ⟨[.agg ⟨c.vals fb fn fk tb tn tk⟩]⟩ H Q := by
 have htn : tn = c.terms.length := htt.1
 unfold Cfg.vals
 apply f43_ok hp
 have l1 := new_le hw 0 (c.vals fb fn fk tb tn tk)
 have LA : ∀ G, Le (H.new 0 (c.vals fb fn fk tb tn tk)) G → ∀ k, G.load H.next k = (c.vals fb fn fk tb tn tk)[k]? := fun G hg k => by
  rw [Keep.load l1.wf hg (by simp only [new_next]; omega) (fun hh => hh), new_load]
 generalize hH1 : H.new 0 (c.vals fb fn fk tb tn tk) = H1 at l1 LA
 have LR := LA H1 (Keep.refl l1.wf)
 unfold Cfg.vals at LA LR hH1
 simp only [f43R, letH_eq, hH1]
 refine c62 hp l1.wf fun G b b' hg r1 r2 => ?_
 simp only [tupV_eq, List.getElem?_cons_zero, List.getElem?_cons_succ, obV_some, obN2, cellAt_eq, obL_some, obI_some]
 obtain ⟨G2, s1, s2, s3, s4⟩ := over hg.wf 0 (zs := [.slice none 0 0, .slice none 0 0]) (vs := [.slice b 1 1, .slice b' 1 1]) rfl (by simp [oneCell])
 rw [s1, obH_some]
 have g2 := hg.trans s2
 have LG := LA G2 g2
 simp only [LG, Nat.zero_add, Nat.reduceAdd, List.getElem?_cons_zero, List.getElem?_cons_succ, obI_some, obL_some, obB_some, ifB_J, join2_J, Bool.cond_true_left]
 refine ifB_intro (fun h => ?_) (fun hc1 => ?_)
 ·have := hQ _ (l1.trans g2)
  simp only [Bool.or_eq_true, Bool.or_eq_false_iff, Bool.not_eq_true', Bool.not_eq_false', decide_eq_true_eq, decide_eq_false_iff_not, bne_iff_ne, bne_eq_false_iff_eq, within'] at h
  rwa [errC, if_pos (by omega)] at this
 simp only [Bool.or_eq_true, Bool.or_eq_false_iff, Bool.not_eq_true', Bool.not_eq_false', decide_eq_true_eq, decide_eq_false_iff_not, bne_iff_ne, bne_eq_false_iff_eq, within'] at hc1
 refine ifB_intro (fun h => ?_) (fun hc2 => ?_)
 ·have := hQ _ (l1.trans g2)
  simp only [Bool.or_eq_true, Bool.or_eq_false_iff, Bool.not_eq_true', Bool.not_eq_false', decide_eq_true_eq, decide_eq_false_iff_not, bne_iff_ne, bne_eq_false_iff_eq, within'] at h
  rwa [errC, if_neg (by omega), if_pos (by omega)] at this
 simp only [Bool.or_eq_true, Bool.or_eq_false_iff, Bool.not_eq_true', Bool.not_eq_false', decide_eq_true_eq, decide_eq_false_iff_not, bne_iff_ne, bne_eq_false_iff_eq, within'] at hc2
 refine ifB_intro (fun h => ?_) (fun hc3 => ?_)
 ·have := hQ _ (l1.trans g2)
  simp only [Bool.or_eq_true, Bool.or_eq_false_iff, Bool.not_eq_true', Bool.not_eq_false', decide_eq_true_eq, decide_eq_false_iff_not, bne_iff_ne, bne_eq_false_iff_eq, within'] at h
  rwa [errC, if_neg (by omega), if_neg (by omega), if_pos (by omega)] at this
 simp only [Bool.or_eq_true, Bool.or_eq_false_iff, Bool.not_eq_true', Bool.not_eq_false', decide_eq_true_eq, decide_eq_false_iff_not, bne_iff_ne, bne_eq_false_iff_eq, within'] at hc3
 have hE : errC c = if ¬ (errA c.pre c.att c.back = 0 ∧ errP c.pa c.pb c.pc = 0 ∧ errM c.ra c.rb c.rc = 0 ∧ c.oo = 0 ∧ 0 ≤ c.ou ∧ c.ou ≤ 256 ∧ 0 ≤ c.od ∧ c.od ≤ 256) then 3
   else if errFs c.fades ≠ 0 then errFs c.fades else firstE (c.terms.map (errT c.cells)) := by
  rw [errC, if_neg (by omega), if_neg (by omega), if_neg (by omega)]
 have SG : ∀ G', Le G2 G' → ∀ k, G'.load G.next k = ([.slice b 1 1, .slice b' 1 1] : List Value)[k]? := fun G' hg' k => by
  rw [Keep.load s2.wf hg' (by omega) (fun hh => hh), s3]
 have bad : ∀ G', Le G2 G' → ¬ (errA c.pre c.att c.back = 0 ∧ errP c.pa c.pb c.pc = 0 ∧ errM c.ra c.rb c.rc = 0 ∧ c.oo = 0 ∧ 0 ≤ c.ou ∧ c.ou ≤ 256 ∧ 0 ≤ c.od ∧ c.od ≤ 256) → Q (I 3) G' := fun G' hg' hn => by
  have := hQ _ ((l1.trans g2).trans hg')
  rwa [hE, if_pos hn] at this
 simp only [join2]
 refine c64 hp s2.wf fun A1 a1 => ?_
 simp only [obN4, cellAt_eq, List.getElem?_cons_zero, List.getElem?_cons_succ, obI_some, obL_some]
 refine c63 hp a1.wf fun A2 a2 => ?_
 have k2 := a1.trans a2
 rw [obI_some]
 refine ifB_intro (fun h => ?_) (fun hA => ?_)
 ·rw [ifB_true]; exact bad A2 k2 (by simp only [Bool.or_eq_true, Bool.or_eq_false_iff, Bool.not_eq_true', Bool.not_eq_false', decide_eq_true_eq, decide_eq_false_iff_not, bne_iff_ne, bne_eq_false_iff_eq, within'] at h; intro hh; exact h hh.1)
 simp only [Bool.or_eq_true, Bool.or_eq_false_iff, Bool.not_eq_true', Bool.not_eq_false', decide_eq_true_eq, decide_eq_false_iff_not, bne_iff_ne, bne_eq_false_iff_eq, within'] at hA
 simp only [LA A2 (g2.trans k2), Nat.zero_add, Nat.reduceAdd, List.getElem?_cons_zero, List.getElem?_cons_succ, obI_some, obL_some, obB_some]
 refine OK_of (e65 hp _ _ _ _ _) (new_wf a2.wf _ _) (new_le a2.wf _ _) fun A3 a3 => ?_
 have k3 := k2.trans a3
 rw [obI_some]
 refine ifB_intro (fun h => ?_) (fun hP => ?_)
 ·rw [ifB_true]; exact bad A3 k3 (by simp only [Bool.or_eq_true, Bool.or_eq_false_iff, Bool.not_eq_true', Bool.not_eq_false', decide_eq_true_eq, decide_eq_false_iff_not, bne_iff_ne, bne_eq_false_iff_eq, within'] at h; intro hh; exact h hh.2.1)
 simp only [Bool.or_eq_true, Bool.or_eq_false_iff, Bool.not_eq_true', Bool.not_eq_false', decide_eq_true_eq, decide_eq_false_iff_not, bne_iff_ne, bne_eq_false_iff_eq, within'] at hP
 simp only [LA A3 (g2.trans k3), SG A3 k3, Nat.zero_add, Nat.reduceAdd, List.getElem?_cons_zero, List.getElem?_cons_succ, obI_some, obL_some, obB_some]
 refine c66 hp a3.wf ((r1.le hg.wf s2).le s2.wf k3) ((r2.le hg.wf s2).le s2.wf k3) fun A4 a4 => ?_
 have k4 := k3.trans a4
 rw [obI_some]
 refine ifB_intro (fun h => ?_) (fun hM => ?_)
 ·rw [ifB_true]; exact bad A4 k4 (by simp only [Bool.or_eq_true, Bool.or_eq_false_iff, Bool.not_eq_true', Bool.not_eq_false', decide_eq_true_eq, decide_eq_false_iff_not, bne_iff_ne, bne_eq_false_iff_eq, within'] at h; intro hh; exact h hh.2.2.1)
 simp only [Bool.or_eq_true, Bool.or_eq_false_iff, Bool.not_eq_true', Bool.not_eq_false', decide_eq_true_eq, decide_eq_false_iff_not, bne_iff_ne, bne_eq_false_iff_eq, within'] at hM
 simp only [LA A4 (g2.trans k4), Nat.zero_add, Nat.reduceAdd, List.getElem?_cons_zero, List.getElem?_cons_succ, obI_some, obL_some, obB_some, aBin_outer, beq_self_eq_true, Bool.and_true]
 refine ifB_intro (fun h => ?_) (fun hO => ?_)
 ·rw [ifB_true]; exact bad A4 k4 (by simp only [Bool.not_eq_true', beq_eq_false_iff_ne] at h; intro hh; exact h hh.2.2.2.1)
 simp only [Bool.not_eq_false', beq_iff_eq] at hO
 refine ifB_intro (fun h => ?_) (fun h1 => ?_)
 ·rw [ifB_true]; exact bad A4 k4 (by simp only [Bool.or_eq_true, Bool.or_eq_false_iff, Bool.not_eq_true', Bool.not_eq_false', decide_eq_true_eq, decide_eq_false_iff_not, bne_iff_ne, bne_eq_false_iff_eq, within'] at h; omega)
 refine ifB_intro (fun h => ?_) (fun h2 => ?_)
 ·rw [ifB_true]; exact bad A4 k4 (by simp only [Bool.or_eq_true, Bool.or_eq_false_iff, Bool.not_eq_true', Bool.not_eq_false', decide_eq_true_eq, decide_eq_false_iff_not, bne_iff_ne, bne_eq_false_iff_eq, within'] at h; omega)
 refine ifB_intro (fun h => ?_) (fun h3 => ?_)
 ·rw [ifB_true]; exact bad A4 k4 (by simp only [Bool.or_eq_true, Bool.or_eq_false_iff, Bool.not_eq_true', Bool.not_eq_false', decide_eq_true_eq, decide_eq_false_iff_not, bne_iff_ne, bne_eq_false_iff_eq, within'] at h; omega)
 simp only [Bool.or_eq_true, Bool.or_eq_false_iff, Bool.not_eq_true', Bool.not_eq_false', decide_eq_true_eq, decide_eq_false_iff_not, bne_iff_ne, bne_eq_false_iff_eq, within'] at h1 h2 h3
 refine ifB_intro (fun h => ?_) (fun h4 => ?_)
 ·exact bad A4 k4 (by simp only [Bool.or_eq_true, Bool.or_eq_false_iff, Bool.not_eq_true', Bool.not_eq_false', decide_eq_true_eq, decide_eq_false_iff_not, bne_iff_ne, bne_eq_false_iff_eq, within'] at h; omega)
 simp only [Bool.or_eq_true, Bool.or_eq_false_iff, Bool.not_eq_true', Bool.not_eq_false', decide_eq_true_eq, decide_eq_false_iff_not, bne_iff_ne, bne_eq_false_iff_eq, within'] at h4
 rw [if_neg (by rw [Classical.not_not]; exact ⟨hA, hP, hM, hO, by omega, by omega, by omega, by omega⟩)] at hE
 refine c67 hp hc.1 a4.wf ((hf.le hw (l1.trans g2)).le s2.wf k4) fun A5 a5 => ?_
 have k5 := k4.trans a5
 rw [obI_some]
 refine ifB_intro (fun h => ?_) (fun hF => ?_)
 ·have := hQ _ ((l1.trans g2).trans k5)
  rwa [hE, if_pos (by simpa using h)] at this
 rw [if_neg (by simpa using hF)] at hE
 have key : ∀ d i G', i + d = tn → Le A5 G' → (∀ t ∈ c.terms.take i, errT c.cells t = 0) → f43L0 (OK pm) Q H.next (i : Int) G' := by
  intro d
  induction d with
  | zero =>
   intro i G' hi hg' hall
   apply f43L0_step
   simp only [f43B0, LA G' ((g2.trans k5).trans hg'), Nat.zero_add, Nat.reduceAdd, List.getElem?_cons_zero, List.getElem?_cons_succ, obI_some, obL_some, obB_some]
   rw [decide_eq_false (by omega), ifB_false]
   have := hQ _ (((l1.trans g2).trans k5).trans hg')
   rwa [hE, firstE_zero] at this
   intro e hme
   obtain ⟨t, ht1, rfl⟩ := List.mem_map.1 hme
   exact hall t (by rwa [List.take_of_length_le (by omega)])
  | succ d ih =>
   intro i G' hi hg' hall
   obtain ⟨t, hit⟩ : ∃ t, c.terms[i]? = some t := ⟨_, List.getElem?_eq_getElem (by omega)⟩
   have kk := (l1.trans (g2.trans k5)).trans hg'
   obtain ⟨h, j, bb, bn, bk, kb, kn, kk2, e1, e2, e3, e4, _⟩ := (htt.le hw kk).elem (k := tk) hit
   apply f43L0_step
   simp only [f43B0, LA G' ((g2.trans k5).trans hg'), Nat.zero_add, Nat.reduceAdd, List.getElem?_cons_zero, List.getElem?_cons_succ, obI_some, obL_some, obB_some]
   rw [decide_eq_true (by omega), ifB_true, e1, obA_some]
   rw [e2 0 (by omega), e2 1 (by omega), e2 2 (by omega), e2 3 (by omega), e2 4 (by omega), e2 5 (by omega), e2 6 (by omega), e2 7 (by omega), e2 8 (by omega), e2 9 (by omega), e2 10 (by omega), e2 11 (by omega), e2 12 (by omega), e2 13 (by omega)]
   unfold Trm.cells
   simp only [List.getElem?_cons_zero, List.getElem?_cons_succ, obI_some, obL_some, letH_eq]
   refine c68 hp (hc.2 t (List.mem_of_getElem? hit)) hg'.wf e3 e4 fun G3 g3 => ?_
   have gg := hg'.trans g3
   rw [obI_some]
   refine ifB_intro (fun h => ?_) (fun h => ?_)
   ·have := hQ _ (((l1.trans g2).trans k5).trans gg)
    rw [hE, firstE_at (i := i) (e := errT c.cells t) (fun x hx => ?_) (by simp [hit]) (by simpa using h)] at this
    ·exact this
    ·rw [← List.map_take] at hx
     obtain ⟨t, ht1, rfl⟩ := List.mem_map.1 hx
     exact hall t ht1
   ·rw [wrap_of (by omega) (by omega)]
    refine ih (i + 1) G3 (by omega) gg fun r hr' => ?_
    rw [List.take_add_one, hit] at hr'
    rcases List.mem_append.1 hr' with hr' | hr'
    ·exact hall r hr'
    ·simp only [Option.toList_some, List.mem_singleton] at hr'
     subst hr'
     simpa using h
 exact key tn 0 A5 (by omega) (Keep.refl a5.wf) fun r hr => by simp at hr
theorem c49 (hp : Only pm) {c : Cfg} (hc : c.shaped) {fb tb : Option Addr} {fn fk tn tk : Nat} {H : AH} {Q : Value → AH → Prop} (hw : WF H) (hf : Rd H 5 fb fn (recs c.fades)) (htt : RdT H tb tn c.terms) (hQ : ∀ H', Le H H' → Q (I (errC c)) H') :
  OK pm 49 ⟨[.agg ⟨c.vals fb fn fk tb tn tk⟩]⟩ H Q := by
 have htn : tn = c.terms.length := htt.1
 unfold Cfg.vals
 apply f49_ok hp
 have l1 := new_le hw 0 (c.vals fb fn fk tb tn tk)
 have LA : ∀ G, Le (H.new 0 (c.vals fb fn fk tb tn tk)) G → ∀ k, G.load H.next k = (c.vals fb fn fk tb tn tk)[k]? := fun G hg k => by
  rw [Keep.load l1.wf hg (by simp only [new_next]; omega) (fun hh => hh), new_load]
 generalize hH1 : H.new 0 (c.vals fb fn fk tb tn tk) = H1 at l1 LA
 have LR := LA H1 (Keep.refl l1.wf)
 unfold Cfg.vals at LA LR hH1
 simp only [f49R, letH_eq, hH1]
 simp only [LR, e74 hp, Nat.zero_add, Nat.reduceAdd, List.getElem?_cons_zero, List.getElem?_cons_succ, obI_some, obL_some, obB_some, ifB_not, ifB_J, join2_J, Bool.cond_true_left, Bool.cond_true_right]
 refine ifB_swap (fun h => ?_) (fun hc1 => ?_)
 ·have := hQ _ l1
  simp only [Bool.or_eq_true, Bool.or_eq_false_iff, Bool.not_eq_true', Bool.not_eq_false', decide_eq_true_eq, decide_eq_false_iff_not, bne_iff_ne, bne_eq_false_iff_eq, within'] at h
  rwa [errC, if_pos (by omega)] at this
 simp only [Bool.or_eq_true, Bool.or_eq_false_iff, Bool.not_eq_true', Bool.not_eq_false', decide_eq_true_eq, decide_eq_false_iff_not, bne_iff_ne, bne_eq_false_iff_eq, within'] at hc1
 refine ifB_swap (fun h => ?_) (fun hc2 => ?_)
 ·have := hQ _ l1
  simp only [Bool.or_eq_true, Bool.or_eq_false_iff, Bool.not_eq_true', Bool.not_eq_false', decide_eq_true_eq, decide_eq_false_iff_not, bne_iff_ne, bne_eq_false_iff_eq, within'] at h
  rwa [errC, if_neg (by omega), if_pos (by omega)] at this
 simp only [Bool.or_eq_true, Bool.or_eq_false_iff, Bool.not_eq_true', Bool.not_eq_false', decide_eq_true_eq, decide_eq_false_iff_not, bne_iff_ne, bne_eq_false_iff_eq, within'] at hc2
 refine ifB_intro (fun h => ?_) (fun hc3 => ?_)
 ·have := hQ _ l1
  simp only [Bool.or_eq_true, Bool.or_eq_false_iff, Bool.not_eq_true', Bool.not_eq_false', decide_eq_true_eq, decide_eq_false_iff_not, bne_iff_ne, bne_eq_false_iff_eq, within'] at h
  rwa [errC, if_neg (by omega), if_neg (by omega), if_pos (by omega)] at this
 simp only [Bool.or_eq_true, Bool.or_eq_false_iff, Bool.not_eq_true', Bool.not_eq_false', decide_eq_true_eq, decide_eq_false_iff_not, bne_iff_ne, bne_eq_false_iff_eq, within'] at hc3
 refine c75 hp l1.wf fun G b b' hg r1 r2 => ?_
 simp only [tupV_eq, List.getElem?_cons_zero, List.getElem?_cons_succ, obV_some, obN2, cellAt_eq, obL_some, obI_some]
 obtain ⟨G2, s1, s2, s3, s4⟩ := over hg.wf 0 (zs := [.slice none 0 0, .slice none 0 0]) (vs := [.slice b 1 1, .slice b' 1 1]) rfl (by simp [oneCell])
 rw [s1, obH_some]
 have g2 := hg.trans s2
 have LG := LA G2 g2
 simp only [LG, Nat.zero_add, Nat.reduceAdd, List.getElem?_cons_zero, List.getElem?_cons_succ, obI_some, obL_some, obB_some]
 have hE : errC c = if ¬ (errA c.pre c.att c.back = 0 ∧ errP c.pa c.pb c.pc = 0 ∧ errM c.ra c.rb c.rc = 0 ∧ c.oo = 0 ∧ 0 ≤ c.ou ∧ c.ou ≤ 256 ∧ 0 ≤ c.od ∧ c.od ≤ 256) then 3
   else if errFs c.fades ≠ 0 then errFs c.fades else firstE (c.terms.map (errT c.cells)) := by
  rw [errC, if_neg (by omega), if_neg (by omega), if_neg (by omega)]
 have SG : ∀ G', Le G2 G' → ∀ k, G'.load G.next k = ([.slice b 1 1, .slice b' 1 1] : List Value)[k]? := fun G' hg' k => by
  rw [Keep.load s2.wf hg' (by omega) (fun hh => hh), s3]
 have bad : ∀ G', Le G2 G' → ¬ (errA c.pre c.att c.back = 0 ∧ errP c.pa c.pb c.pc = 0 ∧ errM c.ra c.rb c.rc = 0 ∧ c.oo = 0 ∧ 0 ≤ c.ou ∧ c.ou ≤ 256 ∧ 0 ≤ c.od ∧ c.od ≤ 256) → Q (I 3) G' := fun G' hg' hn => by
  have := hQ _ ((l1.trans g2).trans hg')
  rwa [hE, if_pos hn] at this
 simp only [join2]
 refine c77 hp s2.wf fun A1 a1 => ?_
 simp only [obN4, cellAt_eq, List.getElem?_cons_zero, List.getElem?_cons_succ, obI_some, obL_some]
 refine c76 hp a1.wf fun A2 a2 => ?_
 have k2 := a1.trans a2
 rw [obI_some]
 refine ifB_intro (fun h => ?_) (fun hA => ?_)
 ·rw [ifB_true]; exact bad A2 k2 (by simp only [Bool.or_eq_true, Bool.or_eq_false_iff, Bool.not_eq_true', Bool.not_eq_false', decide_eq_true_eq, decide_eq_false_iff_not, bne_iff_ne, bne_eq_false_iff_eq, within'] at h; intro hh; exact h hh.1)
 simp only [Bool.or_eq_true, Bool.or_eq_false_iff, Bool.not_eq_true', Bool.not_eq_false', decide_eq_true_eq, decide_eq_false_iff_not, bne_iff_ne, bne_eq_false_iff_eq, within'] at hA
 simp only [LA A2 (g2.trans k2), Nat.zero_add, Nat.reduceAdd, List.getElem?_cons_zero, List.getElem?_cons_succ, obI_some, obL_some, obB_some]
 refine c78 hp a2.wf fun A3 a3 => ?_
 have k3 := k2.trans a3
 rw [obI_some]
 refine ifB_intro (fun h => ?_) (fun hP => ?_)
 ·rw [ifB_true]; exact bad A3 k3 (by simp only [Bool.or_eq_true, Bool.or_eq_false_iff, Bool.not_eq_true', Bool.not_eq_false', decide_eq_true_eq, decide_eq_false_iff_not, bne_iff_ne, bne_eq_false_iff_eq, within'] at h; intro hh; exact h hh.2.1)
 simp only [Bool.or_eq_true, Bool.or_eq_false_iff, Bool.not_eq_true', Bool.not_eq_false', decide_eq_true_eq, decide_eq_false_iff_not, bne_iff_ne, bne_eq_false_iff_eq, within'] at hP
 simp only [LA A3 (g2.trans k3), SG A3 k3, Nat.zero_add, Nat.reduceAdd, List.getElem?_cons_zero, List.getElem?_cons_succ, obI_some, obL_some, obB_some]
 refine c79 hp a3.wf ((r1.le hg.wf s2).le s2.wf k3) ((r2.le hg.wf s2).le s2.wf k3) fun A4 a4 => ?_
 have k4 := k3.trans a4
 rw [obI_some]
 refine ifB_intro (fun h => ?_) (fun hM => ?_)
 ·rw [ifB_true]; exact bad A4 k4 (by simp only [Bool.or_eq_true, Bool.or_eq_false_iff, Bool.not_eq_true', Bool.not_eq_false', decide_eq_true_eq, decide_eq_false_iff_not, bne_iff_ne, bne_eq_false_iff_eq, within'] at h; intro hh; exact h hh.2.2.1)
 simp only [Bool.or_eq_true, Bool.or_eq_false_iff, Bool.not_eq_true', Bool.not_eq_false', decide_eq_true_eq, decide_eq_false_iff_not, bne_iff_ne, bne_eq_false_iff_eq, within'] at hM
 simp only [LA A4 (g2.trans k4), Nat.zero_add, Nat.reduceAdd, List.getElem?_cons_zero, List.getElem?_cons_succ, obI_some, obL_some, obB_some, e74 hp, ifB_not]
 refine ifB_intro (fun h => ?_) (fun hO => ?_)
 ·rw [ifB_true]; exact bad A4 k4 (by simp only [Bool.or_eq_true, Bool.or_eq_false_iff, Bool.not_eq_true', Bool.not_eq_false', decide_eq_true_eq, decide_eq_false_iff_not, bne_iff_ne, bne_eq_false_iff_eq, within'] at h; intro hh; exact h hh.2.2.2.1)
 simp only [Bool.or_eq_true, Bool.or_eq_false_iff, Bool.not_eq_true', Bool.not_eq_false', decide_eq_true_eq, decide_eq_false_iff_not, bne_iff_ne, bne_eq_false_iff_eq, within'] at hO
 refine ifB_swap (fun h => ?_) (fun h1 => ?_)
 ·rw [ifB_true]; exact bad A4 k4 (by simp only [Bool.or_eq_true, Bool.or_eq_false_iff, Bool.not_eq_true', Bool.not_eq_false', decide_eq_true_eq, decide_eq_false_iff_not, bne_iff_ne, bne_eq_false_iff_eq, within'] at h; omega)
 simp only [Bool.or_eq_true, Bool.or_eq_false_iff, Bool.not_eq_true', Bool.not_eq_false', decide_eq_true_eq, decide_eq_false_iff_not, bne_iff_ne, bne_eq_false_iff_eq, within'] at h1
 refine ifB_swap (fun h => ?_) (fun h4 => ?_)
 ·exact bad A4 k4 (by simp only [Bool.or_eq_true, Bool.or_eq_false_iff, Bool.not_eq_true', Bool.not_eq_false', decide_eq_true_eq, decide_eq_false_iff_not, bne_iff_ne, bne_eq_false_iff_eq, within'] at h; omega)
 simp only [Bool.or_eq_true, Bool.or_eq_false_iff, Bool.not_eq_true', Bool.not_eq_false', decide_eq_true_eq, decide_eq_false_iff_not, bne_iff_ne, bne_eq_false_iff_eq, within'] at h4
 rw [if_neg (by rw [Classical.not_not]; exact ⟨hA, hP, hM, hO, by omega, by omega, by omega, by omega⟩)] at hE
 refine c80 hp hc.1 a4.wf ((hf.le hw (l1.trans g2)).le s2.wf k4) fun A5 a5 => ?_
 have k5 := k4.trans a5
 rw [obI_some]
 refine ifB_intro (fun h => ?_) (fun hF => ?_)
 ·have := hQ _ ((l1.trans g2).trans k5)
  rwa [hE, if_pos (by simpa using h)] at this
 rw [if_neg (by simpa using hF)] at hE
 simp only [LA A5 (g2.trans k5), Nat.zero_add, Nat.reduceAdd, List.getElem?_cons_zero, List.getElem?_cons_succ, obI_some, obL_some, obB_some]
 have key : ∀ d i G', i + d = tn → Le A5 G' → (∀ t ∈ c.terms.take i, errT c.cells t = 0) → f49L0 (OK pm) Q H.next tb tn tk (tn : Int) (i : Int) G' := by
  intro d
  induction d with
  | zero =>
   intro i G' hi hg' hall
   apply f49L0_step
   simp only [f49B0, LA G' ((g2.trans k5).trans hg'), Nat.zero_add, Nat.reduceAdd, List.getElem?_cons_zero, List.getElem?_cons_succ, obI_some, obL_some, obB_some]
   rw [decide_eq_false (by omega), ifB_false]
   have := hQ _ (((l1.trans g2).trans k5).trans hg')
   rwa [hE, firstE_zero] at this
   intro e hme
   obtain ⟨t, ht1, rfl⟩ := List.mem_map.1 hme
   exact hall t (by rwa [List.take_of_length_le (by omega)])
  | succ d ih =>
   intro i G' hi hg' hall
   obtain ⟨t, hit⟩ : ∃ t, c.terms[i]? = some t := ⟨_, List.getElem?_eq_getElem (by omega)⟩
   have kk := (l1.trans (g2.trans k5)).trans hg'
   obtain ⟨h, j, bb, bn, bk, kb, kn, kk2, e1, e2, e3, e4, _⟩ := (htt.le hw kk).elem (k := tk) hit
   apply f49L0_step
   simp only [f49B0, LA G' ((g2.trans k5).trans hg'), Nat.zero_add, Nat.reduceAdd, List.getElem?_cons_zero, List.getElem?_cons_succ, obI_some, obL_some, obB_some]
   rw [decide_eq_true (by omega), ifB_true, e1, obA_some]
   rw [e2 0 (by omega), e2 1 (by omega), e2 2 (by omega), e2 3 (by omega), e2 4 (by omega), e2 5 (by omega), e2 6 (by omega), e2 7 (by omega), e2 8 (by omega), e2 9 (by omega), e2 10 (by omega), e2 11 (by omega), e2 12 (by omega), e2 13 (by omega)]
   unfold Trm.cells
   simp only [List.getElem?_cons_zero, List.getElem?_cons_succ, obI_some, obL_some, letH_eq]
   obtain ⟨G4, o1, o2, o3, o4⟩ := over hg'.wf 0 (zs := [I 0, I 0, .slice none 0 0, .slice none 0 0, I 0, I 0, I 0, I 0, I 0, I 0, I 0, I 0, I 0, I 0]) (vs := t.cells bb bn bk kb kn kk2) rfl (by simp [Trm.cells, oneCell])
   unfold Trm.cells at o1 o3
   rw [o1, obH_some]
   simp only [LA G4 (((g2.trans k5).trans hg').trans o2), o3, Nat.zero_add, Nat.reduceAdd, List.getElem?_cons_zero, List.getElem?_cons_succ, obI_some, obL_some, obB_some]
   refine c81 hp (hc.2 t (List.mem_of_getElem? hit)) (by omega) (by omega) o2.wf (e3.le hg'.wf o2) (e4.le hg'.wf o2) fun G3 g3 => ?_
   have gg := (hg'.trans o2).trans g3
   rw [obI_some]
   refine ifB_intro (fun h => ?_) (fun h => ?_)
   ·have := hQ _ (((l1.trans g2).trans k5).trans gg)
    rw [hE, firstE_at (i := i) (e := errT c.cells t) (fun x hx => ?_) (by simp [hit]) (by simpa using h)] at this
    ·exact this
    ·rw [← List.map_take] at hx
     obtain ⟨t, ht1, rfl⟩ := List.mem_map.1 hx
     exact hall t ht1
   ·rw [wrap_of (by omega) (by omega)]
    refine ih (i + 1) G3 (by omega) gg fun r hr' => ?_
    rw [List.take_add_one, hit] at hr'
    rcases List.mem_append.1 hr' with hr' | hr'
    ·exact hall r hr'
    ·simp only [Option.toList_some, List.mem_singleton] at hr'
     subst hr'
     simpa using h
 exact key tn 0 A5 (by omega) (Keep.refl a5.wf) fun r hr => by simp at hr
end
end AM
end Go.Proofs.YtemcmblcogljkaaGreatDoor

namespace Go.Proofs.YtemcmblcogljkaaGreatDoor
namespace AM
open Go
open Go.Lib (decDigits itoa nDigits)
open TP
theorem bs_append (a b : List UInt8) : bs a ++ bs b = bs (a ++ b) := by
 apply ByteArray.ext
 simp [bs, ByteArray.data_append]
theorem bs_size (a : List UInt8) : (bs a).size = a.length := rfl
theorem bs_list (a : List UInt8) : (bs a).data.toList = a := rfl
theorem aStr_add {a b : List UInt8} (h : a.length + b.length ≤ 9223372036854775807) : aStr .add (bs a) (bs b) = some (.string (bs (a ++ b))) := by
 unfold aStr
 simp only [bs_size, ble_of h, bs_append]
def byteVals (l : List UInt8) : List Value := l.map fun b => .int .u8 (b.toNat : Int)
theorem unBytes_of : ∀ l : List UInt8, unBytes (byteVals l) = some l
 | [] => rfl
 | b :: l => by
  show unBytes (.int .u8 (b.toNat : Int) :: byteVals l) = _
  simp only [unBytes, unByte, unBytes_of l, Int.toNat_natCast, UInt8.ofNat_toNat]
theorem ofBytes_of {G : AH} {h i k : Nat} {l : List UInt8} (hl : ∀ j, j < l.length → G.load h (i + j) = (byteVals l)[j]?) : ofBytes G (.slice (some ⟨h, i, none⟩) l.length k) = some (.string (bs l)) := by
 unfold ofBytes
 have := loadN_of (H := G) (h := h) (i := i) (cs := byteVals l) (fun j hj => hl j (by simpa [byteVals] using hj))
 rw [show (byteVals l).length = l.length by simp [byteVals]] at this
 simp only [this, unBytes_of]
 rfl
theorem ofBytes_new (H : AH) (b : UInt8) {x : Int} (hx : x = (b.toNat : Int)) : ofBytes (H.new 1 [.int .u8 x]) (.slice (some ⟨H.next, 0, none⟩) 1 1) = some (.string (bs [b])) := by
 subst hx
 exact ofBytes_of (l := [b]) fun j _ => by rw [Nat.zero_add, new_load]; rfl
theorem digit_val {k : Nat} (h : k < 10) : ((UInt8.ofNat (48 + k)).toNat : Int) = 48 + (k : Int) := by
 rw [(dig_of_lt h).2]; omega
theorem decDigits_len {u : Nat} (h : u < 9223372036854775808) : (decDigits u).length ≤ 19 := by
 rw [Go.Lib.decDigits_length]
 exact nDigits_le (by omega) (by omega)
section
variable {pm : Prims}
theorem c69p (hp : Only pm) : ∀ (n : Nat) {H : AH} {Q : Value → AH → Prop}, n < 4611686018427387904 → WF H → (∀ H', Le H H' → Q (.string (bs (decDigits n))) H') → OK pm 69 ⟨[I (n : Int)]⟩ H Q := by
 intro n
 induction n using Nat.strongRecOn with
 | _ n ih =>
  intro H Q hn hw hQ
  apply f69_ok hp
  simp only [f69R, ifB_J, join2_J, Bool.cond_false_right]
  rw [decide_eq_false (by omega), Bool.false_and, ifB_false, ifB_false]
  refine ifB_intro (fun h => ?_) (fun h => ?_)
  ·simp only [decide_eq_true_eq] at h
   have hk : n < 10 := by omega
   rw [letH_eq, ofBytes_new H (UInt8.ofNat (48 + n)) (by rw [digit_val hk, wrap_of (by omega) (by omega), wrap_u8 (by omega) (by omega)]), obS_some]
   have := hQ _ (new_le hw 1 [.int .u8 (IntKind.wrap .u8 (IntKind.wrap .i64 (48 + (n : Int))))])
   rwa [decDigits, dif_pos hk] at this
  ·simp only [decide_eq_false_iff_not] at h
   have hk : ¬ n < 10 := by omega
   have e1 : aInt .quo .i64 (n : Int) 10 = some (I ((n / 10 : Nat) : Int)) := by
    show some (Value.int .i64 (IntKind.wrap .i64 ((n : Int).tdiv 10))) = _
    rw [show (n : Int).tdiv 10 = ((n / 10 : Nat) : Int) by simp [Int.tdiv], wrap_of (by omega) (by omega)]
   have e2 : aInt .rem .i64 (n : Int) 10 = some (I ((n % 10 : Nat) : Int)) := by
    show some (Value.int .i64 ((n : Int).tmod 10)) = _
    rw [show (n : Int).tmod 10 = ((n % 10 : Nat) : Int) by simp [Int.tmod]]
   rw [e1, obI_some, e2, obI_some, letH_eq]
   have hb : IntKind.wrap .u8 (IntKind.wrap .i64 (48 + ((n % 10 : Nat) : Int))) = ((UInt8.ofNat (48 + n % 10)).toNat : Int) := by
    rw [digit_val (by omega), wrap_of (by omega) (by omega), wrap_u8 (by omega) (by omega)]
   rw [ofBytes_new H _ hb, obS_some]
   have l1 := new_le hw 1 [.int .u8 (IntKind.wrap .u8 (IntKind.wrap .i64 (48 + ((n % 10 : Nat) : Int))))]
   refine ih (n / 10) (by omega) (by omega) l1.wf fun H' hl => ?_
   have hlen := decDigits_len (u := n / 10) (by omega)
   rw [obS_some, aStr_add (by simp; omega), obS_some]
   have e3 : ofBytes H' (.slice (some ⟨H.next, 0, none⟩) 1 1) = some (.string (bs [UInt8.ofNat (48 + n % 10)])) := by
    refine ofBytes_of (l := [UInt8.ofNat (48 + n % 10)]) fun j hj => ?_
    refine (hl.load l1.wf (v := .int .u8 ((UInt8.ofNat (48 + n % 10)).toNat : Int)) ?_).trans ?_
    ·rw [Nat.zero_add, new_load, hb]
     obtain rfl : j = 0 := by simpa using hj
     rfl
    ·obtain rfl : j = 0 := by simpa using hj
     rfl
   rw [e3, obE_str, obE_str]
   have := hQ H' (l1.trans hl)
   rw [decDigits, dif_neg hk] at this
   exact this
theorem c69 (hp : Only pm) {n : Int} {H : AH} {Q : Value → AH → Prop} (h0 : -4611686018427387904 < n) (h1 : n < 4611686018427387904) (hw : WF H) (hQ : ∀ H', Le H H' → Q (.string (bs (itoa n))) H') : OK pm 69 ⟨[I n]⟩ H Q := by
 suffices key : ∀ u : Nat, u < 4611686018427387904 → ∀ {H : AH} {Q : Value → AH → Prop}, WF H → (∀ H', Le H H' → Q (.string (bs (itoa (-(u : Int))))) H') → OK pm 69 ⟨[I (-(u : Int))]⟩ H Q by
  rcases Int.lt_or_le n 0 with h | h
  ·have e : n = -((n.natAbs : Nat) : Int) := by omega
   rw [e] at hQ ⊢
   exact key n.natAbs (by omega) hw hQ
  ·have e : n = ((n.natAbs : Nat) : Int) := by omega
   rw [e] at hQ ⊢
   refine c69p hp _ (by omega) hw fun H' hl => ?_
   have := hQ H' hl
   rwa [itoa_nonneg] at this
 intro u
 induction u using Nat.strongRecOn with
 | _ u ih =>
  intro hu H Q hw hQ
  rcases Nat.eq_zero_or_pos u with rfl | hpos
  ·exact c69p hp 0 (by omega) hw hQ
  rw [itoa_neg u hpos] at hQ
  apply f69_ok hp
  simp only [f69R, ifB_J, join2_J, Bool.cond_false_right]
  rw [decide_eq_true (show -(u : Int) < 0 by omega), Bool.true_and, ifB_true]
  refine ifB_intro (fun h => ?_) (fun h => ?_)
  ·simp only [decide_eq_true_eq] at h
   rw [show (0 : Int) - -(u : Int) = (u : Int) by omega, wrap_of (by omega) (by omega)]
   refine c69p hp u (by omega) hw fun H' hl => ?_
   have hlen := decDigits_len (u := u) (by omega)
   rw [obS_some, aStr_add (by simp; omega), obS_some]
   exact hQ H' hl
  ·simp only [decide_eq_false_iff_not] at h
   have e1 : aInt .quo .i64 (-(u : Int)) 10 = some (I (-((u / 10 : Nat) : Int))) := by
    show some (Value.int .i64 (IntKind.wrap .i64 ((-(u : Int)).tdiv 10))) = _
    rw [Int.neg_tdiv, show (u : Int).tdiv 10 = ((u / 10 : Nat) : Int) by simp [Int.tdiv], wrap_of (by omega) (by omega)]
   have e2 : aInt .rem .i64 (-(u : Int)) 10 = some (I (-((u % 10 : Nat) : Int))) := by
    show some (Value.int .i64 ((-(u : Int)).tmod 10)) = _
    rw [Int.neg_tmod, show (u : Int).tmod 10 = ((u % 10 : Nat) : Int) by simp [Int.tmod]]
   rw [e1, obI_some]
   refine ih (u / 10) (by omega) (by omega) hw fun H' hl => ?_
   rw [obS_some, e2, obI_some, show (0 : Int) - -((u % 10 : Nat) : Int) = ((u % 10 : Nat) : Int) by omega, wrap_of (by omega) (by omega)]
   refine c69p hp (u % 10) (by omega) hl.wf fun H'' hl' => ?_
   have hlen := decDigits_len (u := u / 10) (by omega)
   have hlen2 := decDigits_len (u := u % 10) (by omega)
   rw [itoa_neg (u / 10) (by omega), obS_some, aStr_add (by simp; omega), obS_some]
   have := hQ H'' (hl.trans hl')
   rw [decDigits, dif_neg (by omega)] at this
   rw [show decDigits (u % 10) = [UInt8.ofNat (48 + u % 10)] by rw [decDigits, dif_pos (by omega)]]
   exact this
end
end AM
end Go.Proofs.YtemcmblcogljkaaGreatDoor

namespace Go.Proofs.YtemcmblcogljkaaGreatDoor
namespace AM
open Go
theorem load_someB {H : AH} {h i : Nat} {v : Value} (hl : H.load h i = some v) : ∃ r f st, H.rows.get h = some r ∧ H.fams.get r.root = some f ∧ f.cells.get i = some (v, st) ∧ st ≤ h := by
 unfold AH.load at hl
 split at hl
 ·cases hl
 ·rename_i r hr
  split at hl
  ·cases hl
  ·rename_i f hf
   split at hl
   ·cases hl
   ·rename_i u st hc
    split at hl
    ·rename_i hb
     simp only [Bool.and_eq_true] at hb
     injection hl with hl
     subst hl
     exact ⟨r, f, st, hr, hf, hc, Nat.le_of_ble_eq_true hb.2⟩
    ·cases hl
theorem append_ok {H : AH} (hw : WF H) {sz bytes : Nat} (hsz : 0 < sz) {b : Option Addr} {n c m : Nat} {cs news : List Value} {x : Value} (hs : Sli H sz b n c cs) (hlen : lenOf' x = some m) (hx : srcV H sz m x = some news) (hm : 0 < m) (hnl : news.length = m * sz) (hone : ∀ v ∈ news, oneCell v = true)
  (hb : (n + m) * bytes * 2 ≤ 140737488355328) (hb2 : n + m ≤ 4611686018427387904) :
  ∃ b' H', appendV sz bytes H (.slice b n c) x = some (.slice b' (n + m) (n + m), H') ∧ Sli H' sz b' (n + m) (n + m) (cs ++ news) ∧ Keep (rootB H b) H H' ∧ (∀ g, rootB H' b' g → rootB H b g ∨ H.next ≤ g) ∧ (∃ h i, b' = some ⟨h, i, none⟩) := by
 have hall : (news.all oneCell) = true := List.all_eq_true.2 hone
 have hm0 : Nat.beq m 0 = false := by cases m with | zero => omega | succ m => rfl
 have hcond : (Nat.ble ((n + m) * bytes * 2) 140737488355328 && Nat.ble (n + m) 4611686018427387904 && Nat.blt 0 sz && Nat.beq news.length (m * sz) && news.all oneCell) = true := by
  simp only [ble_of hb, ble_of hb2, blt_of hsz, hnl, Nat.beq_refl, hall, Bool.and_self]
 cases hs with
 | nil =>
  refine ⟨some ⟨H.next, 0, none⟩, H.new sz news, ?_, ?_, (new_le hw sz news).keep, ?_, ⟨_, _, rfl⟩⟩
  ·rw [Nat.zero_add] at hcond
   simp only [appendV, hlen, hx, hm0, Nat.zero_add, hcond]
   rfl
  ·rw [List.nil_append, Nat.zero_add]; exact new_sli H sz m hnl
  ·intro g hg
   simp only [rootB, new_root] at hg
   omega
 | row hr hs hf ho hl hh hn hc =>
  rename_i h i r f
  have hlt := hw.row h r hr
  have hld : H.loadN h i (n * sz) = some cs := by rw [← hn]; exact loadN_of hc
  have hg : H.grow h i (n * sz) news = some
     {next := H.next + 1,
      rows := H.rows.put H.next ⟨r.root, i, i + n * sz + news.length, r.sz⟩,
      fams := H.fams.put r.root { f with tip := H.next, cells := f.cells.putAll (i + n * sz) (news.map fun v => (v, H.next)) } } := by
   simp only [AH.grow, hr, hf, hld, ho, ble_of hl, ble_of hh, hall, Bool.not_false, Bool.and_self]
  refine ⟨some ⟨H.next, i, none⟩, { next := H.next + 1, rows := H.rows.put H.next ⟨r.root, i, i + n * sz + news.length, r.sz⟩, fams := H.fams.put r.root { f with tip := H.next, cells := f.cells.putAll (i + n * sz) (news.map fun v => (v, H.next)) } }, ?_, ?_, ?_, ?_, ⟨_, _, rfl⟩⟩
  ·simp only [appendV, hlen, hx, hm0, hcond, hr, hs, Nat.beq_refl]
   rw [hs] at hg
   simp only [hg]
  ·refine .row (Tr.get_put_same _ _ _) hs (Tr.get_put_same _ _ _) ho (Nat.le_refl i) ?_ ?_ fun j hj => ?_
   ·simp only [hnl]; rw [Nat.add_mul]; omega
   ·rw [List.length_append, hn, hnl, Nat.add_mul]
   ·rw [List.length_append] at hj
    have hbi : Nat.ble i (i + j) = true := ble_of (by omega)
    have hbl : Nat.blt (i + j) (i + n * sz + news.length) = true := blt_of (by omega)
    unfold AH.load
    simp only [Tr.get_put_same, Tr.get_putAll, List.length_map]
    by_cases hlt2 : j < cs.length
    ·rw [if_neg (by omega), List.getElem?_append_left hlt2]
     have hcj := hc j hlt2
     rw [List.getElem?_eq_getElem hlt2] at hcj ⊢
     obtain ⟨r', f', st, k1, k2, k3, k4⟩ := load_someB hcj
     rw [hr] at k1; injection k1 with k1; subst k1
     rw [hf] at k2; injection k2 with k2; subst k2
     simp only [k3, hbi, hbl, ble_of (show st ≤ H.next by omega), Bool.and_self]
    ·rw [if_pos (by omega), List.getElem?_append_right (by omega), show i + j - (i + n * sz) = j - cs.length by omega, List.getElem?_map]
     rw [List.getElem?_eq_getElem (by omega)]
     simp only [Option.map_some, hbi, hbl, ble_of (Nat.le_refl H.next), Bool.and_self]
  ·refine ⟨⟨fun a q hq => ?_, fun a q hq => ?_⟩, Nat.le_succ _, fun a ha => Tr.get_put_other _ _ (by omega), fun a ha hna => Tr.get_put_other _ _ fun e => hna ?_⟩
   ·simp only [Tr.get_put] at hq
    split at hq
    ·injection hq with hq; subst hq; simp only; omega
    ·have := hw.row a q hq; simp only; omega
   ·simp only [Tr.get_put] at hq
    split at hq
    ·rename_i e; subst e; simp only; omega
    ·have := hw.fam a q hq; simp only; omega
   ·subst e; simp [rootB, rootOf, hr]
  ·intro g hg'
   left
   simp only [rootB, rootOf, Tr.get_put_same] at hg'
   simp only [rootB, rootOf, hr]
   exact hg'
theorem src_slice {H : AH} {sz h i m k : Nat} {news : List Value} (hn : news.length = m * sz) (hl : ∀ j, j < news.length → H.load h (i + j) = news[j]?) : srcV H sz m (.slice (some ⟨h, i, none⟩) m k) = some news := by
 simp only [srcV]
 rw [← hn]
 exact loadN_of hl
theorem src_string (H : AH) (l : List UInt8) : srcV H 1 l.length (.string (bs l)) = some (byteVals l) := by
 simp only [srcV, bs_list, List.take_length]
 rfl
end AM
end Go.Proofs.YtemcmblcogljkaaGreatDoor

namespace Go.Proofs.YtemcmblcogljkaaGreatDoor
namespace AM
open Go
open Go.Lib (decDigits itoa nDigits)
open TP
def digs : List UInt8 := [48, 49, 50, 51, 52, 53, 54, 55, 56, 57, 97, 98, 99, 100, 101, 102]
theorem digs_get : ∀ k, k < 16 → digs[k]? = some (hexDig k) := by decide +kernel
theorem idx_dig {k : Nat} (h : k < 16) {kk : IntKind} : idxS (.string (bs digs)) (.int kk (k : Int)) = some (.int .u8 ((hexDig k).toNat : Int)) := by
 unfold idxS
 simp only [decide_eq_true (show (0 : Int) ≤ (k : Int) by omega), bs_list, Int.toNat_natCast, digs_get k h]
theorem hi_nib : ∀ n : Nat, n < 256 → Int.fdiv (n : Int) (2 ^ min (Int.toNat 4) (IntKind.bits .u8)) = ((n / 16 : Nat) : Int) := by decide +kernel
theorem lo_nib : ∀ n : Nat, n < 256 → IntKind.wrap .u8 (BitVec.ofInt (IntKind.bits .u8) (n : Int) &&& BitVec.ofInt (IntKind.bits .u8) 15).toNat = ((n % 16 : Nat) : Int) := by decide +kernel
theorem itoa_len {n : Int} (h0 : -4611686018427387904 < n) (h1 : n < 4611686018427387904) : (itoa n).length ≤ 20 := by
 unfold itoa
 split
 ·have := decDigits_len (u := n.natAbs) (by omega); simp; omega
 ·have := decDigits_len (u := n.toNat) (by omega); omega
theorem spaced_len : ∀ {ns : List Int}, (∀ n ∈ ns, -4611686018427387904 < n ∧ n < 4611686018427387904) → (spaced ns).length ≤ 21 * ns.length
 | [], _ => by simp [spaced]
 | n :: ns, h => by
  have a := itoa_len (h n (by simp)).1 (h n (by simp)).2
  have b := spaced_len (ns := ns) fun x hx => h x (by simp [hx])
  simp only [spaced, List.flatMap_cons, List.length_append, List.length_cons] at b ⊢
  omega
theorem lineOf_snoc (w : List UInt8) (ns : List Int) (n : Int) : lineOf w (ns ++ [n]) = lineOf w ns ++ 32 :: itoa n := by
 simp [lineOf, spaced]
section
variable {pm : Prims}
def ints1 (ns : List Int) : List (List Value) := ns.map fun x => [I x]
theorem ints1_get {ns : List Int} {i : Nat} {x : Int} (h : ns[i]? = some x) : (ints1 ns)[i]? = some [I x] := by simp [ints1, h]
theorem c45 (hp : Only pm) {w : List UInt8} {ns : List Int} (hns : ∀ n ∈ ns, -4611686018427387904 < n ∧ n < 4611686018427387904) (hlen : w.length ≤ 1000000000000) (hnl : ns.length ≤ 1000000000000) {b : Option Addr} {n k : Nat} {H : AH} {Q : Value → AH → Prop} (hw : WF H) (hr : Rd H 1 b n (ints1 ns)) (hQ : ∀ H', Le H H' → Q (.string (bs (lineOf w ns))) H') : OK pm 45 ⟨[.string (bs w), .slice b n k]⟩ H Q := by
 have hn : n = ns.length := by have := hr.1; simpa [ints1] using this
 apply f45_ok hp
 simp only [f45R]
 have key : ∀ d i G, i + d = n → Le H G → f45L0 (OK pm) Q (bs (lineOf w (ns.take i))) b n k (i : Int) G := by
  intro d
  induction d with
  | zero =>
   intro i G hi hg
   apply f45L0_step
   simp only [f45B0]
   rw [decide_eq_false (by omega), ifB_false]
   have := hQ G hg
   rwa [List.take_of_length_le (by omega)]
  | succ d ih =>
   intro i G hi hg
   obtain ⟨x, hix⟩ : ∃ x, ns[i]? = some x := ⟨_, List.getElem?_eq_getElem (by omega)⟩
   obtain ⟨hx0, hx1⟩ := hns x (List.mem_of_getElem? hix)
   obtain ⟨h, j, e1, e2⟩ := (hr.le hw hg).elem (k := k) (ints1_get hix) (kk := .i64)
   have e2 := e2 0 (by omega)
   rw [Nat.add_zero] at e2
   have hl : (lineOf w (ns.take i)).length ≤ 1000000000000 + 21 * 1000000000000 := by
    have := spaced_len (ns := ns.take i) fun m hm => hns m (List.mem_of_mem_take hm)
    simp only [lineOf, List.length_append]
    rw [List.length_take] at this
    omega
   apply f45L0_step
   simp only [f45B0]
   rw [decide_eq_true (by omega), ifB_true, aStr_add (by simp; omega), obS_some, e1, obA_some, e2]
   simp only [List.getElem?_cons_zero, obI_some]
   refine c69 hp hx0 hx1 hg.wf fun G' hg' => ?_
   have hil := itoa_len hx0 hx1
   rw [obS_some, aStr_add (by simp; omega), obS_some, wrap_of (by omega) (by omega)]
   have := ih (i + 1) G' (by omega) (hg.trans hg')
   rw [List.take_add_one, hix, Option.toList_some, lineOf_snoc] at this
   rw [List.append_assoc]
   exact this
 have := key n 0 H (by omega) (Keep.refl hw)
 simpa [lineOf, spaced] using this
def bytes1 (l : List UInt8) : List (List Value) := l.map fun x => [.int .u8 (x.toNat : Int)]
theorem bytes1_get {l : List UInt8} {i : Nat} {x : UInt8} (h : l[i]? = some x) : (bytes1 l)[i]? = some [.int .u8 (x.toNat : Int)] := by simp [bytes1, h]
theorem hexOf_snoc (l : List UInt8) (x : UInt8) : hexOf (l ++ [x]) = hexOf l ++ [hexDig (x.toNat / 16), hexDig (x.toNat % 16)] := by simp [hexOf]
theorem hexOf_len (l : List UInt8) : (hexOf l).length = 2 * l.length := by
 induction l with
 | nil => rfl
 | cons x l ih => simp only [hexOf, List.flatMap_cons, List.length_append, List.length_cons, List.length_nil] at ih ⊢; omega
theorem ofBytes_sli {G : AH} {b : Option Addr} {n k : Nat} {l : List UInt8} (hs : Sli G 1 b n k (byteVals l)) (hb : ∀ a, b = some a → a.spot = none) : ofBytes G (.slice b n k) = some (.string (bs l)) := by
 have hl : n = l.length := by have := hs.len; simp [byteVals] at this; omega
 generalize hcs : byteVals l = cs at hs
 cases hs with
 | nil =>
  have : l = [] := List.length_eq_zero_iff.1 hl.symm
  subst this; rfl
 | row hr hs hf ho hlo hh hn hc =>
  subst hl
  subst hcs
  exact ofBytes_of fun j hj => hc j (by simpa [byteVals] using hj)
theorem c46 (hp : Only pm) {l : List UInt8} (hl : l.length ≤ 1000000000) {b : Option Addr} {n k : Nat} {H : AH} {Q : Value → AH → Prop} (hw : WF H) (hr : Rd H 1 b n (bytes1 l)) (hQ : ∀ H', Le H H' → Q (.string (bs (hexOf l))) H') : OK pm 46 ⟨[.slice b n k]⟩ H Q := by
 have hn : n = l.length := by have := hr.1; simpa [bytes1] using this
 apply f46_ok hp
 simp only [f46R]
 have key : ∀ d i G b' n' k', i + d = n → Le H G → Sli G 1 b' n' k' (byteVals (hexOf (l.take i))) → (∀ g, rootB G b' g → H.next ≤ g) → (∀ a, b' = some a → a.spot = none) → f46L0 (OK pm) Q b n k b' n' k' (i : Int) G := by
  intro d
  induction d with
  | zero =>
   intro i G b' n' k' hi hg hs hroot hspot
   apply f46L0_step
   simp only [f46B0]
   rw [decide_eq_false (by omega), ifB_false, ofBytes_sli hs hspot, obS_some]
   have := hQ G hg
   rwa [List.take_of_length_le (by omega)]
  | succ d ih =>
   intro i G b' n' k' hi hg hs hroot hspot
   obtain ⟨x, hix⟩ : ∃ x, l[i]? = some x := ⟨_, List.getElem?_eq_getElem (by omega)⟩
   have hx : x.toNat < 256 := x.toNat_lt
   obtain ⟨h, j, e1, e2⟩ := (hr.le hw hg).elem (k := k) (bytes1_get hix) (kk := .i64)
   have e2 := e2 0 (by omega)
   rw [Nat.add_zero] at e2
   apply f46L0_step
   simp only [f46B0]
   rw [decide_eq_true (by omega), ifB_true, e1, obA_some, e2]
   simp only [List.getElem?_cons_zero, obI_some]
   rw [hi_nib _ hx, show bs [48, 49, 50, 51, 52, 53, 54, 55, 56, 57, 97, 98, 99, 100, 101, 102] = bs digs from rfl, idx_dig (by omega), obI_some, obA_some, e2]
   simp only [List.getElem?_cons_zero, obI_some]
   rw [lo_nib _ hx, idx_dig (by omega), obI_some, letH_eq]
   have l1 := new_le hg.wf 1 [.int .u8 ((hexDig (x.toNat / 16)).toNat : Int), .int .u8 ((hexDig (x.toNat % 16)).toNat : Int)]
   have hs1 := hs.le hg.wf l1
   have hlen : n' = 2 * (l.take i).length := by have := hs.len; simp [byteVals, hexOf_len] at this; simp; omega
   have hti : (l.take i).length ≤ l.length := by rw [List.length_take]; omega
   obtain ⟨b2, G2, a1, a2, a3, a4, ⟨h2, i2, a5⟩⟩ := append_ok l1.wf (sz := 1) (bytes := 1) (by omega) hs1 (x := .slice (some ⟨G.next, 0, none⟩) 2 2) (m := 2) (news := [.int .u8 ((hexDig (x.toNat / 16)).toNat : Int), .int .u8 ((hexDig (x.toNat % 16)).toNat : Int)]) rfl (src_slice rfl fun j _ => by rw [Nat.zero_add, new_load]) (by omega) rfl (by simp [oneCell]) (by omega) (by omega)
   rw [a1, obG_some]
   have hroot1 : ∀ g, rootB (G.new 1 [.int .u8 ((hexDig (x.toNat / 16)).toNat : Int), .int .u8 ((hexDig (x.toNat % 16)).toNat : Int)]) b' g → H.next ≤ g := fun g hh => hroot g ((rootB_keep hg.wf l1 hs g).1 hh)
   have g2 : Le H G2 := Keep.trans (hg.trans l1) a3 fun g hgl hh => by have := hroot1 g hh; omega
   have e3 : (G.new 1 [.int .u8 ((hexDig (x.toNat / 16)).toNat : Int), .int .u8 ((hexDig (x.toNat % 16)).toNat : Int)]).load h j = some (.int .u8 (x.toNat : Int)) := l1.load hg.wf (by rw [e2]; rfl)
   rw [e3, obE1_int, obE1_int, wrap_of (by omega) (by omega)]
   refine ih (i + 1) G2 b2 _ _ (by omega) g2 ?_ (fun g hh => ?_) (fun a ha => ?_)
   ·rw [List.take_add_one, hix, Option.toList_some, hexOf_snoc]
    simpa [byteVals] using a2
   ·rcases a4 g hh with hh | hh
    ·exact hroot1 g hh
    ·have := hg.next; simp only [new_next] at hh; omega
   ·rw [a5] at ha; injection ha with ha; subst ha; rfl
 exact key n 0 H none 0 0 (by omega) (Keep.refl hw) (by simpa [hexOf, byteVals] using Sli.nil) (fun g hh => hh.elim) (fun a ha => by cases ha)
end
end AM
end Go.Proofs.YtemcmblcogljkaaGreatDoor

namespace Go.Proofs.YtemcmblcogljkaaGreatDoor
namespace AM
open Go
open Go.Lib (decDigits itoa nDigits)
open TP
theorem bs_extract (s : List UInt8) (a b : Nat) : (bs s).extract a b = bs ((s.drop a).take (b - a)) := by
 apply ByteArray.ext
 simp [bs, ByteArray.data_extract, List.extract_eq_drop_take]
theorem slice_eq {s : List UInt8} {a b : Nat} (h : a ≤ b) (h' : b ≤ s.length) : sliceS (.string (bs s)) (some (.int .i64 (a : Int))) (some (.int .i64 (b : Int))) = some (.string (bs ((s.drop a).take (b - a)))) := by
 have hz : (bs s).size = s.length := rfl
 have c1 : cutAtV (bs s).size (bs s).size (some (.int .i64 (b : Int))) = some b := by
  unfold cutAtV
  simp only [decide_eq_true (show (0 : Int) ≤ (b : Int) by omega), decide_eq_true (show (b : Int) ≤ ((bs s).size : Int) by rw [hz]; omega), Bool.and_self, Int.toNat_natCast]
 have c2 : cutAtV 0 b (some (.int .i64 (a : Int))) = some a := by
  unfold cutAtV
  simp only [decide_eq_true (show (0 : Int) ≤ (a : Int) by omega), decide_eq_true (show (a : Int) ≤ (b : Int) by omega), Bool.and_self, Int.toNat_natCast]
 unfold sliceS
 simp only [c1, c2, bs_extract]
theorem idx_byte {s : List UInt8} {i : Nat} {x : UInt8} (h : s[i]? = some x) {k : IntKind} : idxS (.string (bs s)) (.int k (i : Int)) = some (.int .u8 (x.toNat : Int)) := by
 unfold idxS
 simp only [decide_eq_true (show (0 : Int) ≤ (i : Int) by omega), bs_list, Int.toNat_natCast, h]
def strs (L : List (List UInt8)) : List Value := L.map fun p => .string (bs p)
section
variable {pm : Prims}
theorem c37 (hp : Only pm) {s : List UInt8} {c : UInt8} (hl : s.length ≤ 1000000000) {H : AH} {Q : Value → AH → Prop} (hw : WF H)
  (hQ : ∀ H' b, Le H H' → Sli H' 1 b (cutAt c s).length (cutAt c s).length (strs (cutAt c s)) → (∀ g, rootB H' b g → H.next ≤ g) → (∃ h i, b = some ⟨h, i, none⟩) → Q (.slice b (cutAt c s).length (cutAt c s).length) H') : OK pm 37 ⟨[.string (bs s), .int .u8 (c.toNat : Int)]⟩ H Q := by
 apply f37_ok hp
 simp only [f37R]
 have fin : ∀ G b n k, Le H G → Sli G 1 b n k (strs (cutAt c s)) → n = k → (∀ g, rootB G b g → H.next ≤ g) → (∃ h i, b = some ⟨h, i, none⟩) → f37L0 (OK pm) Q (bs s) (c.toNat : Int) b n k ((s.length + 1 : Nat) : Int) ((s.length + 1 : Nat) : Int) G := by
  intro G b n k hg hs hnk hroot hb
  apply f37L0_step
  simp only [f37B0]
  have hz : (bs s).size = s.length := rfl
  rw [decide_eq_false (by rw [hz]; omega), ifB_false]
  have hn : n = (cutAt c s).length := by have := hs.len; simp [strs] at this; omega
  subst hnk
  subst hn
  exact hQ G b hg hs hroot hb
 have key : ∀ d i at' (P : List (List UInt8)) G b n, i + d = s.length → at' ≤ i → Le H G → n = P.length → P.length ≤ i → Sli G 1 b n n (strs P) → (∀ g, rootB G b g → H.next ≤ g) → cutAt c s = P ++ cutAt c (s.drop at') → c ∉ (s.drop at').take (i - at') →
   f37L0 (OK pm) Q (bs s) (c.toNat : Int) b n n (at' : Int) (i : Int) G := by
  intro d
  induction d with
  | zero =>
   intro i at' P G b n hi hat hg hn hPi hs hroot hcut hfree
   apply f37L0_step
   simp only [f37B0]
   have hz : (bs s).size = s.length := rfl
   rw [decide_eq_true (by rw [hz]; omega), ifB_true, show ((i : Int) == ((bs s).size : Int)) = true by rw [hz]; simp; omega]
   simp only [ifB_true, join2_J]
   rw [slice_eq hat (by omega), obS_some, letH_eq]
   have l1 := new_le hg.wf 1 [.string (bs ((s.drop at').take (i - at')))]
   obtain ⟨b2, G2, a1, a2, a3, a4, a5⟩ := append_ok l1.wf (sz := 1) (bytes := 16) (by omega) (hs.le hg.wf l1) (x := .slice (some ⟨G.next, 0, none⟩) 1 1) (m := 1) (news := [.string (bs ((s.drop at').take (i - at')))]) rfl (src_slice rfl fun j _ => by rw [Nat.zero_add, new_load]) (by omega) rfl (by simp [oneCell]) (by omega) (by omega)
   rw [a1, obG_some, f37J0_eq]
   simp only [f37K0]
   rw [wrap_of (by omega) (by omega)]
   have hroot1 : ∀ g, rootB (G.new 1 [.string (bs ((s.drop at').take (i - at')))]) b g → H.next ≤ g := fun g hh => hroot g ((rootB_keep hg.wf l1 hs g).1 hh)
   have g2 : Le H G2 := Keep.trans (hg.trans l1) a3 fun g hgl hh => by have := hroot1 g hh; omega
   have hfin : cutAt c s = P ++ [(s.drop at').take (i - at')] := by
    rw [hcut]
    congr 1
    have e : (s.drop at').take (i - at') = s.drop at' := List.take_of_length_le (by simp; omega)
    rw [e] at hfree ⊢
    exact cutAt_free _ hfree
   have := fin G2 b2 (n + 1) (n + 1) g2 (by rw [hfin]; simpa [strs] using a2) rfl (fun g hh => ?_) a5
   ·rw [show ((s.length + 1 : Nat) : Int) = (i : Int) + 1 by omega] at this
    exact this
   ·rcases a4 g hh with hh | hh
    ·exact hroot1 g hh
    ·have := hg.next; simp only [new_next] at hh; omega
  | succ d ih =>
   intro i at' P G b n hi hat hg hn hPi hs hroot hcut hfree
   obtain ⟨x, hix⟩ : ∃ x, s[i]? = some x := ⟨_, List.getElem?_eq_getElem (by omega)⟩
   have hdrop : s.drop i = x :: s.drop (i + 1) := by
    rw [List.drop_eq_getElem_cons (by omega)]
    congr 1
    have := List.getElem?_eq_some_iff.1 hix
    exact this.2
   have hsplit : s.drop at' = (s.drop at').take (i - at') ++ s.drop i := by
    conv => lhs; rw [← List.take_append_drop (i - at') (s.drop at')]
    rw [List.drop_drop, show at' + (i - at') = i by omega]
   apply f37L0_step
   simp only [f37B0]
   have hz : (bs s).size = s.length := rfl
   rw [decide_eq_true (by rw [hz]; omega), ifB_true, show ((i : Int) == ((bs s).size : Int)) = false by rw [hz]; simp; omega]
   simp only [ifB_false, idx_byte hix, obI_some, join2_J]
   refine ifB_intro (fun hc => ?_) (fun hc => ?_)
   ·have hxc : x = c := by
     have : (x.toNat : Int) = (c.toNat : Int) := by simpa using hc
     exact UInt8.toNat_inj.1 (by omega)
    subst hxc
    rw [slice_eq hat (by omega), obS_some, letH_eq]
    have l1 := new_le hg.wf 1 [.string (bs ((s.drop at').take (i - at')))]
    obtain ⟨b2, G2, a1, a2, a3, a4, a5⟩ := append_ok l1.wf (sz := 1) (bytes := 16) (by omega) (hs.le hg.wf l1) (x := .slice (some ⟨G.next, 0, none⟩) 1 1) (m := 1) (news := [.string (bs ((s.drop at').take (i - at')))]) rfl (src_slice rfl fun j _ => by rw [Nat.zero_add, new_load]) (by omega) rfl (by simp [oneCell]) (by omega) (by omega)
    rw [a1, obG_some, f37J0_eq]
    simp only [f37K0]
    rw [wrap_of (by omega) (by omega)]
    have hroot1 : ∀ g, rootB (G.new 1 [.string (bs ((s.drop at').take (i - at')))]) b g → H.next ≤ g := fun g hh => hroot g ((rootB_keep hg.wf l1 hs g).1 hh)
    have g2 : Le H G2 := Keep.trans (hg.trans l1) a3 fun g hgl hh => by have := hroot1 g hh; omega
    refine ih (i + 1) (i + 1) (P ++ [(s.drop at').take (i - at')]) G2 b2 (n + 1) (by omega) (Nat.le_refl _) g2 (by simp; omega) (by simp; omega) (by simpa [strs] using a2) (fun g hh => ?_) ?_ ?_
    ·rcases a4 g hh with hh | hh
     ·exact hroot1 g hh
     ·have := hg.next; simp only [new_next] at hh; omega
    ·rw [hcut, List.append_assoc]
     congr 1
     rw [hsplit, hdrop, cutAt_append _ _ hfree]
     congr 1
     rw [← hdrop, ← hsplit]
    ·rw [Nat.sub_self, List.take_zero]; simp
   ·have hxc : x ≠ c := by
     intro e; subst e
     simp at hc
    rw [f37J0_eq]
    simp only [f37K0]
    rw [wrap_of (by omega) (by omega)]
    refine ih (i + 1) at' P G b n (by omega) (by omega) hg hn (by omega) hs hroot hcut ?_
    rw [show i + 1 - at' = (i - at') + 1 by omega, List.take_add_one, List.getElem?_drop, show at' + (i - at') = i by omega, hix]
    intro hm
    rcases List.mem_append.1 hm with hm | hm
    ·exact hfree hm
    ·simp only [Option.toList_some, List.mem_singleton] at hm
     exact hxc hm.symm
 exact key s.length 0 0 [] H none 0 (by omega) (Nat.le_refl _) (Keep.refl hw) rfl (Nat.le_refl _) .nil (fun g hh => hh.elim) (by simp) (by simp)
end
end AM
end Go.Proofs.YtemcmblcogljkaaGreatDoor

