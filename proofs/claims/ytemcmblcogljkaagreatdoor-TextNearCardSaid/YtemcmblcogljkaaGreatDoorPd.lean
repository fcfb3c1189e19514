/- What the rows' lists say of the package variables. A world that meets the rows' lists; how a row is closed. -/
import Derived.Test.YtemcmblcogljkaaGreatDoorPa
import Derived.Test.YtemcmblcogljkaaGreatDoorRows
import Derived.LaidLaws
import Derived.LaidSub
import Derived.HandedShaped
import Derived.Shelf.Vars
import Derived.Lib.LaidTab
import Derived.Test.YtemcmblcogljkaaGreatDoorTie
import Derived.Test.YtemcmblcogljkaaGreatDoorCards
import Derived.ProofKit
import Derived.OpenShut
import Derived.LaidMore
import Derived.Lay
import Derived.MakeChecks
import Derived.SevenTiedAt
import Derived.Stop.Joined
set_option linter.all false
set_option linter.unusedSimpArgs false
set_option linter.unusedVariables false
namespace Go.Proofs.YtemcmblcogljkaaGreatDoor
namespace AM
open Go Go.RowKit
open YtemcmblcogljkaaGreatDoor
theorem gTab : Tryz.prog.globalNamed "internal/strconv.uint64pow10" = some 1 := by kernel_rfl
theorem gEs : Tryz.prog.globalNamed "strconv.ErrSyntax" = some 4 := by kernel_rfl
theorem gEr : Tryz.prog.globalNamed "strconv.ErrRange" = some 5 := by kernel_rfl
theorem laid_tab {W : World} (h : laidMetH Tryz.prog Rows.textRawRow.laid W) : Lib.TabIs Tryz.prog W "internal/strconv.uint64pow10" .u64 Lib.pow10Tab := by
 have h1 := h.filter fun x => x.1 == "internal/strconv.uint64pow10"
 have e : (Rows.textRawRow.laid.filter fun x => x.1 == "internal/strconv.uint64pow10") = [("internal/strconv.uint64pow10", Rows.laid_internal_strconv_uint64pow10)] := by kernel_rfl
 rw [e] at h1
 exact Lib.tabIs_of_head (rest := []) gTab (t := 213) (e := 199) (n := 20) (by kernel_rfl) (by kernel_rfl) (by kernel_rfl) (by kernel_rfl) (by kernel_rfl) h1
theorem laid_err {W : World} {name : String} {d : DataW Unit} {nm : String} {d' : DataW Unit} {g : Nat} (hd' : d = .iface nm d') (hg : Tryz.prog.globalNamed name = some g) (hty : (Tryz.prog.globals[g]?).map (·.type) = some 112)
  (hu : ∃ ms, Tryz.prog.underlying 112 = some (.interface ms)) (h : laidMet Tryz.prog [(name, d)] W) : ∃ tp p, W.var? Tryz.prog name = some #[.iface tp p] := by
 obtain ⟨ps, ⟨g', t', cs, fuel, p, q, hg', ht', hvar, hd, _, _⟩, _⟩ := h
 obtain rfl := Option.some.inj (hg.symm.trans hg')
 obtain rfl := Option.some.inj (hty.symm.trans ht')
 obtain ⟨ms, hu⟩ := hu
 subst hd'
 obtain ⟨f1, u, v, e1, _⟩ := iface_of_trod hu hd
 refine ⟨u, v, ?_⟩
 rw [hvar]
 obtain ⟨l⟩ := cs
 simp only at e1
 rw [e1]
theorem laid_es {W : World} (h : laidMetH Tryz.prog Rows.textRawRow.laid W) : ∃ tp p, W.var? Tryz.prog "strconv.ErrSyntax" = some #[.iface tp p] := by
 have h1 := h.filter fun x => x.1 == "strconv.ErrSyntax"
 have e : (Rows.textRawRow.laid.filter fun x => x.1 == "strconv.ErrSyntax") = [("strconv.ErrSyntax", Rows.laid_strconv_ErrSyntax)] := by kernel_rfl
 rw [e] at h1
 exact laid_err rfl gEs (by kernel_rfl) ⟨_, Tryz.underlying112⟩ h1
theorem laid_er {W : World} (h : laidMetH Tryz.prog Rows.textRawRow.laid W) : ∃ tp p, W.var? Tryz.prog "strconv.ErrRange" = some #[.iface tp p] := by
 have h1 := h.filter fun x => x.1 == "strconv.ErrRange"
 have e : (Rows.textRawRow.laid.filter fun x => x.1 == "strconv.ErrRange") = [("strconv.ErrRange", Rows.laid_strconv_ErrRange)] := by kernel_rfl
 rw [e] at h1
 exact laid_err rfl gEr (by kernel_rfl) ⟨_, Tryz.underlying112⟩ h1
theorem base_of {W : World} (h : laidMetH Tryz.prog Rows.textRawRow.laid W) (hs : W.ShapedOpen Tryz.prog) : Base Tryz.prog W :=
 ⟨Go.Proofs.cell_of_shapedOpen_int (zero := #[.int .i64 0]) (t := 3) hs (of_decide_eq_true (by kernel_rfl)) (by kernel_rfl) rfl (by kernel_rfl) (by kernel_rfl) Tryz.underlying3, laid_tab h, laid_es h, laid_er h⟩
end AM
end Go.Proofs.YtemcmblcogljkaaGreatDoor

namespace Go.Proofs.YtemcmblcogljkaaGreatDoor
namespace AM
open Go Go.RowKit Go.ChangeShapes Go.WideShapes Go.ChangeAt
open YtemcmblcogljkaaGreatDoor
theorem ownT : ownKnob Tryz.prog.godebug = none := by kernel_rfl
theorem returns_shaped {H : Type} {enc : TypeId × Value → H} {a : Assume} {C : Checked} {os : Os} {f : FuncId} {fn : Func} {s : ChangeSpec} {conds : List PathCond} {apart fresh handsOn again : Bool} {X : World → Array Value → Prop}
  (hX : ∀ (w w' : World) (args : Array Value), w.heap = w'.heap → X w args → X w' args)
  (own : ownKnob C.prog.godebug = none) (started : os.Started) (noInit : C.prog.inits.idxOf? f = none) (hfn : C.prog.funcs[f]? = some fn)
  (witness : ∃ (w : World) (tape : Tape) (i : Input), w.os = os ∧ (w.forCall tape i).Shaped C.prog ∧ i.vars = [] ∧ Input.okWide C.prog (w.forCall tape i) .any w.heap.size f i ∧
   ((s.pre enc C.prog fn conds apart (w.forCall tape i).memory i.args ∧ X (w.forCall tape i).memory i.args) ∧ sizedMet enc C.prog fn (OpenSpec.ofChange s) apart (w.forCall tape i).memory i.args) ∧ a.holds C.prog (lone (Frame.enter C.prog f i.args .normal) [] (w.forCall tape i)))
  (contract : ∀ (W : World) (base : Nat) (args : Array Value) (ds gs : List (DataW H)) (before : List MemPlace),
   (∀ (j : Nat) t v, fn.params[j]? = some t → args[j]? = some v → Value.okWide C.prog W .any base t v) →
   DataW.Whole enc C.prog fn.params.toList s.vars apart W args.toList ds gs before →
   (DataW.weightsEach C.prog (fn.params.toList ++ s.plain.varTypes C.prog) (ds ++ gs)).all (· ≤ reachBytes) = true → X W args → W.ShapedOpen C.prog →
   Calls C.prog f args W fun e W' => ∃ v, e = .returned v ∧ s.post enc C.prog fn apart fresh handsOn again W args v W') :
  ReturnsInHanded a C os f .any (fun w args => (s.pre enc C.prog fn conds apart w args ∧ X w args) ∧ sizedMet enc C.prog fn (OpenSpec.ofChange s) apart w args) (s.post enc C.prog fn apart fresh handsOn again) := by
 refine returnsInHanded_of_calls own started noInit witness ?_
 intro w tape i _ hsh _ hok hpre _
 obtain ⟨_, _, _, fn', hfn', _, _, _, _, hval⟩ := hok
 have e : fn' = fn := Option.some.inj (hfn'.symm.trans hfn)
 subst e
 obtain ⟨⟨⟨ds, gs, before, hw, hc⟩, hx⟩, hz⟩ := hpre
 have hw' := DataW.Whole.of_heap (w' := w.forCall tape i) (by rfl) hw
 refine (contract (w.forCall tape i) w.heap.size i.args ds gs before hval hw' (hz.weights hw) (hX _ _ _ (by rfl) hx) hsh).mono fun e W' ⟨v, he, hp⟩ => ?_
 subst he
 exact ChangeSpec.post_blind hp
theorem laid_world (os : Os) (args : Array Value) : laidMetH Tryz.prog Rows.textRawRow.laid ((World.laidAll Tryz.prog os Rows.textRawRow.laid).forCall (fun _ _ => 0) ⟨#[], args, []⟩).memory := by
 rw [MakeChecks.laidMetH_plain _ _ _ (by kernel_rfl)]
 exact laidMet_laidAll _ (by kernel_rfl) (by kernel_rfl)
end AM
end Go.Proofs.YtemcmblcogljkaaGreatDoor

