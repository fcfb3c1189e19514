/- What any text means: the law TextRaw answers true at every text. No condition. -/
import Derived.Test.YtemcmblcogljkaaGreatDoorPc
import Derived.Test.YtemcmblcogljkaaGreatDoorCk
import Derived.Test.YtemcmblcogljkaaGreatDoorPd
import Derived.ChangeMaps5
set_option linter.all false
set_option linter.unusedSimpArgs false
set_option linter.unusedVariables false
namespace Go.Proofs.YtemcmblcogljkaaGreatDoor
namespace AM
open Go Go.RowKit Go.ChangeShapes Go.WideShapes Go.ChangeAt
open YtemcmblcogljkaaGreatDoor
set_option linter.unusedSimpArgs false

theorem wf0 : WF AH0 where
  row h r e := by
    have e : (Tr.leaf : Tr Row).get h = some r := e
    rw [Tr.get_leaf] at e; cases e
  fam g f e := by
    have e : (Tr.leaf : Tr Fam).get g = some f := e
    rw [Tr.get_leaf] at e; cases e
theorem raw_calls (s : ByteArray) (W : World) (hB : Base Tryz.prog W) : Calls Tryz.prog 3 #[.string s] W fun e w' => e = .returned (.bool true) ∧ Below W.heap.size W w' := by
  obtain ⟨k, v, H', h1, h2⟩ := c3 (s := s.data.toList) wf0 (Q := fun v _ => v = .bool true) fun _ _ => rfl
  subst h2
  exact closed (args := [.string s]) W (ok_pmT hB) h1 rfl rfl

set_option maxRecDepth 100000 in
theorem raw_lifted (os : Os) (started : os.Started) (H : Type) (enc : TypeId × Value → H) :
    ReturnsInHanded {} Tryz.checked os 3 .any (fun w args => (Rows.textRawSpec.pre enc Tryz.prog Tryz.f3 [] false w args ∧ laidMetH Tryz.prog Rows.textRawRow.laid w) ∧ sizedMet enc Tryz.prog Tryz.f3 (OpenSpec.ofChange Rows.textRawSpec) false w args)
      (Rows.textRawSpec.post enc Tryz.prog Tryz.f3 false true false false) := by
  refine returns_shaped (C := Tryz.checked) (X := fun w _ => laidMetH Tryz.prog Rows.textRawRow.laid w) (fun _ _ _ hh h => h.of_heap hh) ownT started (by kernel_rfl) Tryz.func3
    (ChangeSpec.witness_shaped (enc := enc) (C := Tryz.checked) (os := os) (X := fun w _ => laidMetH Tryz.prog Rows.textRawRow.laid w) false (World.laidAll Tryz.prog os Rows.textRawRow.laid) #[.string ByteArray.empty] 8 (World.laidAll_os _ _ _)
      (World.shaped_of_ZipB (by kernel_rfl) (by kernel_rfl)) (by kernel_rfl) (by kernel_rfl) (by kernel_rfl) (laid_world os _)) ?_
  intro W base args ds gs before hval0 hW _ hL hsh
  have hval : ∀ (j : Nat) t v, Tryz.f3.params[j]? = some t → args[j]? = some v → Value.okWide Tryz.prog W .any base t v := hval0
  have hW' := hW
  obtain ⟨p, q, hA0, hV, rfl, _, _⟩ := hW
  have hA : DataW.TrodAll enc Tryz.prog W 0 (fun _ => true) true Tryz.f3.params.toList args.toList ds p := hA0
  rw [Tryz.params3] at hA hval
  obtain ⟨v0, d0, rfl, rfl, h0⟩ := trodAll_one hA
  obtain ⟨rfl, rfl⟩ := trodVars_none hV
  obtain ⟨s, rfl, rfl, rfl, hs⟩ := ChangeMaps.open_string Tryz.underlying9 (hval 0 9 v0 rfl rfl) h0
  refine (raw_calls s W (base_of hL hsh)).mono fun e W' ⟨he, hb⟩ => ?_
  subst he
  exact ⟨_, rfl, _, _, _, [], [], [], hW', trodAll_mk1 (shut_bool Tryz.underlying4 true), trodAll_mk1 (ChangeMaps.shut_string Tryz.underlying9 hs), rfl, hb.frame _, fun h => by cases h⟩
end AM

open AM in
theorem textRaw_holds : YtemcmblcogljkaaGreatDoor.Rows.TextRawSaid :=
  OpenClaim.holds_of_wide 3 Tryz.f3 rfl rfl rfl rfl rfl rfl rfl ⟨rfl, rfl, rfl, rfl, rfl⟩ rfl rfl rfl rfl rfl (by kernel_rfl) Tryz.func3 (by kernel_rfl)
    (of_decide_eq_true (by kernel_rfl)) (by unfold Func.isWrapper; rw [if_neg (of_decide_eq_false (by kernel_rfl))]; exact ⟨rfl, rfl⟩)
    (fun os started H enc _ => raw_lifted os started H enc)
theorem textRaw_plain (f : FuncId) (fn : Func) (hf : YtemcmblcogljkaaGreatDoor.Tryz.pinned.checked.prog.funcNamed "radiolink/radiolinklaw45.TextRaw" = some f) (hfn : YtemcmblcogljkaaGreatDoor.Tryz.pinned.checked.prog.funcs[f]? = some fn) :
    true = YtemcmblcogljkaaGreatDoor.Tryz.pinned.checked.prog.looks [] ∧ ∀ (j : Nat) t, fn.params[j]? = some t → YtemcmblcogljkaaGreatDoor.Tryz.pinned.checked.prog.wantsStandIn t = false := by
  obtain rfl : f = 3 := Option.some.inj ((show Tryz.prog.funcNamed "radiolink/radiolinklaw45.TextRaw" = some 3 by kernel_rfl).symm.trans hf) |>.symm
  obtain rfl : fn = Tryz.f3 := (Option.some.inj (Tryz.func3.symm.trans hfn)).symm
  refine ⟨by kernel_rfl, fun j t ht => ?_⟩
  rw [Tryz.params3] at ht
  obtain rfl : t = 9 := by simpa using Array.mem_of_getElem? ht
  exact (show Tryz.prog.wantsStandIn 9 = false by kernel_rfl)
theorem textRaw_card : YtemcmblcogljkaaGreatDoor.Rows.TextRawCardSaid :=
  Claim7.holds_tied_plain_at .later [] _ _ _ _ textRaw_holds (fun _ h => by cases h) (by kernel_rfl) (fun _ h => by cases h) YtemcmblcogljkaaGreatDoor.textRaw_row_tie rfl ⟨rfl, rfl⟩ (by kernel_rfl) rfl textRaw_plain (by kernel_rfl)
end Go.Proofs.YtemcmblcogljkaaGreatDoor

