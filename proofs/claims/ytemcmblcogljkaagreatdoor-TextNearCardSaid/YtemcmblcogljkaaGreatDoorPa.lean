/- The library's functions, as the abstract machine has them, stand for the library's own: what all of them lean on. Contracts of the library at this program, laid out of the shelf. -/
import Derived.Test.YtemcmblcogljkaaGreatDoorSg
import Derived.Test.YtemcmblcogljkaaGreatDoorCh
import Derived.Below
import Derived.Lib.LaidTab
import Derived.Lib.Split
import Derived.Shelf.Strings.Builder1
import Derived.Shelf.Strings.Builder2
import Derived.Shelf.Strings.OnBuilder
import Derived.Shelf.Small.Strs
import Derived.Shelf.Small.Wraps
import Derived.Shelf.Strings.BuilderF
import Derived.Shelf.Strings.BuilderK
import Derived.Shelf.Strconv.Atoi
import Derived.Shelf.Strconv.Itoa0
import Derived.Shelf.Strconv.Itoa1
import Derived.Shelf.LaysM
import Derived.Shelf.Strconv.Itoa2
import Derived.Shelf.Strconv.Itoa3
import Derived.Shelf.Strconv.AtoiErrFast
import Derived.Shelf.Strconv.ParseIntEmpty
import Derived.Shelf.Strconv.AtoiFail
import Derived.Shelf.Strconv.Clone
import Derived.Shelf.Strconv.SyntaxError
import Derived.Shelf.LaysC
import Derived.Shelf.Strconv.ToError
import Derived.Shelf.Strconv.Lower
import Derived.Shelf.Strconv.ParseUint10
import Derived.Shelf.Strconv.ParseUint10Empty
import Derived.Shelf.Strconv.ParseUint10Any
import Derived.Shelf.Strconv.ParseInt10
import Derived.Shelf.Strconv.AtoiLong
import Derived.Shelf.Strconv.AtoiInnerAll
import Derived.Shelf.Strconv.RangeError
import Derived.Shelf.Strconv.ToErrorRange
import Derived.Shelf.Strconv.AtoiAll
import Derived.Shelf.Strconv.ErrVarAll
import Derived.Shelf.Strings.Search1
import Derived.Shelf.Strings.Search2
import Derived.Shelf.Strings.Search3
import Derived.Shelf.Strings.Cut
import Derived.Shelf.Strings.Count
import Derived.Shelf.Strings.Shaped
import Derived.Shelf.Strings.Split
import Derived.Shelf.Strings.SplitShaped
import Derived.Shelf.Unicode.DecodeSlow
import Derived.Test.YtemcmblcogljkaaGreatDoorProg
set_option linter.all false
set_option linter.unusedSimpArgs false
set_option linter.unusedVariables false
namespace Go.Proofs.YtemcmblcogljkaaGreatDoor
namespace AM
open Go Go.RowKit
open Go.Lib (decDigits itoa nDigits atoiAll atoiSat)
open TP
abbrev oldB (w0 : World) : Nat → Prop := fun c => c < w0.heap.size
structure Base (P : Program) (w0 : World) : Prop where
 mx : ∃ m, w0.cell? ⟨0, 0, none⟩ = some (.int .i64 m)
 tab : Lib.TabIs P w0 "internal/strconv.uint64pow10" .u64 Lib.pow10Tab
 es : ∃ tp p, w0.var? P "strconv.ErrSyntax" = some #[.iface tp p]
 er : ∃ tp p, w0.var? P "strconv.ErrRange" = some #[.iface tp p]
section
variable {P : Program} {pr : Nat → Prop} {w0 : World} {ρ : Rho} {H : AH} {w w' : World}
theorem Rel.below (hr : Rel pr w0 ρ H w) (hb : Below w.heap.size w w') : Ext ρ H w ρ H w' ∧ Rel pr w0 ρ H w' := by
 have hlt : ∀ {c : Nat} {o : Obj}, w.heap[c]? = some o → w'.heap[c]? = some o := fun {c o} h => by
  rw [hb.block c (Array.getElem?_eq_some_iff.1 h).1]; exact h
 have hroom : ∀ c off n, Room w c off n → Room w' c off n := fun c off n ⟨a, e, f, h1, h2⟩ => ⟨a, e, f, hlt h1, h2⟩
 have hvr : ∀ {v v' : Value}, VR ρ H w v v' → VR ρ H w' v v' := fun h => h.mono (fun _ _ h => h) (fun _ _ _ _ h => h) hroom
 refine ⟨⟨fun _ _ h => h, fun h c s h1 h2 => (by rw [h2] at h1; cases h1), fun h x r h1 h2 => (by rw [h2] at h1; cases h1), Nat.le_refl _, fun _ _ => rfl, fun q f h _ => ⟨f, h, rfl⟩, fun _ _ _ => rfl, hb.size,
  fun c a e f h => ⟨a, f, hlt h, rfl⟩, fun c hc _ => hb.block c hc⟩, ⟨hr.lt, ?_, ?_, hr.apart, ?_, hr.prlt, Nat.le_trans hr.low hb.size, hb.os.trans hr.os, hb.tape.trans hr.tape, hb.output.trans hr.output⟩⟩
 ·intro h c s hx
  obtain ⟨r, f, arr, e, fr, h1, h2, h3, h4⟩ := hr.row h c s hx
  exact ⟨r, f, arr, e, fr, h1, h2, hlt h3, h4⟩
 ·intro h c s i v hx hl
  obtain ⟨v', k1, k2⟩ := hr.cell h c s i v hx hl
  refine ⟨v', ?_, hvr k2⟩
  rw [← k1]
  exact hb.cell (hr.blk_lt hx)
 ·intro d hd
  rw [hb.block d (Nat.lt_of_lt_of_le (hr.prlt d hd) hr.low)]
  exact hr.old d hd
theorem Rel.oldCell (hr : Rel (oldB w0) w0 ρ H w) {a : Addr} {v : Value} (h : w0.cell? a = some v) : w.cell? a = some v := by
 by_cases hc : a.block < w0.heap.size
 ·rw [World.cell?_of_block (w := w0) (hr.old a.block hc)]; exact h
 ·exfalso
  have : w0.heap[a.block]? = none := Array.getElem?_eq_none (by omega)
  unfold World.cell? at h
  rw [this] at h
  cases h
theorem Rel.oldVar (hr : Rel (oldB w0) w0 ρ H w) {n : String} {cs : Array Value} (h : w0.var? P n = some cs) : w.var? P n = some cs := by
 unfold World.var? at h ⊢
 obtain ⟨g, hg, h2⟩ := Option.bind_eq_some_iff.1 h
 rw [hg]
 simp only [Option.bind_some]
 by_cases hc : g < w0.heap.size
 ·rw [hr.old g hc]; exact h2
 ·rw [Array.getElem?_eq_none (by omega)] at h2; cases h2
theorem Base.at (hb : Base P w0) (hr : Rel (oldB w0) w0 ρ H w) : Base P w :=
 ⟨let ⟨m, h⟩ := hb.mx; ⟨m, hr.oldCell h⟩, hr.oldVar hb.tab, let ⟨a, b, h⟩ := hb.es; ⟨a, b, hr.oldVar h⟩, let ⟨a, b, h⟩ := hb.er; ⟨a, b, hr.oldVar h⟩⟩
end
def PrimOK (P : Program) (w0 : World) (f : FuncId) (p : Array Value → AH → Option (Value × AH)) : Prop :=
 ∀ (args : Array Value) (H : AH) (v : Value) (H' : AH), p args H = some (v, H') → ∀ (ρ : Rho) (w : World) (args' : Array Value), Rel (oldB w0) w0 ρ H w → VRs ρ H w args.toList args'.toList →
  Calls P f args' w fun e w' => ∃ ρ' v', e = .returned v' ∧ Ext ρ H w ρ' H' w' ∧ Rel (oldB w0) w0 ρ' H' w' ∧ VR ρ' H' w' v v'
theorem args_flat {ρ : Rho} {H : AH} {w : World} {l : List Value} {args' : Array Value} (h : VRs ρ H w l args'.toList) (hf : flatL l = true) : args' = ⟨l⟩ := by
 have := h.flat hf
 cases args' with | mk l' => simp only at this; rw [this]
theorem splitB_list (sep : ByteArray) : ∀ (k : Nat) (s : ByteArray), (Lib.splitB sep 0 k s).map (fun b => b.data.toList) = Lib.splitK sep.data.toList 0 k s.data.toList
 | 0, s => rfl
 | k + 1, s => by
  unfold Lib.splitB Lib.splitK
  have e : Lib.indexB s sep = Lib.index s.data.toList sep.data.toList := rfl
  rw [e]
  split
  ·rfl
  ·rw [List.map_cons, splitB_list sep k]
   have h1 : ∀ a b, (s.extract a b).data.toList = (s.data.toList.take b).drop a := fun a b => by
    rw [ByteArray.data_extract]; simp [List.drop_take]
   rw [h1, h1]
   congr 2
   show (s.data.toList.take s.size).drop _ = _
   rw [show s.size = s.data.toList.length from rfl, List.take_length]
   rfl
end AM
end Go.Proofs.YtemcmblcogljkaaGreatDoor

namespace Go.Proofs
open Go.Shelf
open Go.RowKit
def Tryz.lays169_ren : Go.Shelf.Ren := ⟨fun | 169 => 42 | n => n, fun | 70 => 106 | 9 => 9 | 0 => 0 | 72 => 108 | 37 => 46 | 127 => 144 | 3 => 3 | 5 => 5 | n => n, fun | n => n⟩
theorem Tryz.lays169 : Go.Proofs.Lays.n169 Tryz.prog Tryz.lays169_ren := {
 mixed := by kernel_rfl
 f169 := Tryz.func42.trans (congrArg some (by kernel_rfl))
 t0 := Tryz.underlying0
 a0 := Tryz.isAgg0
 z0 := Tryz.sizeOf0
 v0 := Tryz.zeroValue0
 t3 := Tryz.underlying3
 a3 := Tryz.isAgg3
 z3 := Tryz.sizeOf3
 v3 := Tryz.zeroValue3
 t9 := Tryz.underlying9
 a9 := Tryz.isAgg9
 z9 := Tryz.sizeOf9
 v9 := Tryz.zeroValue9
 t37 := Tryz.underlying46
 a37 := Tryz.isAgg46
 z37 := Tryz.sizeOf46
 v37 := Tryz.zeroValue46
 t70 := Tryz.underlying106
 a70 := Tryz.isAgg106
 z70 := Tryz.sizeOf106
 v70 := Tryz.zeroValue106
 t72 := Tryz.underlying108
 a72 := Tryz.isAgg108
 z72 := Tryz.sizeOf108
 v72 := Tryz.zeroValue108
 t127 := Tryz.underlying144
 a127 := Tryz.isAgg144
 z127 := Tryz.sizeOf144
 v127 := Tryz.zeroValue144 }
theorem Tryz.Builder_Extra_169 : Builder.Extra Tryz.prog Tryz.lays169_ren := {
 sizeBuilder := by kernel_rfl
 liesBuilder := by kernel_rfl
 t5 := Tryz.underlying5
 a5 := Tryz.isAgg5
 z5 := Tryz.sizeOf5
 v5 := Tryz.zeroValue5
 infoByte := by kernel_rfl
 cellsByte := by kernel_rfl
 sizeByte := by kernel_rfl
 neB5 := by decide }
theorem Tryz.Builder_String_any (B b : Nat) (l : List UInt8) (w : World) (h : Lib.IsBuilder 108 5 B b (Lib.byteCells l) w) (hBw : B ≤ w.heap.size) :
  Calls Tryz.prog 42 #[.pointer (some ⟨b, 0, none⟩)] w fun e w' => e = .returned (.string ⟨l.toArray⟩) ∧ Below B w w' := Any.Builder_String_any Tryz.lays169 Tryz.Builder_Extra_169 B b l w h hBw
def Tryz.lays156_ren : Go.Shelf.Ren := ⟨fun | 156 => 33 | 165 => 53 | 166 => 40 | 169 => 42 | 240 => 61 | 241 => 83 | 276 => 92 | 277 => 115 | n => n, fun | 31 => 77 | 9 => 9 | 3 => 3 | 4 => 4 | 0 => 0 | 20 => 20 | 72 => 108 | 76 => 113 | 70 => 106 | 37 => 46 | 75 => 112 | 127 => 144 | 164 => 167 | 5 => 5 | 80 => 116 | n => n, fun | n => n⟩
theorem Tryz.lays156 : Go.Proofs.Lays.n156 Tryz.prog Tryz.lays156_ren := {
 mixed := by kernel_rfl
 f156 := Tryz.func33.trans (congrArg some (by kernel_rfl))
 f165 := Tryz.func53.trans (congrArg some (by kernel_rfl))
 f166 := Tryz.func40.trans (congrArg some (by kernel_rfl))
 f169 := Tryz.func42.trans (congrArg some (by kernel_rfl))
 f240 := Tryz.func61.trans (congrArg some (by kernel_rfl))
 f241 := Tryz.func83.trans (congrArg some (by kernel_rfl))
 f276 := Tryz.func92.trans (congrArg some (by kernel_rfl))
 f277 := Tryz.func115.trans (congrArg some (by kernel_rfl))
 t0 := Tryz.underlying0
 a0 := Tryz.isAgg0
 z0 := Tryz.sizeOf0
 v0 := Tryz.zeroValue0
 t3 := Tryz.underlying3
 a3 := Tryz.isAgg3
 z3 := Tryz.sizeOf3
 v3 := Tryz.zeroValue3
 t4 := Tryz.underlying4
 a4 := Tryz.isAgg4
 z4 := Tryz.sizeOf4
 v4 := Tryz.zeroValue4
 t9 := Tryz.underlying9
 a9 := Tryz.isAgg9
 z9 := Tryz.sizeOf9
 v9 := Tryz.zeroValue9
 t20 := Tryz.underlying20
 a20 := Tryz.isAgg20
 z20 := Tryz.sizeOf20
 v20 := Tryz.zeroValue20
 t31 := Tryz.underlying77
 a31 := Tryz.isAgg77
 z31 := Tryz.sizeOf77
 v31 := Tryz.zeroValue77
 t37 := Tryz.underlying46
 a37 := Tryz.isAgg46
 z37 := Tryz.sizeOf46
 v37 := Tryz.zeroValue46
 t70 := Tryz.underlying106
 a70 := Tryz.isAgg106
 z70 := Tryz.sizeOf106
 v70 := Tryz.zeroValue106
 t72 := Tryz.underlying108
 a72 := Tryz.isAgg108
 z72 := Tryz.sizeOf108
 v72 := Tryz.zeroValue108
 t75 := Tryz.underlying112
 a75 := Tryz.isAgg112
 z75 := Tryz.sizeOf112
 v75 := Tryz.zeroValue112
 t76 := Tryz.underlying113
 a76 := Tryz.isAgg113
 z76 := Tryz.sizeOf113
 v76 := Tryz.zeroValue113
 t127 := Tryz.underlying144
 a127 := Tryz.isAgg144
 z127 := Tryz.sizeOf144
 v127 := Tryz.zeroValue144
 t164 := Tryz.underlying167
 a164 := Tryz.isAgg167
 z164 := Tryz.sizeOf167
 v164 := Tryz.zeroValue167 }
theorem Tryz.Builder_Extra_156 : Builder.Extra Tryz.prog Tryz.lays156_ren := {
 sizeBuilder := by kernel_rfl
 liesBuilder := by kernel_rfl
 t5 := Tryz.underlying5
 a5 := Tryz.isAgg5
 z5 := Tryz.sizeOf5
 v5 := Tryz.zeroValue5
 infoByte := by kernel_rfl
 cellsByte := by kernel_rfl
 sizeByte := by kernel_rfl
 neB5 := by decide }
theorem Tryz.strings_Join (bk o c : Nat) (xs : List ByteArray) (sep : ByteArray) (w : World) (hcells : ∀ (j : Nat) x, xs[j]? = some x → w.cell? ⟨bk, o + j, none⟩ = some (.string x)) (hbk : bk < w.heap.size) (hN : xs.length ≤ 140737488355328) (hcap : xs.length ≤ c) (hlen : (Lib.join (xs.map (·.data.toList)) sep.data.toList).length ≤ 140737488355328) :
  Calls Tryz.prog 33 #[.slice (some ⟨bk, o, none⟩) xs.length c, .string sep] w fun e w' => e = .returned (.string ⟨(Lib.join (xs.map (·.data.toList)) sep.data.toList).toArray⟩) ∧ Below w.heap.size w w' := Any.strings_Join Tryz.lays156 Tryz.Builder_Extra_156 bk o c xs sep w hcells hbk hN hcap hlen
def Tryz.lays137_ren : Go.Shelf.Ren := ⟨fun | 137 => 89 | 217 => 122 | 266 => 150 | n => n, fun | 9 => 9 | 5 => 5 | 3 => 3 | n => n, fun | n => n⟩
theorem Tryz.lays137 : Go.Proofs.Lays.n137 Tryz.prog Tryz.lays137_ren := {
 mixed := by kernel_rfl
 f137 := Tryz.func89.trans (congrArg some (by kernel_rfl))
 f217 := Tryz.func122.trans (congrArg some (by kernel_rfl))
 f266 := Tryz.func150.trans (congrArg some (by kernel_rfl))
 t3 := Tryz.underlying3
 a3 := Tryz.isAgg3
 z3 := Tryz.sizeOf3
 v3 := Tryz.zeroValue3
 t5 := Tryz.underlying5
 a5 := Tryz.isAgg5
 z5 := Tryz.sizeOf5
 v5 := Tryz.zeroValue5
 t9 := Tryz.underlying9
 a9 := Tryz.isAgg9
 z9 := Tryz.sizeOf9
 v9 := Tryz.zeroValue9 }
theorem Tryz.strings_IndexByte (s : ByteArray) (c : Int) (w : World) :
  Calls Tryz.prog 89 #[.string s, .int .u8 c] w fun e w' => e = .returned (.int .i64 (Lib.indexByte s.data.toList c.toNat.toUInt8)) ∧ w' = w := Any.strings_IndexByte Tryz.lays137 s c w
theorem Tryz.Builder_String_any_k (B b : Nat) (l : List UInt8) (w : World) (h : Lib.IsBuilderF 108 5 B b (Lib.byteCells l) w) (hBw : B ≤ w.heap.size) :
  Calls Tryz.prog 42 #[.pointer (some ⟨b, 0, none⟩)] w fun e w' => e = .returned (.string ⟨l.toArray⟩) ∧ (Lib.IsBuilderF 108 5 B b (Lib.byteCells l) w' ∧ Below B w w' ∧ Lib.OthersKept 5 (some b) w w') := Any.Builder_String_any_k Tryz.lays169 Tryz.Builder_Extra_169 B b l w h hBw
def Tryz.laysM171_ren : Go.Shelf.Ren := ⟨fun | 171 => 51 | 243 => 82 | 246 => 114 | 283 => 137 | 284 => 138 | 285 => 139 | 286 => 140 | 129 => 157 | 317 => 156 | 318 => 158 | 319 => 159 | 320 => 160 | 337 => 167 | 338 => 168 | n => n, fun | 3 => 3 | 9 => 9 | 2 => 2 | 4 => 4 | 171 => 198 | 0 => 0 | 53 => 199 | 37 => 46 | 5 => 5 | 173 => 202 | 212 => 213 | 51 => 214 | 20 => 20 | 213 => 215 | 46 => 134 | 232 => 233 | 233 => 234 | n => n, fun | 17 => 1 | 18 => 6 | 19 => 7 | n => n⟩
theorem Tryz.laysM171 : Go.Proofs.LaysM.n171 Tryz.prog Tryz.laysM171_ren := {
 mixed := by kernel_rfl
 f129 := Tryz.func157.trans (congrArg some (by kernel_rfl))
 f171 := Tryz.func51.trans (congrArg some (by kernel_rfl))
 f243 := Tryz.func82.trans (congrArg some (by kernel_rfl))
 f246 := Tryz.func114.trans (congrArg some (by kernel_rfl))
 f283 := Tryz.func137.trans (congrArg some (by kernel_rfl))
 f284 := Tryz.func138.trans (congrArg some (by kernel_rfl))
 f285 := Tryz.func139.trans (congrArg some (by kernel_rfl))
 f286 := Tryz.func140.trans (congrArg some (by kernel_rfl))
 f317 := Tryz.func156.trans (congrArg some (by kernel_rfl))
 f318 := Tryz.func158.trans (congrArg some (by kernel_rfl))
 f319 := Tryz.func159.trans (congrArg some (by kernel_rfl))
 f320 := Tryz.func160.trans (congrArg some (by kernel_rfl))
 f337 := Tryz.func167.trans (congrArg some (by kernel_rfl))
 f338 := Tryz.func168.trans (congrArg some (by kernel_rfl))
 t0 := Tryz.underlying0
 a0 := Tryz.isAgg0
 z0 := Tryz.sizeOf0
 v0 := Tryz.zeroValue0
 t2 := Tryz.underlying2
 a2 := Tryz.isAgg2
 z2 := Tryz.sizeOf2
 v2 := Tryz.zeroValue2
 t3 := Tryz.underlying3
 a3 := Tryz.isAgg3
 z3 := Tryz.sizeOf3
 v3 := Tryz.zeroValue3
 t4 := Tryz.underlying4
 a4 := Tryz.isAgg4
 z4 := Tryz.sizeOf4
 v4 := Tryz.zeroValue4
 t5 := Tryz.underlying5
 a5 := Tryz.isAgg5
 z5 := Tryz.sizeOf5
 v5 := Tryz.zeroValue5
 t9 := Tryz.underlying9
 a9 := Tryz.isAgg9
 z9 := Tryz.sizeOf9
 v9 := Tryz.zeroValue9
 t20 := Tryz.underlying20
 a20 := Tryz.isAgg20
 z20 := Tryz.sizeOf20
 v20 := Tryz.zeroValue20
 t37 := Tryz.underlying46
 a37 := Tryz.isAgg46
 z37 := Tryz.sizeOf46
 v37 := Tryz.zeroValue46
 t46 := Tryz.underlying134
 a46 := Tryz.isAgg134
 z46 := Tryz.sizeOf134
 v46 := Tryz.zeroValue134
 t51 := Tryz.underlying214
 a51 := Tryz.isAgg214
 z51 := Tryz.sizeOf214
 v51 := Tryz.zeroValue214
 t53 := Tryz.underlying199
 a53 := Tryz.isAgg199
 z53 := Tryz.sizeOf199
 v53 := Tryz.zeroValue199
 t171 := Tryz.underlying198
 a171 := Tryz.isAgg198
 z171 := Tryz.sizeOf198
 v171 := Tryz.zeroValue198
 t173 := Tryz.underlying202
 a173 := Tryz.isAgg202
 z173 := Tryz.sizeOf202
 v173 := Tryz.zeroValue202
 t212 := Tryz.underlying213
 a212 := Tryz.isAgg213
 z212 := Tryz.sizeOf213
 v212 := Tryz.zeroValue213
 t213 := Tryz.underlying215
 a213 := Tryz.isAgg215
 z213 := Tryz.sizeOf215
 t232 := Tryz.underlying233
 a232 := Tryz.isAgg233
 z232 := Tryz.sizeOf233
 v232 := Tryz.zeroValue233
 t233 := Tryz.underlying234
 a233 := Tryz.isAgg234
 z233 := Tryz.sizeOf234
 v233 := Tryz.zeroValue234
 g17 := by kernel_rfl
 g18 := by kernel_rfl
 g19 := by kernel_rfl
 i0 := by kernel_rfl
 i2 := by kernel_rfl
 i3 := by kernel_rfl
 i4 := by kernel_rfl
 i5 := by kernel_rfl
 i9 := by kernel_rfl
 i20 := by kernel_rfl
 i37 := by kernel_rfl
 i46 := by kernel_rfl
 i51 := by kernel_rfl
 i53 := by kernel_rfl
 i171 := by kernel_rfl
 i173 := by kernel_rfl
 i212 := by kernel_rfl
 i232 := by kernel_rfl
 i233 := by kernel_rfl
 m17 := by kernel_rfl
 m18 := by kernel_rfl
 m19 := by kernel_rfl }
theorem Tryz.strconv_Itoa (n : Int) (h0 : -9223372036854775808 ≤ n) (h1 : n ≤ 9223372036854775807) (w : World) (htab : Lib.TabIs Tryz.prog w "internal/strconv.uint64pow10" .u64 Lib.pow10Tab) :
  Calls Tryz.prog 51 #[.int .i64 n] w fun e w' => e = .returned (.string ⟨(Lib.itoa n).toArray⟩) ∧ ∃ k os, w' = Sort.grow (w.drewN k) os := Any.strconv_Itoa Tryz.laysM171 n h0 h1 w htab
def Tryz.lays171_ren : Go.Shelf.Ren := ⟨fun | 171 => 51 | 243 => 82 | 246 => 114 | 283 => 137 | 284 => 138 | 285 => 139 | 286 => 140 | 129 => 157 | 317 => 156 | 318 => 158 | 319 => 159 | 320 => 160 | 337 => 167 | 338 => 168 | n => n, fun | 3 => 3 | 9 => 9 | 2 => 2 | 4 => 4 | 171 => 198 | 0 => 0 | 53 => 199 | 37 => 46 | 5 => 5 | 173 => 202 | 212 => 213 | 51 => 214 | 20 => 20 | 213 => 215 | 46 => 134 | 232 => 233 | 233 => 234 | n => n, fun | 17 => 1 | 18 => 6 | 19 => 7 | n => n⟩
theorem Tryz.lays171 : Go.Proofs.Lays.n171 Tryz.prog Tryz.lays171_ren := {
 mixed := by kernel_rfl
 f129 := Tryz.func157.trans (congrArg some (by kernel_rfl))
 f171 := Tryz.func51.trans (congrArg some (by kernel_rfl))
 f243 := Tryz.func82.trans (congrArg some (by kernel_rfl))
 f246 := Tryz.func114.trans (congrArg some (by kernel_rfl))
 f283 := Tryz.func137.trans (congrArg some (by kernel_rfl))
 f284 := Tryz.func138.trans (congrArg some (by kernel_rfl))
 f285 := Tryz.func139.trans (congrArg some (by kernel_rfl))
 f286 := Tryz.func140.trans (congrArg some (by kernel_rfl))
 f317 := Tryz.func156.trans (congrArg some (by kernel_rfl))
 f318 := Tryz.func158.trans (congrArg some (by kernel_rfl))
 f319 := Tryz.func159.trans (congrArg some (by kernel_rfl))
 f320 := Tryz.func160.trans (congrArg some (by kernel_rfl))
 f337 := Tryz.func167.trans (congrArg some (by kernel_rfl))
 f338 := Tryz.func168.trans (congrArg some (by kernel_rfl))
 t0 := Tryz.underlying0
 a0 := Tryz.isAgg0
 z0 := Tryz.sizeOf0
 v0 := Tryz.zeroValue0
 t2 := Tryz.underlying2
 a2 := Tryz.isAgg2
 z2 := Tryz.sizeOf2
 v2 := Tryz.zeroValue2
 t3 := Tryz.underlying3
 a3 := Tryz.isAgg3
 z3 := Tryz.sizeOf3
 v3 := Tryz.zeroValue3
 t4 := Tryz.underlying4
 a4 := Tryz.isAgg4
 z4 := Tryz.sizeOf4
 v4 := Tryz.zeroValue4
 t5 := Tryz.underlying5
 a5 := Tryz.isAgg5
 z5 := Tryz.sizeOf5
 v5 := Tryz.zeroValue5
 t9 := Tryz.underlying9
 a9 := Tryz.isAgg9
 z9 := Tryz.sizeOf9
 v9 := Tryz.zeroValue9
 t20 := Tryz.underlying20
 a20 := Tryz.isAgg20
 z20 := Tryz.sizeOf20
 v20 := Tryz.zeroValue20
 t37 := Tryz.underlying46
 a37 := Tryz.isAgg46
 z37 := Tryz.sizeOf46
 v37 := Tryz.zeroValue46
 t46 := Tryz.underlying134
 a46 := Tryz.isAgg134
 z46 := Tryz.sizeOf134
 v46 := Tryz.zeroValue134
 t51 := Tryz.underlying214
 a51 := Tryz.isAgg214
 z51 := Tryz.sizeOf214
 v51 := Tryz.zeroValue214
 t53 := Tryz.underlying199
 a53 := Tryz.isAgg199
 z53 := Tryz.sizeOf199
 v53 := Tryz.zeroValue199
 t171 := Tryz.underlying198
 a171 := Tryz.isAgg198
 z171 := Tryz.sizeOf198
 v171 := Tryz.zeroValue198
 t173 := Tryz.underlying202
 a173 := Tryz.isAgg202
 z173 := Tryz.sizeOf202
 v173 := Tryz.zeroValue202
 t212 := Tryz.underlying213
 a212 := Tryz.isAgg213
 z212 := Tryz.sizeOf213
 v212 := Tryz.zeroValue213
 t213 := Tryz.underlying215
 a213 := Tryz.isAgg215
 z213 := Tryz.sizeOf215
 t232 := Tryz.underlying233
 a232 := Tryz.isAgg233
 z232 := Tryz.sizeOf233
 v232 := Tryz.zeroValue233
 t233 := Tryz.underlying234
 a233 := Tryz.isAgg234
 z233 := Tryz.sizeOf234
 v233 := Tryz.zeroValue234
 g17 := by kernel_rfl
 g18 := by kernel_rfl
 g19 := by kernel_rfl }
theorem Tryz.strconv_Itoa_small (i : Nat) (hi : i < 100) (w : World) :
  Calls Tryz.prog 51 #[.int .i64 i] w fun e w' => e = .returned (.string ⟨(Lib.decDigits i).toArray⟩) ∧ w' = w := Any.strconv_Itoa_small Tryz.lays171 i hi w
def Tryz.laysC172_ren : Go.Shelf.Ren := ⟨fun | 172 => 87 | 244 => 120 | 245 => 121 | 247 => 145 | 279 => 146 | 280 => 147 | 281 => 148 | 282 => 149 | 287 => 162 | 316 => 163 | 171 => 51 | 205 => 164 | 321 => 169 | 322 => 170 | 243 => 82 | 246 => 114 | 283 => 137 | 284 => 138 | 285 => 139 | 286 => 140 | 129 => 157 | 317 => 156 | 318 => 158 | 319 => 159 | 320 => 160 | 337 => 167 | 338 => 168 | n => n, fun | 9 => 9 | 3 => 3 | 75 => 112 | 76 => 113 | 4 => 4 | 5 => 5 | 167 => 204 | 37 => 46 | 0 => 0 | 85 => 205 | 2 => 2 | 168 => 207 | 53 => 199 | 175 => 223 | 46 => 134 | 210 => 227 | 127 => 144 | 145 => 232 | 143 => 230 | 21 => 21 | 171 => 198 | 173 => 202 | 212 => 213 | 51 => 214 | 20 => 20 | 213 => 215 | 232 => 233 | 233 => 234 | 80 => 116 | n => n, fun | 15 => 4 | 16 => 5 | 17 => 1 | 18 => 6 | 19 => 7 | n => n⟩
theorem Tryz.laysC172 : Go.Proofs.LaysC.n172 Tryz.prog Tryz.laysC172_ren := {
 mixed := by kernel_rfl
 f129 := Tryz.func157.trans (congrArg some (by kernel_rfl))
 f171 := Tryz.func51.trans (congrArg some (by kernel_rfl))
 f172 := Tryz.func87.trans (congrArg some (by kernel_rfl))
 f205 := Tryz.func164.trans (congrArg some (by kernel_rfl))
 f243 := Tryz.func82.trans (congrArg some (by kernel_rfl))
 f244 := Tryz.func120.trans (congrArg some (by kernel_rfl))
 f245 := Tryz.func121.trans (congrArg some (by kernel_rfl))
 f246 := Tryz.func114.trans (congrArg some (by kernel_rfl))
 f247 := Tryz.func145.trans (congrArg some (by kernel_rfl))
 f279 := Tryz.func146.trans (congrArg some (by kernel_rfl))
 f280 := Tryz.func147.trans (congrArg some (by kernel_rfl))
 f281 := Tryz.func148.trans (congrArg some (by kernel_rfl))
 f282 := Tryz.func149.trans (congrArg some (by kernel_rfl))
 f283 := Tryz.func137.trans (congrArg some (by kernel_rfl))
 f284 := Tryz.func138.trans (congrArg some (by kernel_rfl))
 f285 := Tryz.func139.trans (congrArg some (by kernel_rfl))
 f286 := Tryz.func140.trans (congrArg some (by kernel_rfl))
 f287 := Tryz.func162.trans (congrArg some (by kernel_rfl))
 f316 := Tryz.func163.trans (congrArg some (by kernel_rfl))
 f317 := Tryz.func156.trans (congrArg some (by kernel_rfl))
 f318 := Tryz.func158.trans (congrArg some (by kernel_rfl))
 f319 := Tryz.func159.trans (congrArg some (by kernel_rfl))
 f320 := Tryz.func160.trans (congrArg some (by kernel_rfl))
 f321 := Tryz.func169.trans (congrArg some (by kernel_rfl))
 f322 := Tryz.func170.trans (congrArg some (by kernel_rfl))
 f337 := Tryz.func167.trans (congrArg some (by kernel_rfl))
 f338 := Tryz.func168.trans (congrArg some (by kernel_rfl))
 t0 := Tryz.underlying0
 a0 := Tryz.isAgg0
 z0 := Tryz.sizeOf0
 v0 := Tryz.zeroValue0
 t2 := Tryz.underlying2
 a2 := Tryz.isAgg2
 z2 := Tryz.sizeOf2
 v2 := Tryz.zeroValue2
 t3 := Tryz.underlying3
 a3 := Tryz.isAgg3
 z3 := Tryz.sizeOf3
 v3 := Tryz.zeroValue3
 t4 := Tryz.underlying4
 a4 := Tryz.isAgg4
 z4 := Tryz.sizeOf4
 v4 := Tryz.zeroValue4
 t5 := Tryz.underlying5
 a5 := Tryz.isAgg5
 z5 := Tryz.sizeOf5
 v5 := Tryz.zeroValue5
 t9 := Tryz.underlying9
 a9 := Tryz.isAgg9
 z9 := Tryz.sizeOf9
 v9 := Tryz.zeroValue9
 t20 := Tryz.underlying20
 a20 := Tryz.isAgg20
 z20 := Tryz.sizeOf20
 v20 := Tryz.zeroValue20
 t21 := Tryz.underlying21
 a21 := Tryz.isAgg21
 z21 := Tryz.sizeOf21
 v21 := Tryz.zeroValue21
 t37 := Tryz.underlying46
 a37 := Tryz.isAgg46
 z37 := Tryz.sizeOf46
 v37 := Tryz.zeroValue46
 t46 := Tryz.underlying134
 a46 := Tryz.isAgg134
 z46 := Tryz.sizeOf134
 v46 := Tryz.zeroValue134
 t51 := Tryz.underlying214
 a51 := Tryz.isAgg214
 z51 := Tryz.sizeOf214
 v51 := Tryz.zeroValue214
 t53 := Tryz.underlying199
 a53 := Tryz.isAgg199
 z53 := Tryz.sizeOf199
 v53 := Tryz.zeroValue199
 t75 := Tryz.underlying112
 a75 := Tryz.isAgg112
 z75 := Tryz.sizeOf112
 v75 := Tryz.zeroValue112
 t76 := Tryz.underlying113
 a76 := Tryz.isAgg113
 z76 := Tryz.sizeOf113
 v76 := Tryz.zeroValue113
 t85 := Tryz.underlying205
 a85 := Tryz.isAgg205
 z85 := Tryz.sizeOf205
 v85 := Tryz.zeroValue205
 t127 := Tryz.underlying144
 a127 := Tryz.isAgg144
 z127 := Tryz.sizeOf144
 v127 := Tryz.zeroValue144
 t143 := Tryz.underlying230
 a143 := Tryz.isAgg230
 z143 := Tryz.sizeOf230
 v143 := Tryz.zeroValue230
 t145 := Tryz.underlying232
 a145 := Tryz.isAgg232
 z145 := Tryz.sizeOf232
 v145 := Tryz.zeroValue232
 t167 := Tryz.underlying204
 a167 := Tryz.isAgg204
 z167 := Tryz.sizeOf204
 v167 := Tryz.zeroValue204
 t168 := Tryz.underlying207
 a168 := Tryz.isAgg207
 z168 := Tryz.sizeOf207
 v168 := Tryz.zeroValue207
 t171 := Tryz.underlying198
 a171 := Tryz.isAgg198
 z171 := Tryz.sizeOf198
 v171 := Tryz.zeroValue198
 t173 := Tryz.underlying202
 a173 := Tryz.isAgg202
 z173 := Tryz.sizeOf202
 v173 := Tryz.zeroValue202
 t175 := Tryz.underlying223
 a175 := Tryz.isAgg223
 z175 := Tryz.sizeOf223
 v175 := Tryz.zeroValue223
 t210 := Tryz.underlying227
 a210 := Tryz.isAgg227
 z210 := Tryz.sizeOf227
 v210 := Tryz.zeroValue227
 t212 := Tryz.underlying213
 a212 := Tryz.isAgg213
 z212 := Tryz.sizeOf213
 v212 := Tryz.zeroValue213
 t213 := Tryz.underlying215
 a213 := Tryz.isAgg215
 z213 := Tryz.sizeOf215
 t232 := Tryz.underlying233
 a232 := Tryz.isAgg233
 z232 := Tryz.sizeOf233
 v232 := Tryz.zeroValue233
 t233 := Tryz.underlying234
 a233 := Tryz.isAgg234
 z233 := Tryz.sizeOf234
 v233 := Tryz.zeroValue234
 g15 := by kernel_rfl
 g16 := by kernel_rfl
 g17 := by kernel_rfl
 g18 := by kernel_rfl
 g19 := by kernel_rfl
 t80 := Tryz.underlying116
 a80 := Tryz.isAgg116
 z80 := Tryz.sizeOf116
 v80 := Tryz.zeroValue116
 i0 := by kernel_rfl
 i2 := by kernel_rfl
 i3 := by kernel_rfl
 i4 := by kernel_rfl
 i5 := by kernel_rfl
 i9 := by kernel_rfl
 i20 := by kernel_rfl
 i21 := by kernel_rfl
 i37 := by kernel_rfl
 i46 := by kernel_rfl
 i51 := by kernel_rfl
 i53 := by kernel_rfl
 i75 := by kernel_rfl
 i76 := by kernel_rfl
 i80 := by kernel_rfl
 i85 := by kernel_rfl
 i127 := by kernel_rfl
 i143 := by kernel_rfl
 i145 := by kernel_rfl
 i167 := by kernel_rfl
 i168 := by kernel_rfl
 i171 := by kernel_rfl
 i173 := by kernel_rfl
 i175 := by kernel_rfl
 i210 := by kernel_rfl
 i212 := by kernel_rfl
 i232 := by kernel_rfl
 i233 := by kernel_rfl
 m15 := by kernel_rfl
 m16 := by kernel_rfl
 m17 := by kernel_rfl
 m18 := by kernel_rfl
 m19 := by kernel_rfl
 c0 := by kernel_rfl
 c2 := by kernel_rfl
 c3 := by kernel_rfl
 c4 := by kernel_rfl
 c5 := by kernel_rfl
 c9 := by kernel_rfl
 c20 := by kernel_rfl
 c21 := by kernel_rfl
 c37 := by kernel_rfl
 c46 := by kernel_rfl
 c51 := by kernel_rfl
 c53 := by kernel_rfl
 c75 := by kernel_rfl
 c76 := by kernel_rfl
 c80 := by kernel_rfl
 c85 := by kernel_rfl
 c127 := by kernel_rfl
 c143 := by kernel_rfl
 c145 := by kernel_rfl
 c167 := by kernel_rfl
 c168 := by kernel_rfl
 c171 := by kernel_rfl
 c173 := by kernel_rfl
 c175 := by kernel_rfl
 c210 := by kernel_rfl
 c212 := by kernel_rfl
 c213 := by kernel_rfl
 c232 := by kernel_rfl
 c233 := by kernel_rfl }
theorem Tryz.strconv_Atoi_ok (s : ByteArray) (hmax : s.size ≤ 9223372036854775806) (v : Int) (h : Lib.atoiAll s.data.toList = .ok v) (w : World) :
  Calls Tryz.prog 87 #[.string s] w fun e w' => e = .returned (.tuple #[.int .i64 v, .nilIface]) ∧ (w' = w ∨ ∃ t, w' = Lib.bytesWorld w 5 t) := Any.strconv_Atoi_ok Tryz.laysC172 s hmax v h w
theorem Tryz.strconv_Atoi_syntax_var (s : ByteArray) (hlim : s.size ≤ 281474976710656) (h : Lib.atoiAll s.data.toList = Lib.atoiAll []) (tp : TypeId) (p : Value) (w : World) (hvar : w.var? Tryz.prog "strconv.ErrSyntax" = some #[.iface tp p]) :
  Calls Tryz.prog 87 #[.string s] w fun e w' => ∃ N, e = .returned (.tuple #[.int .i64 0, .iface 207 (.pointer (some ⟨N, 0, none⟩))]) ∧ w.heap.size ≤ N ∧ w'.heap[N]? = some (.cells #[.string ⟨#[65, 116, 111, 105]⟩, .string s, .iface tp p] 227 (0, 0)) ∧ Below w.heap.size w w' := Any.strconv_Atoi_syntax_var Tryz.laysC172 s hlim h tp p w hvar
theorem Tryz.strconv_Atoi_range_var (s : ByteArray) (hlim : s.size ≤ 281474976710656) (h : Lib.atoiAll s.data.toList = .range) (tp : TypeId) (p : Value) (w : World) (hvar : w.var? Tryz.prog "strconv.ErrRange" = some #[.iface tp p]) :
  Calls Tryz.prog 87 #[.string s] w fun e w' => ∃ N, e = .returned (.tuple #[.int .i64 (Lib.atoiSat s.data.toList), .iface 207 (.pointer (some ⟨N, 0, none⟩))]) ∧ w.heap.size ≤ N ∧ w'.heap[N]? = some (.cells #[.string ⟨#[65, 116, 111, 105]⟩, .string s, .iface tp p] 227 (0, 0)) ∧ Below w.heap.size w w' := Any.strconv_Atoi_range_var Tryz.laysC172 s hlim h tp p w hvar
def Tryz.lays145_ren : Go.Shelf.Ren := ⟨fun | 145 => 56 | 220 => 88 | 219 => 119 | 217 => 122 | 225 => 142 | 224 => 143 | 267 => 144 | 266 => 150 | 314 => 161 | n => n, fun | 9 => 9 | 4 => 4 | 59 => 139 | 3 => 3 | 5 => 5 | 46 => 134 | 146 => 221 | 51 => 214 | n => n, fun | 1 => 0 | n => n⟩
theorem Tryz.lays145 : Go.Proofs.Lays.n145 Tryz.prog Tryz.lays145_ren := {
 mixed := by kernel_rfl
 f145 := Tryz.func56.trans (congrArg some (by kernel_rfl))
 f217 := Tryz.func122.trans (congrArg some (by kernel_rfl))
 f219 := Tryz.func119.trans (congrArg some (by kernel_rfl))
 f220 := Tryz.func88.trans (congrArg some (by kernel_rfl))
 f224 := Tryz.func143.trans (congrArg some (by kernel_rfl))
 f225 := Tryz.func142.trans (congrArg some (by kernel_rfl))
 f266 := Tryz.func150.trans (congrArg some (by kernel_rfl))
 f267 := Tryz.func144.trans (congrArg some (by kernel_rfl))
 f314 := Tryz.func161.trans (congrArg some (by kernel_rfl))
 t3 := Tryz.underlying3
 a3 := Tryz.isAgg3
 z3 := Tryz.sizeOf3
 v3 := Tryz.zeroValue3
 t4 := Tryz.underlying4
 a4 := Tryz.isAgg4
 z4 := Tryz.sizeOf4
 v4 := Tryz.zeroValue4
 t5 := Tryz.underlying5
 a5 := Tryz.isAgg5
 z5 := Tryz.sizeOf5
 v5 := Tryz.zeroValue5
 t9 := Tryz.underlying9
 a9 := Tryz.isAgg9
 z9 := Tryz.sizeOf9
 v9 := Tryz.zeroValue9
 t46 := Tryz.underlying134
 a46 := Tryz.isAgg134
 z46 := Tryz.sizeOf134
 v46 := Tryz.zeroValue134
 t51 := Tryz.underlying214
 a51 := Tryz.isAgg214
 z51 := Tryz.sizeOf214
 v51 := Tryz.zeroValue214
 t59 := Tryz.underlying139
 a59 := Tryz.isAgg139
 z59 := Tryz.sizeOf139
 v59 := Tryz.zeroValue139
 t146 := Tryz.underlying221
 a146 := Tryz.isAgg221
 z146 := Tryz.sizeOf221
 v146 := Tryz.zeroValue221
 g1 := by kernel_rfl }
theorem Tryz.strings_Cut (s sep : ByteArray) (m : Int) (w : World) (hs : s.size < 4294967281) (hm : w.cell? ⟨0, 0, none⟩ = some (.int .i64 m)) :
  Calls Tryz.prog 56 #[.string s, .string sep] w fun e w' => e = .returned (.tuple #[.string ⟨(Lib.cut s.data.toList sep.data.toList).1.toArray⟩, .string ⟨(Lib.cut s.data.toList sep.data.toList).2.1.toArray⟩, .bool (Lib.cut s.data.toList sep.data.toList).2.2]) ∧ ∃ n, w' = w.drewN n := Any.strings_Cut Tryz.lays145 s sep m w hs hm
def Tryz.lays146_ren : Go.Shelf.Ren := ⟨fun | 146 => 34 | 221 => 54 | 268 => 84 | 138 => 85 | 143 => 86 | 195 => 116 | 197 => 117 | 218 => 118 | 219 => 119 | 260 => 141 | 217 => 122 | 225 => 142 | 224 => 143 | 267 => 144 | 266 => 150 | 314 => 161 | n => n, fun | 9 => 9 | 31 => 77 | 3 => 3 | 4 => 4 | 0 => 0 | 105 => 187 | 21 => 21 | 5 => 5 | 46 => 134 | 119 => 217 | 139 => 220 | 138 => 219 | 146 => 221 | 51 => 214 | n => n, fun | 1 => 0 | 3 => 2 | 4 => 3 | n => n⟩
theorem Tryz.lays146 : Go.Proofs.Lays.n146 Tryz.prog Tryz.lays146_ren := {
 mixed := by kernel_rfl
 f138 := Tryz.func85.trans (congrArg some (by kernel_rfl))
 f143 := Tryz.func86.trans (congrArg some (by kernel_rfl))
 f146 := Tryz.func34.trans (congrArg some (by kernel_rfl))
 f195 := Tryz.func116.trans (congrArg some (by kernel_rfl))
 f197 := Tryz.func117.trans (congrArg some (by kernel_rfl))
 f217 := Tryz.func122.trans (congrArg some (by kernel_rfl))
 f218 := Tryz.func118.trans (congrArg some (by kernel_rfl))
 f219 := Tryz.func119.trans (congrArg some (by kernel_rfl))
 f221 := Tryz.func54.trans (congrArg some (by kernel_rfl))
 f224 := Tryz.func143.trans (congrArg some (by kernel_rfl))
 f225 := Tryz.func142.trans (congrArg some (by kernel_rfl))
 f260 := Tryz.func141.trans (congrArg some (by kernel_rfl))
 f266 := Tryz.func150.trans (congrArg some (by kernel_rfl))
 f267 := Tryz.func144.trans (congrArg some (by kernel_rfl))
 f268 := Tryz.func84.trans (congrArg some (by kernel_rfl))
 f314 := Tryz.func161.trans (congrArg some (by kernel_rfl))
 t0 := Tryz.underlying0
 a0 := Tryz.isAgg0
 z0 := Tryz.sizeOf0
 v0 := Tryz.zeroValue0
 t3 := Tryz.underlying3
 a3 := Tryz.isAgg3
 z3 := Tryz.sizeOf3
 v3 := Tryz.zeroValue3
 t4 := Tryz.underlying4
 a4 := Tryz.isAgg4
 z4 := Tryz.sizeOf4
 v4 := Tryz.zeroValue4
 t5 := Tryz.underlying5
 a5 := Tryz.isAgg5
 z5 := Tryz.sizeOf5
 v5 := Tryz.zeroValue5
 t9 := Tryz.underlying9
 a9 := Tryz.isAgg9
 z9 := Tryz.sizeOf9
 v9 := Tryz.zeroValue9
 t21 := Tryz.underlying21
 a21 := Tryz.isAgg21
 z21 := Tryz.sizeOf21
 v21 := Tryz.zeroValue21
 t31 := Tryz.underlying77
 a31 := Tryz.isAgg77
 z31 := Tryz.sizeOf77
 v31 := Tryz.zeroValue77
 t46 := Tryz.underlying134
 a46 := Tryz.isAgg134
 z46 := Tryz.sizeOf134
 v46 := Tryz.zeroValue134
 t51 := Tryz.underlying214
 a51 := Tryz.isAgg214
 z51 := Tryz.sizeOf214
 v51 := Tryz.zeroValue214
 t105 := Tryz.underlying187
 a105 := Tryz.isAgg187
 z105 := Tryz.sizeOf187
 v105 := Tryz.zeroValue187
 t119 := Tryz.underlying217
 a119 := Tryz.isAgg217
 z119 := Tryz.sizeOf217
 t138 := Tryz.underlying219
 a138 := Tryz.isAgg219
 z138 := Tryz.sizeOf219
 v138 := Tryz.zeroValue219
 t139 := Tryz.underlying220
 a139 := Tryz.isAgg220
 z139 := Tryz.sizeOf220
 v139 := Tryz.zeroValue220
 t146 := Tryz.underlying221
 a146 := Tryz.isAgg221
 z146 := Tryz.sizeOf221
 v146 := Tryz.zeroValue221
 g1 := by kernel_rfl
 g3 := by kernel_rfl
 g4 := by kernel_rfl }
theorem Tryz.strings_Split (s sep : ByteArray) (m : Int) (w : World) (hs : s.size < 4294967281) (hm : w.cell? ⟨0, 0, none⟩ = some (.int .i64 m)) (h1 : 1 ≤ sep.size) :
  Calls Tryz.prog 34 #[.string s, .string sep] w fun e w' =>
   e = .returned (.slice (some ⟨w.heap.size, 0, none⟩) (Lib.countB s sep + 1) (Lib.countB s sep + 1)) ∧ w' = w.alloc (.cells ((Lib.splitB sep 0 (Lib.countB s sep) s).map Value.string).toArray 9) := Any.strings_Split Tryz.lays146 (by kernel_rfl) s sep m w hs hm h1
def Tryz.laysB_ren : Go.Shelf.Ren := ⟨fun | 156 => 33 | 165 => 53 | 166 => 40 | 167 => 52 | 169 => 42 | 240 => 61 | 241 => 83 | 276 => 92 | 277 => 115 | n => n, fun | 31 => 77 | 9 => 9 | 3 => 3 | 4 => 4 | 0 => 0 | 20 => 20 | 72 => 108 | 76 => 113 | 70 => 106 | 37 => 46 | 75 => 112 | 127 => 144 | 164 => 167 | 5 => 5 | 80 => 116 | n => n, fun | n => n⟩
theorem Tryz.laysB167 : Go.Proofs.Lays.n167 Tryz.prog Tryz.laysB_ren := {
 mixed := by kernel_rfl
 f167 := Tryz.func52.trans (congrArg some (by kernel_rfl))
 f240 := Tryz.func61.trans (congrArg some (by kernel_rfl))
 f276 := Tryz.func92.trans (congrArg some (by kernel_rfl))
 t0 := Tryz.underlying0
 a0 := Tryz.isAgg0
 z0 := Tryz.sizeOf0
 v0 := Tryz.zeroValue0
 t4 := Tryz.underlying4
 a4 := Tryz.isAgg4
 z4 := Tryz.sizeOf4
 v4 := Tryz.zeroValue4
 t5 := Tryz.underlying5
 a5 := Tryz.isAgg5
 z5 := Tryz.sizeOf5
 v5 := Tryz.zeroValue5
 t9 := Tryz.underlying9
 a9 := Tryz.isAgg9
 z9 := Tryz.sizeOf9
 v9 := Tryz.zeroValue9
 t20 := Tryz.underlying20
 a20 := Tryz.isAgg20
 z20 := Tryz.sizeOf20
 v20 := Tryz.zeroValue20
 t37 := Tryz.underlying46
 a37 := Tryz.isAgg46
 z37 := Tryz.sizeOf46
 v37 := Tryz.zeroValue46
 t70 := Tryz.underlying106
 a70 := Tryz.isAgg106
 z70 := Tryz.sizeOf106
 v70 := Tryz.zeroValue106
 t72 := Tryz.underlying108
 a72 := Tryz.isAgg108
 z72 := Tryz.sizeOf108
 v72 := Tryz.zeroValue108
 t75 := Tryz.underlying112
 a75 := Tryz.isAgg112
 z75 := Tryz.sizeOf112
 v75 := Tryz.zeroValue112
 t164 := Tryz.underlying167
 a164 := Tryz.isAgg167
 z164 := Tryz.sizeOf167
 v164 := Tryz.zeroValue167 }
theorem Tryz.laysB166 : Go.Proofs.Lays.n166 Tryz.prog Tryz.laysB_ren := {
 mixed := by kernel_rfl
 f166 := Tryz.func40.trans (congrArg some (by kernel_rfl))
 f240 := Tryz.func61.trans (congrArg some (by kernel_rfl))
 f276 := Tryz.func92.trans (congrArg some (by kernel_rfl))
 t0 := Tryz.underlying0
 a0 := Tryz.isAgg0
 z0 := Tryz.sizeOf0
 v0 := Tryz.zeroValue0
 t3 := Tryz.underlying3
 a3 := Tryz.isAgg3
 z3 := Tryz.sizeOf3
 v3 := Tryz.zeroValue3
 t4 := Tryz.underlying4
 a4 := Tryz.isAgg4
 z4 := Tryz.sizeOf4
 v4 := Tryz.zeroValue4
 t9 := Tryz.underlying9
 a9 := Tryz.isAgg9
 z9 := Tryz.sizeOf9
 v9 := Tryz.zeroValue9
 t20 := Tryz.underlying20
 a20 := Tryz.isAgg20
 z20 := Tryz.sizeOf20
 v20 := Tryz.zeroValue20
 t37 := Tryz.underlying46
 a37 := Tryz.isAgg46
 z37 := Tryz.sizeOf46
 v37 := Tryz.zeroValue46
 t70 := Tryz.underlying106
 a70 := Tryz.isAgg106
 z70 := Tryz.sizeOf106
 v70 := Tryz.zeroValue106
 t72 := Tryz.underlying108
 a72 := Tryz.isAgg108
 z72 := Tryz.sizeOf108
 v72 := Tryz.zeroValue108
 t75 := Tryz.underlying112
 a75 := Tryz.isAgg112
 z75 := Tryz.sizeOf112
 v75 := Tryz.zeroValue112
 t164 := Tryz.underlying167
 a164 := Tryz.isAgg167
 z164 := Tryz.sizeOf167
 v164 := Tryz.zeroValue167 }
theorem Tryz.Builder_Extra_B : Builder.Extra Tryz.prog Tryz.laysB_ren := {
 sizeBuilder := by kernel_rfl
 liesBuilder := by kernel_rfl
 t5 := Tryz.underlying5
 a5 := Tryz.isAgg5
 z5 := Tryz.sizeOf5
 v5 := Tryz.zeroValue5
 infoByte := by kernel_rfl
 cellsByte := by kernel_rfl
 sizeByte := by kernel_rfl
 neB5 := by decide }
open Go.RowKit in
theorem Tryz.Builder_WriteByte (B b : Nat) (bs : List Value) (c : Int) (w : World) (h : Lib.IsBuilder 108 5 B b bs w) (hlen : bs.length + 1 ≤ 140737488355328) (hBw : B ≤ w.heap.size) :
  Calls Tryz.prog 52 #[.pointer (some ⟨b, 0, none⟩), .int .u8 c] w fun e w' => e = .returned .nilIface ∧ (Lib.BuilderAt 108 5 B b (.pointer (some ⟨b, 0, none⟩)) (bs ++ [.int .u8 c]) w' ∧ Below B w w') := Any.Builder_WriteByte Tryz.laysB167 Tryz.Builder_Extra_B B b bs c w h hlen hBw
open Go.RowKit in
theorem Tryz.Builder_WriteString_k (B b : Nat) (bs : List Value) (s : ByteArray) (w : World) (h : Lib.IsBuilderF 108 5 B b bs w) (hlen : bs.length + s.size ≤ 140737488355328) (hBw : B ≤ w.heap.size) :
  Calls Tryz.prog 40 #[.pointer (some ⟨b, 0, none⟩), .string s] w fun e w' => e = .returned (.tuple #[.int .i64 s.size, .nilIface]) ∧ (Lib.BuilderAtF 108 5 B b (.pointer (some ⟨b, 0, none⟩)) (bs ++ Lib.strCells s) w' ∧ Below B w w' ∧ Lib.OthersKept 5 (some b) w w') := Any.Builder_WriteString_k Tryz.laysB166 Tryz.Builder_Extra_B B b bs s w h hlen hBw
end Go.Proofs

