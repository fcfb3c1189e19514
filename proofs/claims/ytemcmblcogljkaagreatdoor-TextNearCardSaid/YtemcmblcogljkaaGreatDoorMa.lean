/- The abstract machine: definitions. -/
import Derived.Orders
set_option linter.all false
set_option linter.unusedSimpArgs false
set_option linter.unusedVariables false
namespace Go.Proofs.YtemcmblcogljkaaGreatDoor
namespace AM
open Go
inductive Tr (α : Type) where
 | leaf
 | node (v : Option α) (l r : Tr α)
def Tr.get {α : Type} : Tr α → Nat → Option α
 | .leaf, _ => none
 | .node v _ _, 0 => v
 | .node _ l r, k + 1 => match Nat.beq (k % 2) 0 with
  | true => l.get (k / 2)
  | false => r.get (k / 2)
def Tr.set {α : Type} : Nat → Tr α → Nat → α → Tr α
 | 0, t, _, _ => t
 | _ + 1, .leaf, 0, v => .node (some v) .leaf .leaf
 | f + 1, .leaf, k + 1, v => match Nat.beq (k % 2) 0 with
  | true => .node none (Tr.set f .leaf (k / 2) v) .leaf
  | false => .node none .leaf (Tr.set f .leaf (k / 2) v)
 | _ + 1, .node _ l r, 0, v => .node (some v) l r
 | f + 1, .node x l r, k + 1, v => match Nat.beq (k % 2) 0 with
  | true => .node x (Tr.set f l (k / 2) v) r
  | false => .node x l (Tr.set f r (k / 2) v)
def Tr.put {α : Type} (t : Tr α) (k : Nat) (v : α) : Tr α := Tr.set (k + 1) t k v
theorem Tr.get_leaf {α : Type} (k : Nat) : (Tr.leaf : Tr α).get k = none := by cases k <;> rfl
theorem Tr.get_set {α : Type} : ∀ (f : Nat) (t : Tr α) (k : Nat) (v : α) (j : Nat), k < f → (Tr.set f t k v).get j = if j = k then some v else t.get j
 | 0, _, _, _, _, h => by omega
 | f + 1, .leaf, 0, v, j, _ => by
  cases j with
  | zero => rfl
  | succ j => rw [if_neg (by omega)]; simp only [Tr.set, Tr.get]; split <;> rfl
 | f + 1, .leaf, k + 1, v, j, h => by
  have ih := Tr.get_set f .leaf (k / 2) v
  cases j with
  | zero => simp only [Tr.set]; split <;> simp [Tr.get]
  | succ j =>
   simp only [Tr.set]
   by_cases hk : k % 2 = 0 <;> by_cases hj : j % 2 = 0
   ·have a : Nat.beq (k % 2) 0 = true := by rw [hk]; rfl
    have b : Nat.beq (j % 2) 0 = true := by rw [hj]; rfl
    simp only [a, b, Tr.get]
    rw [ih _ (by omega)]
    by_cases e : j = k
    ·subst e; simp
    ·rw [if_neg (by omega), if_neg (by omega)]
     simp [Tr.get_leaf]
   ·have a : Nat.beq (k % 2) 0 = true := by rw [hk]; rfl
    have b : Nat.beq (j % 2) 0 = false := by rw [show j % 2 = 1 by omega]; rfl
    simp only [a, b, Tr.get]
    rw [if_neg (by omega)]
   ·have a : Nat.beq (k % 2) 0 = false := by rw [show k % 2 = 1 by omega]; rfl
    have b : Nat.beq (j % 2) 0 = true := by rw [hj]; rfl
    simp only [a, b, Tr.get]
    rw [if_neg (by omega)]
   ·have a : Nat.beq (k % 2) 0 = false := by rw [show k % 2 = 1 by omega]; rfl
    have b : Nat.beq (j % 2) 0 = false := by rw [show j % 2 = 1 by omega]; rfl
    simp only [a, b, Tr.get]
    rw [ih _ (by omega)]
    by_cases e : j = k
    ·subst e; simp
    ·rw [if_neg (by omega), if_neg (by omega)]
     simp [Tr.get_leaf]
 | f + 1, .node x l r, 0, v, j, _ => by
  cases j with
  | zero => rfl
  | succ j => simp only [Tr.set, Tr.get]; simp
 | f + 1, .node x l r, k + 1, v, j, h => by
  have ihl := Tr.get_set f l (k / 2) v
  have ihr := Tr.get_set f r (k / 2) v
  cases j with
  | zero => simp only [Tr.set]; split <;> simp [Tr.get]
  | succ j =>
   simp only [Tr.set]
   by_cases hk : k % 2 = 0 <;> by_cases hj : j % 2 = 0
   ·have a : Nat.beq (k % 2) 0 = true := by rw [hk]; rfl
    have b : Nat.beq (j % 2) 0 = true := by rw [hj]; rfl
    simp only [a, b, Tr.get]
    rw [ihl _ (by omega)]
    by_cases e : j = k
    ·subst e; simp
    ·rw [if_neg (by omega), if_neg (by omega)]
   ·have a : Nat.beq (k % 2) 0 = true := by rw [hk]; rfl
    have b : Nat.beq (j % 2) 0 = false := by rw [show j % 2 = 1 by omega]; rfl
    simp only [a, b, Tr.get]
    rw [if_neg (by omega)]
   ·have a : Nat.beq (k % 2) 0 = false := by rw [show k % 2 = 1 by omega]; rfl
    have b : Nat.beq (j % 2) 0 = true := by rw [hj]; rfl
    simp only [a, b, Tr.get]
    rw [if_neg (by omega)]
   ·have a : Nat.beq (k % 2) 0 = false := by rw [show k % 2 = 1 by omega]; rfl
    have b : Nat.beq (j % 2) 0 = false := by rw [show j % 2 = 1 by omega]; rfl
    simp only [a, b, Tr.get]
    rw [ihr _ (by omega)]
    by_cases e : j = k
    ·subst e; simp
    ·rw [if_neg (by omega), if_neg (by omega)]
theorem Tr.get_put {α : Type} (t : Tr α) (k : Nat) (v : α) (j : Nat) : (t.put k v).get j = if j = k then some v else t.get j :=
 Tr.get_set (k + 1) t k v j (by omega)
theorem Tr.get_put_same {α : Type} (t : Tr α) (k : Nat) (v : α) : (t.put k v).get k = some v := by rw [Tr.get_put, if_pos rfl]
theorem Tr.get_put_other {α : Type} (t : Tr α) {k j : Nat} (v : α) (h : j ≠ k) : (t.put k v).get j = t.get j := by rw [Tr.get_put, if_neg h]
def Tr.putAll {α : Type} (t : Tr α) (k : Nat) : List α → Tr α
 | [] => t
 | v :: r => (t.put k v).putAll (k + 1) r
theorem Tr.get_putAll {α : Type} : ∀ (l : List α) (t : Tr α) (k j : Nat), (t.putAll k l).get j = if k ≤ j ∧ j < k + l.length then l[j - k]? else t.get j
 | [], t, k, j => by simp only [Tr.putAll, List.length_nil]; rw [if_neg (by omega)]
 | v :: r, t, k, j => by
  rw [Tr.putAll, Tr.get_putAll r, Tr.get_put, List.length_cons]
  by_cases h : k + 1 ≤ j ∧ j < k + 1 + r.length
  ·rw [if_pos h, if_pos (by omega)]
   obtain ⟨i, rfl⟩ : ∃ i, j = k + 1 + i := ⟨j - (k + 1), by omega⟩
   rw [show k + 1 + i - (k + 1) = i by omega, show k + 1 + i - k = i + 1 by omega]
   rfl
  ·rw [if_neg h]
   by_cases e : j = k
   ·subst e; rw [if_pos rfl, if_pos (by omega)]; simp
   ·rw [if_neg e, if_neg (by omega)]
structure Row where
 root : Nat
 lo : Nat
 hi : Nat
 sz : Nat
structure Fam where
 ro : Bool
 tip : Nat
 cells : Tr (Value × Nat)
structure AH where
 next : Nat
 rows : Tr Row
 fams : Tr Fam
def AH.load (H : AH) (h i : Nat) : Option Value :=
 match H.rows.get h with
 | none => none
 | some r => match H.fams.get r.root with
  | none => none
  | some f => match f.cells.get i with
   | none => none
   | some (v, st) => match Nat.ble r.lo i && Nat.blt i r.hi && Nat.ble st h with
    | true => some v
    | false => none
def AH.loadN (H : AH) (h i : Nat) : Nat → Option (List Value)
 | 0 => some []
 | n + 1 => match H.load h i with
  | none => none
  | some v => match AH.loadN H h (i + 1) n with
   | none => none
   | some l => some (v :: l)
def oneCell : Value → Bool
 | .agg _ | .tuple _ => false
 | _ => true
def AH.store (H : AH) (h i : Nat) (v : Value) : Option AH :=
 match H.rows.get h with
 | none => none
 | some r => match H.fams.get r.root with
  | none => none
  | some f => match !f.ro && Nat.beq f.tip h && Nat.ble r.lo i && Nat.blt i r.hi && oneCell v with
   | true => some { H with fams := H.fams.put r.root { f with cells := f.cells.put i (v, h) } }
   | false => none
def AH.storeN (H : AH) (h i : Nat) : List Value → Option AH
 | [] => some H
 | v :: r => match H.store h i v with
  | none => none
  | some H' => AH.storeN H' h (i + 1) r
def AH.new (H : AH) (sz : Nat) (cells : List Value) : AH :=
 {next := H.next + 1,
  rows := H.rows.put H.next ⟨H.next, 0, cells.length, sz⟩,
  fams := H.fams.put H.next ⟨false, H.next, Tr.leaf.putAll 0 (cells.map fun v => (v, H.next))⟩ }
def AH.grow (H : AH) (h i n : Nat) (news : List Value) : Option AH :=
 match H.rows.get h with
 | none => none
 | some r => match H.fams.get r.root with
  | none => none
  | some f => match H.loadN h i n with
   | none => none
   | some _ => match !f.ro && Nat.ble r.lo i && Nat.ble (i + n) r.hi && news.all oneCell with
    | true => some
     {next := H.next + 1,
      rows := H.rows.put H.next ⟨r.root, i, i + n + news.length, r.sz⟩,
      fams := H.fams.put r.root { f with tip := H.next, cells := f.cells.putAll (i + n) (news.map fun v => (v, H.next)) } }
    | false => none
mutual
def flat : Value → Bool
 | .bool _ => true
 | .int _ _ => true
 | .string _ => true
 | .pointer none => true
 | .nilFunc => true
 | .nilIface => true
 | .slice none 0 0 => true
 | .func (.func _) a b => flatA a && flatA b
 | .agg cs => flatA cs
 | .tuple cs => flatA cs
 | _ => false
def flatA : Array Value → Bool
 | ⟨l⟩ => flatL l
def flatL : List Value → Bool
 | [] => true
 | v :: r => flat v && flatL r
end
def peel {α : Type} (P : Program) : Sem α → Option α
 | .pure a => some a
 | .program k => peel P (k P)
 | _ => none
def peelF (P : Program) (s : Sem Value) : Option Value :=
 match peel P s with
 | some v => match flat v with
  | true => some v
  | false => none
 | none => none
def aInt (op : BinOp) (k : IntKind) (x y : Int) : Option Value :=
 match op with
 | .add => some (.int k (k.wrap (x + y)))
 | .sub => some (.int k (k.wrap (x - y)))
 | .mul => some (.int k (k.wrap (x * y)))
 | .quo => match decide (y = 0) with
  | true => none
  | false => some (.int k (k.wrap (x.tdiv y)))
 | .rem => match decide (y = 0) with
  | true => none
  | false => some (.int k (x.tmod y))
 | .and => some (.int k (k.wrap (BitVec.ofInt k.bits x &&& BitVec.ofInt k.bits y).toNat))
 | .or => some (.int k (k.wrap (BitVec.ofInt k.bits x ||| BitVec.ofInt k.bits y).toNat))
 | .xor => some (.int k (k.wrap (BitVec.ofInt k.bits x ^^^ BitVec.ofInt k.bits y).toNat))
 | .andNot => some (.int k (k.wrap (BitVec.ofInt k.bits x &&& ~~~(BitVec.ofInt k.bits y)).toNat))
 | .eql => some (.bool (x == y))
 | .neq => some (.bool (x != y))
 | .lss => some (.bool (decide (x < y)))
 | .leq => some (.bool (decide (x ≤ y)))
 | .gtr => some (.bool (decide (x > y)))
 | .geq => some (.bool (decide (x ≥ y)))
 | _ => none
def aShift (op : BinOp) (k : IntKind) (x y : Int) : Option Value :=
 match decide (y < 0) with
 | true => none
 | false => match op with
  | .shl => some (.int k (k.wrap (x * 2 ^ min y.toNat k.bits)))
  | .shr => some (.int k (x.fdiv (2 ^ min y.toNat k.bits)))
  | _ => none
def aStr (op : BinOp) (x y : ByteArray) : Option Value :=
 match op with
 | .add => match Nat.ble (x.size + y.size) 9223372036854775807 with
  | true => some (.string (x ++ y))
  | false => none
 | .eql => some (.bool (x.data.toList == y.data.toList))
 | .neq => some (.bool !(x.data.toList == y.data.toList))
 | _ => none
def isNil : Value → Option Bool
 | .pointer none => some true
 | .pointer (some _) => some false
 | .slice none _ _ => some true
 | .slice (some _) _ _ => some false
 | .nilFunc => some true
 | .func .. => some false
 | .nilIface => some true
 | .iface .. => some false
 | _ => none
def refFits (d : Option TypeDesc) (v : Value) : Bool :=
 match d, v with
 | some (.pointer _), .pointer _ => true
 | some (.slice _), .slice .. => true
 | some (.func ..), .nilFunc => true
 | some (.func ..), .func .. => true
 | some (.interface _), .nilIface => true
 | some (.interface _), .iface .. => true
 | _, _ => false
def aBin (P : Program) (op : BinOp) (t : TypeId) (xo yo : Operand) (x y : Value) : Option Value :=
 match x, y with
 | .int k a, .int k' b => match op with
  | .shl => aShift .shl k a b
  | .shr => aShift .shr k a b
  | op => match decide (k = k') with
   | true => aInt op k a b
   | false => none
 | .string a, .string b => aStr op a b
 | x, y => match flat x && flat y with
  | true => peelF P (do eqGuard op t xo yo x y; binOp op t x y)
  | false => match op, refFits (P.underlying t) x && refFits (P.underlying t) y, isNil x, isNil y with
   | .eql, true, some true, some false => some (.bool false)
   | .eql, true, some false, some true => some (.bool false)
   | .neq, true, some true, some false => some (.bool true)
   | .neq, true, some false, some true => some (.bool true)
   | _, _, _, _ => none
def aggSize (P : Program) (t : TypeId) : Option Nat :=
 match P.underlying t with
 | some (.struct _) => (P.info? t).map (·.size)
 | some (.array _ _) => (P.info? t).map (·.size)
 | _ => none
def known (P : Program) (t : TypeId) : Bool := (P.underlying t).isSome && (P.info? t).isSome
def sizeOf' (P : Program) (t : TypeId) : Option Nat := (P.info? t).map (·.size)
def load1 (H : AH) : Value → Option Value
 | .pointer (some ⟨h, i, none⟩) => H.load h i
 | _ => none
def loadA (H : AH) (n : Nat) : Value → Option Value
 | .pointer (some ⟨h, i, none⟩) => match H.loadN h i n with
  | some l => some (.agg ⟨l⟩)
  | none => none
 | _ => none
def storeV (H : AH) (n : Nat) (a v : Value) : Option AH :=
 match a with
 | .pointer (some ⟨h, i, none⟩) => match Nat.beq v.cells.size n with
  | true => H.storeN h i v.cells.toList
  | false => none
 | _ => none
def fieldP (off : Nat) : Value → Option Value
 | .pointer (some ⟨h, i, none⟩) => some (.pointer (some ⟨h, i + off, none⟩))
 | _ => none
def elemS (sz : Nat) : Value → Value → Option Value
 | .slice (some ⟨h, i, none⟩) len _, .int _ n => match decide (0 ≤ n) && decide (n < (len : Int)) with
  | true => some (.pointer (some ⟨h, i + n.toNat * sz, none⟩))
  | false => none
 | _, _ => none
def elemA (sz len : Nat) : Value → Value → Option Value
 | .pointer (some ⟨h, i, none⟩), .int _ n => match decide (0 ≤ n) && decide (n < (len : Int)) with
  | true => some (.pointer (some ⟨h, i + n.toNat * sz, none⟩))
  | false => none
 | _, _ => none
def partV (ag : Option Nat) (off : Nat) : Value → Option Value
 | .agg cs => match ag with
  | some n => some (.agg (cs.extract off (off + n)))
  | none => cs[off]?
 | _ => none
def idxA (ag : Option Nat) (sz len : Nat) : Value → Value → Option Value
 | .agg cs, .int _ n => match decide (0 ≤ n) && decide (n < (len : Int)) with
  | true => partV ag (n.toNat * sz) (.agg cs)
  | false => none
 | _, _ => none
def idxS : Value → Value → Option Value
 | .string s, .int _ n => match decide (0 ≤ n) with
  | true => match s.data.toList[n.toNat]? with
   | some b => some (.int .u8 b.toNat)
   | none => none
  | false => none
 | _, _ => none
def tupV (n : Nat) : Value → Option Value
 | .tuple vs => vs[n]?
 | _ => none
def cutAtV (d : Nat) (m : Nat) : Option Value → Option Nat
 | none => some d
 | some (.int _ n) => match decide (0 ≤ n) && decide (n ≤ (m : Int)) with
  | true => some n.toNat
  | false => none
 | some _ => none
def sliceS (x : Value) (lo hi : Option Value) : Option Value :=
 match x with
 | .string s => match cutAtV s.size s.size hi with
  | none => none
  | some h => match cutAtV 0 h lo with
   | none => none
   | some l => some (.string (s.extract l h))
 | _ => none
def sliceV (sz : Nat) (H : AH) (x : Value) (lo hi : Option Value) : Option Value :=
 match x with
 | .slice none 0 0 => match cutAtV 0 0 hi, cutAtV 0 0 lo with
  | some _, some _ => some (.slice none 0 0)
  | _, _ => none
 | .slice (some ⟨b, i, none⟩) len cap => match cutAtV len cap hi with
  | none => none
  | some h => match cutAtV 0 h lo with
   | none => none
   | some l => match H.rows.get b with
    | none => none
    | some r => match Nat.beq r.sz 0 || Nat.beq r.sz sz with
     | true => some (.slice (some ⟨b, i + l * sz, none⟩) (h - l) (cap - l))
     | false => none
 | _ => none
def sliceA (sz n : Nat) (H : AH) (x : Value) (lo hi : Option Value) : Option Value :=
 match x with
 | .pointer (some ⟨b, i, none⟩) => match cutAtV n n hi with
  | none => none
  | some h => match cutAtV 0 h lo with
   | none => none
   | some l => match H.rows.get b with
    | none => none
    | some r => match Nat.beq r.sz 0 with
     | true => some (.slice (some ⟨b, i + l * sz, none⟩) (h - l) (n - l))
     | false => none
 | _ => none
def lenV : Value → Option Value
 | .slice _ n _ => some (.int .i64 n)
 | .string s => some (.int .i64 s.size)
 | _ => none
def srcV (H : AH) (sz n : Nat) : Value → Option (List Value)
 | .slice (some ⟨h, i, none⟩) _ _ => H.loadN h i (n * sz)
 | .slice none _ _ => some []
 | .string s => some ((s.data.toList.take n).map fun b => .int .u8 b.toNat)
 | _ => none
def lenOf' : Value → Option Nat
 | .slice _ n _ => some n
 | .string s => some s.size
 | _ => none
def appendV (sz bytes : Nat) (H : AH) (s x : Value) : Option (Value × AH) :=
 match s, lenOf' x with
 | .slice base len cap, some n => match srcV H sz n x with
  | none => none
  | some news => match Nat.beq n 0 with
   | true => some (s, H)
   | false => match Nat.ble ((len + n) * bytes * 2) 140737488355328 && Nat.ble (len + n) 4611686018427387904 && Nat.blt 0 sz && Nat.beq news.length (n * sz) && news.all oneCell with
    | false => none
    | true => match base with
     | none => match Nat.beq len 0 && Nat.beq cap 0 with
      | true => some (.slice (some ⟨H.next, 0, none⟩) n n, H.new sz news)
      | false => none
     | some ⟨h, i, none⟩ => match H.rows.get h with
      | none => none
      | some r => match Nat.beq r.sz sz with
       | false => none
       | true => match H.grow h i (len * sz) news with
        | none => none
        | some H' => some (.slice (some ⟨H.next, i, none⟩) (len + n) (len + n), H')
     | _ => none
 | _, _ => none
def copyV (sz : Nat) (H : AH) (d x : Value) : Option (Value × AH) :=
 match d, lenOf' x with
 | .slice base len _, some n => match srcV H sz (Nat.min n len) x with
  | none => none
  | some news => match base with
   | none => some (.int .i64 (Nat.min n len : Nat), H)
   | some ⟨h, i, none⟩ => match H.storeN h i news with
    | none => none
    | some H' => some (.int .i64 (Nat.min n len : Nat), H')
   | _ => none
 | _, _ => none
def makeN (sz bytes : Nat) (zero : List Value) (l c : Value) : Option (Nat × List Value × (Nat → Value)) :=
 match l, c with
 | .int .i64 l, .int .i64 c => match decide (0 ≤ l) && decide (l ≤ c) && Nat.ble (c.toNat * bytes) 140737488355328 && Nat.ble c.toNat 4611686018427387904 with
  | true => some (sz, (List.replicate c.toNat zero).flatten, fun h => .slice (some ⟨h, 0, none⟩) l.toNat c.toNat)
  | false => none
 | _, _ => none
def makeV (sz bytes : Nat) (zero : List Value) (H : AH) (l c : Value) : Option (Value × AH) :=
 match l, c with
 | .int .i64 l, .int .i64 c => match decide (0 ≤ l) && decide (l ≤ c) && Nat.ble (c.toNat * bytes) 140737488355328 && Nat.ble c.toNat 4611686018427387904 with
  | true => some (.slice (some ⟨H.next, 0, none⟩) l.toNat c.toNat, H.new sz ((List.replicate c.toNat zero).flatten))
  | false => none
 | _, _ => none
def bytesV (s : ByteArray) : List Value := s.data.toList.map fun b => .int .u8 b.toNat
def toBytes (H : AH) : Value → Option (Value × AH)
 | .string s => some (.slice (some ⟨H.next, 0, none⟩) s.size s.size, H.new 1 (bytesV s))
 | _ => none
def unByte : Value → Option UInt8
 | .int .u8 n => some (UInt8.ofNat n.toNat)
 | _ => none
def unBytes : List Value → Option (List UInt8)
 | [] => some []
 | v :: r => match unByte v with
  | none => none
  | some b => match unBytes r with
   | none => none
   | some l => some (b :: l)
def ofBytes (H : AH) : Value → Option Value
 | .slice none _ _ => some (.string ⟨#[]⟩)
 | .slice (some ⟨h, i, none⟩) n _ => match H.loadN h i n with
  | none => none
  | some l => match unBytes l with
   | none => none
   | some bs => some (.string ⟨⟨bs⟩⟩)
 | _ => none
def same1 : Value → Value → Bool
 | .bool a, .bool b => a == b
 | .int k a, .int k' b => decide (k = k') && decide (a = b)
 | .string a, .string b => a.data.toList == b.data.toList
 | .pointer none, .pointer none => true
 | .pointer (some ⟨a, i, none⟩), .pointer (some ⟨b, j, none⟩) => Nat.beq a b && Nat.beq i j
 | .slice none n c, .slice none m d => Nat.beq n m && Nat.beq c d
 | .slice (some ⟨a, i, none⟩) n c, .slice (some ⟨b, j, none⟩) m d => Nat.beq a b && Nat.beq i j && Nat.beq n m && Nat.beq c d
 | .nilFunc, .nilFunc => true
 | .nilIface, .nilIface => true
 | _, _ => false
def sameL : List Value → List Value → Bool
 | [], [] => true
 | a :: l, b :: m => same1 a b && sameL l m
 | _, _ => false
def same : Value → Value → Bool
 | .agg ⟨l⟩, .agg ⟨m⟩ => sameL l m
 | a, b => same1 a b
abbrev Callee := FuncId → Array Value → AH → Option (Value × AH)
def ev (t : Tr Value) : Operand → Option Value
 | .tmp i => t.get i
 | .const v => match flat v with
  | true => some v
  | false => none
 | .func f => some (.func (.func f) #[] #[])
 | .global _ => none
def evs (t : Tr Value) : List Operand → Option (List Value)
 | [] => some []
 | x :: r => match ev t x with
  | none => none
  | some v => match evs t r with
   | none => none
   | some l => some (v :: l)
def evo (t : Tr Value) : Option Operand → Option (Option Value)
 | none => some none
 | some x => match ev t x with
  | none => none
  | some v => some (some v)
def evps (t : Tr Value) : List (Nat × Operand) → Option (List (Nat × Value))
 | [] => some []
 | (i, x) :: r => match ev t x with
  | none => none
  | some v => match evps t r with
   | none => none
   | some l => some ((i, v) :: l)
def withH (H : AH) : Option Value → Option (Value × AH)
 | some v => some (v, H)
 | none => none
def noV : Option AH → Option (Value × AH)
 | some H => some (undef, H)
 | none => none
def zeroCells' (P : Program) (t : TypeId) : Option (Array Value) :=
 match (P.info? t).bind (·.zero) with
 | some z => match flat z with
  | true => some z.cells
  | false => none
 | none => none
def aCall (call : Callee) (f : Value) (args : List Value) (H : AH) : Option (Value × AH) :=
 match f with
 | .func (.func f) first captured => call f ⟨first.toList ++ args ++ captured.toList⟩ H
 | _ => none
def aBuiltin (P : Program) (b : Builtin) (tys : Array TypeId) (ty : TypeId) (args : List Value) (H : AH) : Option (Value × AH) :=
 match b, tys.toList, args with
 | .len, [t], [x] => match P.underlying t, x with
  | some (.string), .string s => some (.int .i64 s.size, H)
  | some (.slice _), .slice _ n _ => some (.int .i64 n, H)
  | some (.array n _), _ => some (.int .i64 n, H)
  | _, _ => none
 | .append, [st, xt], [s, x] => match P.underlying st, P.underlying xt with
  | some (.slice e), some d => match d with
   | .int _ => none
   | _ => match P.info? e with
    | some i => match i.zero with
     | some z => match flat z && Nat.beq z.cells.size i.size with
      | true => appendV i.size i.bytes H s x
      | false => none
     | none => none
    | none => none
  | _, _ => none
 | .copy, [dt, _], [d, x] => match P.underlying dt with
  | some (.slice e) => match P.info? e with
   | some i => copyV i.size H d x
   | none => none
  | _ => none
 | .min, _, l => match flatL l with
  | true => withH H (peelF P (Builtin.min_ tys ty ⟨l⟩))
  | false => none
 | .max, _, l => match flatL l with
  | true => withH H (peelF P (Builtin.max_ tys ty ⟨l⟩))
  | false => none
 | _, _, _ => none
def aSlice (P : Program) (t : TypeId) (x : Value) (lo hi : Option Value) (H : AH) : Option Value :=
 match P.underlying t with
 | some .string => sliceS x lo hi
 | some (.slice e) => match P.info? e with
  | some i => sliceV i.size H x lo hi
  | none => none
 | some (.array n e) => match P.info? e with
  | some i => sliceA i.size n H x lo hi
  | none => none
 | _ => none
def aOp (P : Program) (call : Callee) (t : Tr Value) (o : Oper) (H : AH) : Option (Value × AH) :=
 match o.op with
 | .move x => withH H (ev t x)
 | .assign x => withH H (ev t x)
 | .pick c a b => match ev t c with
  | some (.bool true) => withH H (ev t a)
  | some (.bool false) => withH H (ev t b)
  | _ => none
 | .alloc e => match zeroCells' P e with
  | some cs => some (.pointer (some ⟨H.next, 0, none⟩), H.new 0 cs.toList)
  | none => none
 | .box _ x => match ev t x with
  | some v => match v.cells.toList.all oneCell with
   | true => some (.pointer (some ⟨H.next, 0, none⟩), H.new 0 v.cells.toList)
   | false => none
  | none => none
 | .build ty parts => match evps t parts.toList, zeroCells' P ty with
  | some ps, some _ => withH H (peel P (Instr.build ty ⟨ps⟩))
  | _, _ => none
 | .buildSlice ty len parts => match evps t parts.toList, P.underlying ty with
  | some ps, some (.slice e) => match P.info? e with
   | some i => match zeroCells' P e, Nat.ble (len * i.size) 16777216 with
    | some z, true => match Nat.beq z.size i.size with
     | true => match Instr.fill (fun j => some (j * i.size, i.size)) ⟨(List.replicate len z.toList).flatten⟩ ps with
      | some cells => match cells.toList.all oneCell && Nat.beq cells.size (len * i.size) with
       | true => some (.slice (some ⟨H.next, 0, none⟩) len len, H.new i.size cells.toList)
       | false => none
      | none => none
     | false => none
    | _, _ => none
   | none => none
  | _, _ => none
 | .load ty a => match ev t a, known P ty with
  | some av, true => match aggSize P ty with
   | some n => withH H (loadA H n av)
   | none => withH H (load1 H av)
  | _, _ => none
 | .store ty a x => match ev t a, ev t x, sizeOf' P ty with
  | some av, some v, some n => noV (storeV H n av v)
  | _, _, _ => none
 | .nilCheck x => match ev t x with
  | some (.pointer (some a)) => some (.pointer (some a), H)
  | _ => none
 | .binOp op ty x y _ => match ev t x, ev t y with
  | some v, some w => withH H (aBin P op ty x y v w)
  | _, _ => none
 | .unOp op _ x => match ev t x with
  | some v => match flat v with
   | true => withH H (peelF P (Op.unary op v))
   | false => none
  | none => none
 | .convert src dst x => match ev t x with
  | some v => match P.underlying src, P.underlying dst with
   | some .string, some (.slice e) => match P.underlying e with
    | some (.int .u8) => toBytes H v
    | _ => none
   | some (.slice e), some .string => match P.underlying e with
    | some (.int .u8) => withH H (ofBytes H v)
    | _ => none
   | _, _ => match flat v with
    | true => withH H (peelF P (convert src dst v))
    | false => none
  | none => none
 | .makeInterface ty x => match ev t x, P.underlying ty with
  | some _, some (.interface _) => none
  | some v, some _ => some (.iface ty v, H)
  | _, _ => none
 | .makeFunc fn first captured => match evs t first.toList, evs t captured.toList with
  | some a, some b => some (.func fn ⟨a⟩ ⟨b⟩, H)
  | _, _ => none
 | .makeSlice ty l c => match ev t l, ev t c, P.underlying ty with
  | some lv, some cv, some (.slice e) => match P.info? e with
   | some i => match zeroCells' P e with
    | some z => match Nat.beq z.size i.size with
     | true => makeV i.size i.bytes z.toList H lv cv
     | false => none
    | none => none
   | none => none
  | _, _, _ => none
 | .slice ty x lo hi mx => match ev t x, evo t lo, evo t hi, mx with
  | some v, some l, some h, none => withH H (aSlice P ty v l h H)
  | _, _, _, _ => none
 | .fieldAddr s x f => match ev t x, P.underlying s with
  | some v, some (.struct fs) => match fs[f]? with
   | some fl => match sizeOf' P fl.type with
    | some (_ + 1) => withH H (fieldP fl.offset v)
    | _ => none
   | none => none
  | _, _ => none
 | .field s x f => match ev t x, P.underlying s with
  | some v, some (.struct fs) => match fs[f]? with
   | some fl => match known P fl.type with
    | true => withH H (partV (aggSize P fl.type) fl.offset v)
    | false => none
   | none => none
  | _, _ => none
 | .indexAddr ty x i => match ev t x, ev t i, P.underlying ty with
  | some v, some n, some (.slice e) => match sizeOf' P e with
   | some sz => withH H (elemS sz v n)
   | none => none
  | some v, some n, some (.array len e) => match sizeOf' P e with
   | some sz => withH H (elemA sz len v n)
   | none => none
  | _, _, _ => none
 | .index ty x i => match ev t x, ev t i, P.underlying ty with
  | some v, some n, some (.array len e) => match sizeOf' P e, known P e with
   | some sz, true => withH H (idxA (aggSize P e) sz len v n)
   | _, _ => none
  | some v, some n, some .string => withH H (idxS v n)
  | _, _, _ => none
 | .extract x n => match ev t x with
  | some v => withH H (tupV n v)
  | none => none
 | .call c => match c.callee with
  | .value f => match ev t f, evs t c.args.toList with
   | some fv, some args => aCall call fv args H
   | _, _ => none
  | .builtin b => match evs t c.args.toList with
   | some args => aBuiltin P b c.argTypes o.type args H
   | none => none
  | .invoke _ _ => none
 | _ => none
def putT (n : Nat) (t : Tr Value) (dst : Option Tmp) (v : Value) : Option (Tr Value) :=
 match dst with
 | none => some t
 | some d => match Nat.blt d n with
  | true => some (t.put d v)
  | false => none
def wants (ops : Array Oper) (t : Tr Value) (o : Oper) : Option Bool :=
 match o.guard with
 | none => some true
 | some (j, want) => match (ops[j]?).bind (·.dst) with
  | none => none
  | some d => match t.get d with
   | some (.bool b) => some (b == want)
   | some (.tuple _) => some false
   | _ => none
def aOps (P : Program) (call : Callee) (n : Nat) (ops : Array Oper) : List Oper → Tr Value → AH → Option (Tr Value × AH)
 | [], t, H => some (t, H)
 | o :: r, t, H => match wants ops t o with
  | none => none
  | some false => match putT n t o.dst undef with
   | none => none
   | some t' => aOps P call n ops r t' H
  | some true => match aOp P call t o H with
   | none => none
   | some (v, H') => match putT n t o.dst v with
    | none => none
    | some t' => aOps P call n ops r t' H'
def kindOf (P : Program) (o : Oper) : Nat :=
 match o.op with
 | .load .. => 1
 | .slice .. => 1
 | .alloc _ | .buildSlice .. | .makeSlice .. => 2
 | .box .. => 3
 | .store .. => 3
 | .convert src dst _ => match P.underlying src, P.underlying dst with
  | some .string, some (.slice _) => 3
  | some (.slice _), some .string => 1
  | _, _ => 0
 | .call c => match c.callee with
  | .builtin .len => 0
  | .builtin .min => 0
  | .builtin .max => 0
  | _ => 3
 | _ => 0
inductive Met where
 | read (i : Nat) (o : Oper) (t : Tr Value) (v : Value)
 | new (i : Nat)
 | eff (i : Nat) (H : AH)
def aOpsD (P : Program) (call : Callee) (n : Nat) (ops : Array Oper) : Nat → List Oper → Tr Value → AH → List Met → Option (Tr Value × AH × List Met)
 | _, [], t, H, m => some (t, H, m.reverse)
 | i, o :: r, t, H, m => match wants ops t o with
  | none => none
  | some false => match putT n t o.dst undef with
   | none => none
   | some t' => aOpsD P call n ops (i + 1) r t' H m
  | some true => match aOp P call t o H with
   | none => none
   | some (v, H') => match putT n t o.dst v with
    | none => none
    | some t' => match kindOf P o with
     | 0 => aOpsD P call n ops (i + 1) r t' H' m
     | 1 => aOpsD P call n ops (i + 1) r t' H' (.read i o t v :: m)
     | 2 => aOpsD P call n ops (i + 1) r t' H' (.new i :: m)
     | _ => aOpsD P call n ops (i + 1) r t' H' (.eff i H :: m)
def effs : List Met → List (Nat × AH)
 | [] => []
 | .eff i H :: r => (i, H) :: effs r
 | _ :: r => effs r
def reads : List Met → List (Nat × Oper × Tr Value × Value)
 | [] => []
 | .read i o t v :: r => (i, o, t, v) :: reads r
 | _ :: r => reads r
def anyNew : List Met → Bool
 | [] => false
 | .new _ :: _ => true
 | _ :: r => anyNew r
def newsOk (b : Array Nat) : Option Nat → List Met → Bool
 | _, [] => true
 | _, .eff i _ :: r => newsOk b (some i) r
 | none, .new _ :: r => newsOk b none r
 | some i, .new j :: r => (b.getD j 0).testBit i && newsOk b (some i) r
 | l, _ :: r => newsOk b l r
def chained (b : Array Nat) : List (Nat × AH) → Bool
 | (i, _) :: (j, H) :: r => (b.getD j 0).testBit i && chained b ((j, H) :: r)
 | _ => true
def mayCome (b : Array Nat) (j : Nat) : Nat → List (Nat × AH) → Bool
 | _, [] => true
 | 0, (e, _) :: r => !(b.getD j 0).testBit e && mayCome b j 0 r
 | k + 1, (e, _) :: r => !(b.getD e 0).testBit j && mayCome b j k r
def ahead (j : Nat) : List (Nat × AH) → Nat
 | [] => 0
 | (e, _) :: r => match Nat.blt e j with
  | true => ahead j r + 1
  | false => 0
def heapAt (H : AH) : Nat → List (Nat × AH) → AH
 | _, [] => H
 | 0, (_, G) :: _ => G
 | k + 1, _ :: r => heapAt H k r
def steady1 (P : Program) (call : Callee) (o : Oper) (t : Tr Value) (v : Value) (G : AH) : Bool :=
 match aOp P call t o G with
 | some (u, _) => same u v
 | none => false
def steady (P : Program) (call : Callee) (b : Array Nat) (es : List (Nat × AH)) (H : AH) (nw : Bool) (j : Nat) (o : Oper) (t : Tr Value) (v : Value) : Nat → Bool
 | 0 => true
 | k + 1 => (match mayCome b j k es && (nw || !Nat.beq k (ahead j es)) with
  | true => steady1 P call o t v (heapAt H k es)
  | false => true) && steady P call b es H nw j o t v k
def steadyAll (P : Program) (call : Callee) (b : Array Nat) (es : List (Nat × AH)) (H : AH) (nw : Bool) : List (Nat × Oper × Tr Value × Value) → Bool
 | [] => true
 | (j, o, t, v) :: r => steady P call b es H nw j o t v (es.length + 1) && steadyAll P call b es H nw r
def looks (ops : Array Oper) (o : Oper) : List Tmp :=
 (o.op.operands.toList.filterMap fun | .tmp t => some t | _ => none) ++ (match o.guard with
  | some (g, _) => ((ops[g]?).bind (·.dst)).toList
  | none => [])
def edgesDown : Nat → List Oper → Bool
 | _, [] => true
 | i, o :: r => (o.after.toList.all fun e => !Region.binds .any e || Nat.blt e.on i) && edgesDown (i + 1) r
def ordOk1 (b : Array Nat) (i : Nat) (l : List Tmp) : Nat → List Oper → Bool
 | _, [] => true
 | j, o :: r => (match o.dst with
  | none => true
  | some d => !l.contains d || Nat.beq i j || (b.getD (Nat.max i j) 0).testBit (Nat.min i j)) && ordOk1 b i l (j + 1) r
def ordOk (ops : Array Oper) (b : Array Nat) : Nat → List Oper → Bool
 | _, [] => true
 | i, o :: r => ordOk1 b i (o.dst.toList ++ looks ops o) 0 ops.toList && ordOk ops b (i + 1) r
def aRegion1 (P : Program) (call : Callee) (n : Nat) (ops : Array Oper) (t : Tr Value) (H : AH) : Option (Tr Value × AH) :=
 match edgesDown 0 ops.toList && ordOk ops (Region.before ops) 0 ops.toList with
 | false => none
 | true => match aOpsD P call n ops 0 ops.toList t H [] with
  | none => none
  | some (t', H', m) => match chained (Region.before ops) (effs m) && newsOk (Region.before ops) none m && steadyAll P call (Region.before ops) (effs m) H' (anyNew m) (reads m) with
   | true => some (t', H')
   | false => none
def renOp (τ : Nat → Nat) (o : Oper) : Oper :=
 { o with after := o.after.map fun e => { e with on := τ e.on }, guard := o.guard.map fun (j, b) => (τ j, b) }
def placeIn (j : Nat) : List Nat → Nat
 | [] => 0
 | x :: r => match Nat.beq x j with
  | true => 0
  | false => placeIn j r + 1
def permOps (l : List Nat) (ops : Array Oper) : Array Oper :=
 ⟨l.filterMap fun j => (ops[j]?).map (renOp fun i => placeIn i l)⟩
def isPerm (n : Nat) (l : List Nat) : Bool :=
 Nat.beq l.length n && ((List.range n).all fun i => l[placeIn i l]? == some i) && (List.range n).all fun p => match l[p]? with
  | some i => Nat.blt i n && Nat.beq (placeIn i l) p
  | none => false
def refsOk (ops : Array Oper) : Bool := ops.toList.all fun o => (o.after.toList.all fun e => Nat.blt e.on ops.size) && (match o.guard with | some (j, _) => Nat.blt j ops.size | none => true)
def aRegion (P : Program) (call : Callee) (n : Nat) (hint : Option (List Nat)) (ops : Array Oper) (draw : Bool) (t : Tr Value) (H : AH) : Option (Tr Value × AH) :=
 match draw with
 | false => aOps P call n ops ops.toList t H
 | true => match hint with
  | none => aRegion1 P call n ops t H
  | some l => match isPerm ops.size l && refsOk ops with
   | true => aRegion1 P call n (permOps l ops) t H
   | false => none
inductive AX where
 | normal
 | exit (id : Nat)
 | ret
abbrev St := Tr Value × AH
def keepT (t : Tr Value) : List Nat → Tr Value → Tr Value
 | [], acc => acc
 | k :: r, acc => match t.get k with
  | some v => keepT t r (acc.put k v)
  | none => keepT t r acc
def firstRegion : Code → Option Nat
 | .region id _ _ => some id
 | .seq a b => match firstRegion a with
  | some i => some i
  | none => firstRegion b
 | .cond _ a b => match firstRegion a with
  | some i => some i
  | none => firstRegion b
 | .block _ c => firstRegion c
 | .loop c => firstRegion c
 | _ => none
abbrev Keeps := Nat → Option (List Nat)
def cutS (ks : Keeps) (c : Code) (s : St) : St :=
 match firstRegion c with
 | some i => match ks i with
  | some l => (keepT s.1 l .leaf, s.2)
  | none => s
 | none => s
def cutR (ks : Keeps) (id : Nat) (s : St) : St :=
 match ks (id + 2000) with
 | some l => (keepT s.1 l .leaf, s.2)
 | none => s
def aIter (body : St → Option (AX × St)) : Nat → St → Option (AX × St)
 | 0, _ => none
 | k + 1, s => match body s with
  | none => none
  | some (.normal, s') => aIter body k s'
  | some r => some r
def exec (P : Program) (call : Callee) (ks : Keeps) (fuel n : Nat) : Code → St → Option (AX × St)
 | .skip, s => some (.normal, s)
 | .region id ops draw, s => match aRegion P call n (ks (id + 1000)) ops draw s.1 s.2 with
  | some s' => some (.normal, cutR ks id s')
  | none => none
 | .seq a b, s => match exec P call ks fuel n a s with
  | some (.normal, s') => exec P call ks fuel n b s'
  | r => r
 | .cond c x y, s => match ev s.1 c with
  | some (.bool true) => exec P call ks fuel n x s
  | some (.bool false) => exec P call ks fuel n y s
  | _ => none
 | .block id c, s => match exec P call ks fuel n c s with
  | some (.exit j, s') => match Nat.beq j id with
   | true => some (.normal, cutR ks (id + 1000) s')
   | false => some (.exit j, s')
  | some (.normal, s') => some (.normal, cutR ks (id + 1000) s')
  | r => r
 | .loop c, s => aIter (fun s => exec P call ks fuel n c (cutS ks c s)) fuel s
 | .exit id, s => some (.exit id, s)
 | .ret, s => some (.ret, s)
 | _, _ => none
def resV (t : Tr Value) (H : AH) (P : Program) : ResultVar → Option Value
 | .tmp i => t.get i
 | .cell a ty => match t.get a, known P ty with
  | some av, true => match aggSize P ty with
   | some n => loadA H n av
   | none => load1 H av
  | _, _ => none
def resVs (t : Tr Value) (H : AH) (P : Program) : List ResultVar → Option (List Value)
 | [] => some []
 | r :: l => match resV t H P r with
  | none => none
  | some v => match resVs t H P l with
   | none => none
   | some vs => some (v :: vs)
def tupled : List Value → Value
 | [v] => v
 | l => .tuple ⟨l⟩
def argsT (args : Array Value) : Tr Value := Tr.leaf.putAll 0 args.toList
def run (P : Program) (call : Callee) (ks : Keeps) (fuel : Nat) (fn : Func) (args : Array Value) (H : AH) : Option (Value × AH) :=
 match fn.body with
 | none => none
 | some c => match Nat.ble args.size fn.ntmps with
  | false => none
  | true => match exec P call ks fuel fn.ntmps c (argsT args, H) with
   | some (.normal, t, H') => match resVs t H' P fn.results.toList with
    | some l => some (tupled l, H')
    | none => none
   | some (.ret, t, H') => match resVs t H' P fn.results.toList with
    | some l => some (tupled l, H')
    | none => none
   | _ => none
abbrev Prims := FuncId → Option (Array Value → AH → Option (Value × AH))
def callF (P : Program) (prims : Prims) (ks : FuncId → Keeps) : Nat → Callee
 | 0 => fun _ _ _ => none
 | k + 1 => fun f args H => match prims f with
  | some p => p args H
  | none => match P.funcs[f]? with
   | none => none
   | some fn => run P (callF P prims ks k) (ks f) k fn args H
end AM
end Go.Proofs.YtemcmblcogljkaaGreatDoor

