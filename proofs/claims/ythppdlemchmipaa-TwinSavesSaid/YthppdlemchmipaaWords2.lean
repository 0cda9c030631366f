/- More on strings as lists: against constants. -/
import Derived.Test.YthppdlemchmipaaWords
namespace Go.Wd
open Go.RowKit
section
variable (op : BinOp) (t : TypeId) (x y : Operand) (l m : List UInt8) (s : ByteArray)
@[go_sem ↓] theorem eqGuard_S : eqGuard op t x y (S l) (S m) = pure () := by cases op <;> rfl
@[go_sem ↓] theorem eqGuard_S_lit : eqGuard op t x y (S l) (.string s) = pure () := by cases op <;> rfl
@[go_sem ↓] theorem eqGuard_lit_S : eqGuard op t x y (.string s) (S l) = pure () := by cases op <;> rfl
@[go_sem ↓] theorem eql_S_lit : binOp .eql t (S l) (.string s) = pure (.bool (l == s.data.toList)) := eql_S t l s.data.toList
@[go_sem ↓] theorem neq_S_lit : binOp .neq t (S l) (.string s) = pure (.bool (!(l == s.data.toList))) := neq_S t l s.data.toList
@[go_sem ↓] theorem eql_lit_S : binOp .eql t (.string s) (S l) = pure (.bool (s.data.toList == l)) := eql_S t s.data.toList l
@[go_sem ↓] theorem neq_lit_S : binOp .neq t (.string s) (S l) = pure (.bool (!(s.data.toList == l))) := neq_S t s.data.toList l
@[go_sem ↓] theorem eqGuard_U32 (a b : UInt32) : eqGuard op t x y (U32 a) (U32 b) = pure () := by cases op <;> rfl
@[go_sem ↓] theorem eqGuard_U64 (a b : UInt64) : eqGuard op t x y (U64 a) (U64 b) = pure () := by cases op <;> rfl
@[go_sem ↓] theorem eqGuard_U8 (a b : UInt8) : eqGuard op t x y (U8 a) (U8 b) = pure () := by cases op <;> rfl
variable {P : Program} (w : World)
@[go_sem ↓] theorem add_lit_S : (binOp .add t (.string s) (S l)).run P w =
    if s.data.toList.length + l.length > 9223372036854775807 then .halt (.unsupported (.resourceLimit "string concatenation: a sum of the lengths that is no int")) w else .ok (S (s.data.toList ++ l)) w := add_S w t s.data.toList l
@[go_sem ↓] theorem add_S_lit : (binOp .add t (S l) (.string s)).run P w =
    if l.length + s.data.toList.length > 9223372036854775807 then .halt (.unsupported (.resourceLimit "string concatenation: a sum of the lengths that is no int")) w else .ok (S (l ++ s.data.toList)) w := add_S w t l s.data.toList
end
end Go.Wd
