/- Words as Lean's own numbers, strings as lists of bytes: what the walk computes with. No program. -/
import Derived.WalkKit
import Derived.Handy
import Derived.WalkLawsBesides
import Derived.WalkSpells
import Derived.Test.YthppdlemchmipaaShaSpec
import Derived.Lib.Hide
import Derived.Deep.QuietTactic
import Derived.BigQuiet
import Derived.Deep.DeepCutAuto
import Derived.Lib.FrozenHead2
import Derived.Lib.UnsafeStr
import Derived.Deep.LoopGhost
import Derived.Lib.OthersKept
namespace Go.Wd
open Go.RowKit Go.Sha

def U32 (x : UInt32) : Value := .int .u32 (x.toNat : Int)
def U64 (x : UInt64) : Value := .int .u64 (x.toNat : Int)
def U8 (x : UInt8) : Value := .int .u8 (x.toNat : Int)
def S (l : List UInt8) : Value := .string ⟨l.toArray⟩
theorem S_of (s : ByteArray) : Value.string s = S s.data.toList := rfl

theorem wrap_u32 (n : Int) : IntKind.u32.wrap n = n % 4294967296 := by simp [IntKind.wrap, IntKind.bits, IntKind.signed]
theorem wrap_u64 (n : Int) : IntKind.u64.wrap n = n % 18446744073709551616 := by simp [IntKind.wrap, IntKind.bits, IntKind.signed]
theorem wrap_u8 (n : Int) : IntKind.u8.wrap n = n % 256 := by simp [IntKind.wrap, IntKind.bits, IntKind.signed]

theorem bv32 (x : UInt32) : BitVec.ofInt 32 (x.toNat : Int) = x.toBitVec := by apply BitVec.eq_of_toNat_eq; simp
theorem bv64 (x : UInt64) : BitVec.ofInt 64 (x.toNat : Int) = x.toBitVec := by apply BitVec.eq_of_toNat_eq; simp

theorem back32 (b : BitVec 32) : IntKind.u32.wrap (b.toNat : Int) = ((UInt32.ofBitVec b).toNat : Int) := by
  rw [wrap_u32]; have := b.isLt; simp; omega
theorem back64 (b : BitVec 64) : IntKind.u64.wrap (b.toNat : Int) = ((UInt64.ofBitVec b).toNat : Int) := by
  rw [wrap_u64]; have := b.isLt; simp; omega
theorem U32.of {n : Int} {x : UInt32} (h : n = x.toNat) : Value.int .u32 n = U32 x := by rw [h]; rfl
theorem U64.of {n : Int} {x : UInt64} (h : n = x.toNat) : Value.int .u64 n = U64 x := by rw [h]; rfl
theorem U8.of {n : Int} {x : UInt8} (h : n = x.toNat) : Value.int .u8 n = U8 x := by rw [h]; rfl
section
variable (t : TypeId) (x y : UInt32)
@[go_sem ↓] theorem and32 : binOp .and t (U32 x) (U32 y) = pure (U32 (x &&& y)) := by
  show pure (Value.int .u32 (IntKind.u32.wrap ((BitVec.ofInt 32 (x.toNat : Int) &&& BitVec.ofInt 32 (y.toNat : Int)).toNat : Int))) = _
  rw [bv32, bv32, back32, U32.of rfl]; rfl
@[go_sem ↓] theorem or32 : binOp .or t (U32 x) (U32 y) = pure (U32 (x ||| y)) := by
  show pure (Value.int .u32 (IntKind.u32.wrap ((BitVec.ofInt 32 (x.toNat : Int) ||| BitVec.ofInt 32 (y.toNat : Int)).toNat : Int))) = _
  rw [bv32, bv32, back32, U32.of rfl]; rfl
@[go_sem ↓] theorem xor32 : binOp .xor t (U32 x) (U32 y) = pure (U32 (x ^^^ y)) := by
  show pure (Value.int .u32 (IntKind.u32.wrap ((BitVec.ofInt 32 (x.toNat : Int) ^^^ BitVec.ofInt 32 (y.toNat : Int)).toNat : Int))) = _
  rw [bv32, bv32, back32, U32.of rfl]; rfl
@[go_sem ↓] theorem add32 : binOp .add t (U32 x) (U32 y) = pure (U32 (x + y)) := by
  show pure (Value.int .u32 (IntKind.u32.wrap ((x.toNat : Int) + y.toNat))) = _
  rw [wrap_u32, U32.of (x := x + y)]; simp [UInt32.toNat_add]
@[go_sem ↓] theorem not32 : Op.unary .xor (U32 x) = pure (U32 (~~~ x)) := by
  show pure (Value.int .u32 (IntKind.u32.wrap ((BitVec.ofInt 32 (IntKind.u32.max) ^^^ BitVec.ofInt 32 (x.toNat : Int)).toNat : Int))) = _
  rw [bv32, back32, U32.of rfl]
  have : (UInt32.ofBitVec (BitVec.ofInt 32 IntKind.u32.max ^^^ x.toBitVec)) = ~~~ x := by
    have e : BitVec.ofInt 32 IntKind.u32.max = BitVec.allOnes 32 := by decide
    rw [e, BitVec.allOnes_xor]; rfl
  rw [this]
@[go_sem ↓] theorem shl32 (n : Nat) (h : n < 32) : binOp .shl t (U32 x) (.int .u64 (n : Int)) = pure (U32 (x <<< n.toUInt32)) := by
  have e := shift_shl_u32 .u64 (x.toNat : Int) (n : Int) (by omega) (by omega)
  show Op.shift .shl .u32 _ .u64 _ = _
  rw [e, wrap_u32, U32.of (x := x <<< n.toUInt32)]
  have : n % 4294967296 % 32 = n := by omega
  simp [this, Nat.shiftLeft_eq]
@[go_sem ↓] theorem shr32 (k : IntKind) (n : Nat) (h : n < 32) : binOp .shr t (U32 x) (.int k (n : Int)) = pure (U32 (x >>> n.toUInt32)) := by
  have e := shift_shr_u32 k (x.toNat : Int) (n : Int) (by omega) (by omega)
  show Op.shift .shr .u32 _ k _ = _
  rw [e, U32.of (x := x >>> n.toUInt32)]
  have : n % 4294967296 % 32 = n := by omega
  simp [this, Nat.shiftRight_eq_div_pow]
@[go_sem ↓] theorem shr64 (k : IntKind) (x : UInt64) (n : Nat) (h : n < 64) : binOp .shr t (U64 x) (.int k (n : Int)) = pure (U64 (x >>> n.toUInt64)) := by
  have e := shift_shr_u64 k (x.toNat : Int) (n : Int) (by omega) (by omega)
  show Op.shift .shr .u64 _ k _ = _
  rw [e, U64.of (x := x >>> n.toUInt64)]
  have : n % 18446744073709551616 % 64 = n := by omega
  simp [this, Nat.shiftRight_eq_div_pow]
@[go_sem ↓] theorem mul64 (x y : UInt64) : binOp .mul t (U64 x) (U64 y) = pure (U64 (x * y)) := by
  show pure (Value.int .u64 (IntKind.u64.wrap ((x.toNat : Int) * y.toNat))) = _
  rw [wrap_u64, U64.of (x := x * y)]; simp [UInt64.toNat_mul]
@[go_sem ↓] theorem mul64_8 (x : UInt64) : binOp .mul t (U64 x) (.int .u64 8) = pure (U64 (x * 8)) := mul64 t x 8
@[go_sem ↓] theorem shl32_8 : binOp .shl t (U32 x) (.int .u64 8) = pure (U32 (x <<< 8)) := shl32 t x 8 (by omega)
@[go_sem ↓] theorem shr32_3 : binOp .shr t (U32 x) (.int .u64 3) = pure (U32 (x >>> 3)) := shr32 t x .u64 3 (by omega)
@[go_sem ↓] theorem shr32_10 : binOp .shr t (U32 x) (.int .u64 10) = pure (U32 (x >>> 10)) := shr32 t x .u64 10 (by omega)
end
section
variable {P : Program} (w : World)
theorem conv_of {s d : TypeId} {j k : IntKind} (n : Int) (hs : (P.underlying s).isSome = true) (hd : P.underlying d = some (.int k)) :
    (convert s d (.int j n)).run P w = .ok (.int k (k.wrap n)) w := by
  obtain ⟨e, he⟩ := Option.isSome_iff_exists.mp hs
  simp [convert, run_underlying he, run_underlying hd, Conv.intToInt]
@[go_sem ↓] theorem conv_8_32 (s d : TypeId) (b : UInt8) (hs : (P.underlying s).isSome = true) (hd : P.underlying d = some (.int .u32)) :
    (convert s d (U8 b)).run P w = .ok (U32 b.toUInt32) w := by
  have h := b.toNat_lt
  rw [U8, conv_of w _ hs hd, wrap_u32, U32.of]; simp; omega
@[go_sem ↓] theorem conv_8_64 (s d : TypeId) (b : UInt8) (hs : (P.underlying s).isSome = true) (hd : P.underlying d = some (.int .u64)) :
    (convert s d (U8 b)).run P w = .ok (U64 b.toUInt64) w := by
  have h := b.toNat_lt
  rw [U8, conv_of w _ hs hd, wrap_u64, U64.of]; simp; omega
@[go_sem ↓] theorem conv_8_int (s d : TypeId) (b : UInt8) (hs : (P.underlying s).isSome = true) (hd : P.underlying d = some (.int .i64)) :
    (convert s d (U8 b)).run P w = .ok (.int .i64 (b.toNat : Int)) w := by
  have h := b.toNat_lt
  rw [U8, conv_of w _ hs hd]; simp [IntKind.wrap, IntKind.bits, IntKind.signed]; omega
@[go_sem ↓] theorem conv_32_8 (s d : TypeId) (x : UInt32) (hs : (P.underlying s).isSome = true) (hd : P.underlying d = some (.int .u8)) :
    (convert s d (U32 x)).run P w = .ok (U8 x.toUInt8) w := by
  rw [U32, conv_of w _ hs hd, wrap_u8, U8.of]; simp
theorem conv_int_64 (s d : TypeId) (n : Nat) (hs : (P.underlying s).isSome = true) (hd : P.underlying d = some (.int .u64)) :
    (convert s d (.int .i64 (n : Int))).run P w = .ok (U64 n.toUInt64) w := by
  rw [conv_of w _ hs hd, wrap_u64, U64.of]; simp
@[go_sem ↓] theorem conv_64_8 (s d : TypeId) (x : UInt64) (hs : (P.underlying s).isSome = true) (hd : P.underlying d = some (.int .u8)) :
    (convert s d (U64 x)).run P w = .ok (U8 x.toUInt8) w := by
  rw [U64, conv_of w _ hs hd, wrap_u8, U8.of]; simp

/-! strings -/
variable (t : TypeId) (l m : List UInt8)
theorem S_size : (ByteArray.mk l.toArray).size = l.length := by simp [ByteArray.size]
@[go_sem ↓] theorem len_S (ty : TypeId) (h : P.underlying t = some .string) : (Builtin.len_ #[t] ty #[S l]).run P w = .ok (goInt l.length) w := by
  rw [S, run_len_string _ _ _ _ h, S_size]
theorem S_toList : (ByteArray.mk l.toArray).toList = l := by rw [ByteArray.toList_eq]
@[go_sem ↓] theorem eql_S : binOp .eql t (S l) (S m) = pure (.bool (l == m)) := by
  rw [S, S, binOp_string_eql, S_toList, S_toList]
@[go_sem ↓] theorem neq_S : binOp .neq t (S l) (S m) = pure (.bool (!(l == m))) := by
  rw [S, S, binOp_string_neq, S_toList, S_toList]
theorem S_extract (i j : Nat) : (ByteArray.mk l.toArray).extract i j = ⟨((l.drop i).take (j - i)).toArray⟩ := by
  apply ByteArray.ext
  simp [ByteArray.data_extract]
theorem S_extract_to (j : Nat) : (ByteArray.mk l.toArray).extract 0 j = ⟨(l.take j).toArray⟩ := by simp [S_extract]
theorem S_extract_from (i : Nat) : (ByteArray.mk l.toArray).extract i l.length = ⟨(l.drop i).toArray⟩ := by
  rw [S_extract, List.take_of_length_le (by simp)]
/-- s[i:j] -/
@[go_sem ↓] theorem slice_S (k k' : IntKind) (i j : Int) (h : P.underlying t = some .string) :
    (Instr.slice t (S l) (some (.int k i)) (some (.int k' j)) none).run P w =
      if 0 ≤ j ∧ j ≤ (l.length : Int) then
        (if 0 ≤ i ∧ i ≤ j then .ok (S ((l.drop i.toNat).take (j.toNat - i.toNat))) w
         else ((boundsPanic k i j.toNat .sliceB : Sem Nat).run P w).andThen fun a w' => .ok (S ((l.drop a).take (j.toNat - a))) w')
      else ((boundsPanic k' j l.length .sliceAlen : Sem Nat).run P w).andThen fun b w' =>
        ((Instr.sliceBound (.int k i) b .sliceB).run P w').andThen fun a w'' => .ok (S ((l.drop a).take (b - a))) w'' := by
  rw [S, run_slice_string_if _ _ _ _ _ _ _ h]; simp only [S_size, S_extract]; rfl
/-- s[i:] -/
@[go_sem ↓] theorem slice_S_from (k : IntKind) (i : Int) (h : P.underlying t = some .string) :
    (Instr.slice t (S l) (some (.int k i)) none none).run P w =
      if 0 ≤ i ∧ i ≤ (l.length : Int) then .ok (S (l.drop i.toNat)) w
      else ((boundsPanic k i l.length .sliceB : Sem Nat).run P w).andThen fun a w' => .ok (S (l.drop a)) w' := by
  rw [S, run_slice_string_from_if _ _ _ _ _ h]; simp only [S_size, S_extract_from]; rfl
/-- s[:j] -/
@[go_sem ↓] theorem slice_S_to (k : IntKind) (j : Int) (h : P.underlying t = some .string) :
    (Instr.slice t (S l) none (some (.int k j)) none).run P w =
      if 0 ≤ j ∧ j ≤ (l.length : Int) then .ok (S (l.take j.toNat)) w
      else ((boundsPanic k j l.length .sliceAlen : Sem Nat).run P w).andThen fun a w' => .ok (S (l.take a)) w' := by
  rw [S, run_slice_string_to_if _ _ _ _ _ h]; simp only [S_size, S_extract_to]; rfl
/-- s[i] -/
@[go_sem ↓] theorem index_S (k : IntKind) (i : Int) (h : P.underlying t = some .string) :
    (Instr.index t (S l) (.int k i)).run P w =
      if 0 ≤ i ∧ i < (l.length : Int) then .ok (U8 (l.getD i.toNat 0)) w else (boundsPanic k i l.length .index).run P w := by
  rw [S, run_index_string _ _ _ _ _ h]
  simp only [S_size]
  by_cases hi : 0 ≤ i ∧ i < (l.length : Int)
  · have hn : i.toNat < l.length := by omega
    rw [dif_pos hi, if_pos hi]
    have : (ByteArray.mk l.toArray)[i.toNat]'(by rw [S_size]; exact hn) = l.getD i.toNat 0 := by
      show l.toArray[i.toNat] = _
      simp [List.getD, hn]
    rw [this]; rfl
  · rw [dif_neg hi, if_neg hi]
/-- s + t -/
@[go_sem ↓] theorem add_S : (binOp .add t (S l) (S m)).run P w =
    if l.length + m.length > 9223372036854775807 then .halt (.unsupported (.resourceLimit "string concatenation: a sum of the lengths that is no int")) w else .ok (S (l ++ m)) w := by
  rw [S, S, binOp_string_add, run_string_add_if]
  simp only [S_size]
  split
  · rfl
  · have e : (ByteArray.mk l.toArray ++ ByteArray.mk m.toArray) = ⟨(l ++ m).toArray⟩ := by apply ByteArray.ext; simp [ByteArray.data_append]
    rw [e]; rfl

/-- The cells of []byte(s): the bytes, then zeros up to the capacity. -/
def byteRow (l : List UInt8) (c : Nat) : Array Value := (l.map U8 ++ List.replicate (c - l.length) (U8 0)).toArray
theorem byteRow_size (c : Nat) (h : l.length ≤ c) : (byteRow l c).size = c := by simp [byteRow]; omega
theorem byteRow_at (c j : Nat) (h : j < l.length) : (byteRow l c)[j]? = some (U8 (l.getD j 0)) := by
  simp [byteRow, List.getD, List.getElem?_append, h]
theorem bytesRow_eq (c : Nat) : bytesRow ⟨l.toArray⟩ c = byteRow l c := by
  simp [bytesRow, byteRow, S_size, U8]
end
section
variable {P : Program} {ops : Array Oper} {rest : List Oper} {o : Oper} {a : Act} {w : World} {Q : Exit → Act → World → Prop}
theorem wpList_value (hgd : o.guard = none) {v : Value} {w' : World} (hrun : (execOp a.eval o).run P w = .ok (.value v) w') (h : wpList P ops Q rest (a.put o.dst v) w') : wpList P ops Q (o :: rest) a w :=
  wpList_plain hgd fun _ hK => by unfold Oper.wp; rw [hrun]; exact hK _ _ h
/-- []byte(s) -/
theorem wpList_bytes_of (hgd : o.guard = none) (src dst e : TypeId) (x : Operand) (ho : o.op = .convert src dst x) (l : List UInt8) (hx : a.eval x = S l)
    (hs : P.underlying src = some .string) (hd : P.underlying dst = some (.slice e)) (he : P.underlying e = some (.int .u8))
    (h : ∀ c w1, l.length ≤ c → w1.heap[w.heap.size]? = some (.cells (byteRow l c) e (c, c + 1)) → w1.heap.size = w.heap.size + 1 → Below w.heap.size w w1 →
      wpList P ops Q rest (a.put o.dst (.slice (some ⟨w.heap.size, 0, none⟩) l.length c)) w1) : wpList P ops Q (o :: rest) a w := by
  have hr := run_bytes_of_string (P := P) w src dst e ⟨l.toArray⟩ hs hd he
  rw [bytesRow_eq] at hr
  have hc : l.length ≤ grownCap w (ByteArray.mk l.toArray).size 0 e := by rw [S_size]; exact grownCap_ge ..
  rw [byteRow_size _ _ hc] at hr
  rw [S_size] at hr hc
  refine wpList_value (w' := (w.drew.alloc (.cells (byteRow l (grownCap w l.length 0 e)) e ((grownCap w l.length 0 e), (grownCap w l.length 0 e) + 1)))) hgd (v := .slice (some ⟨w.heap.size, 0, none⟩) l.length (grownCap w l.length 0 e)) ?_ (h _ _ hc ?_ ?_ ?_)
  · unfold execOp; rw [ho]; simp only [hx]
    simp only [Sem.run_bind]
    rw [S, hr]; rfl
  · exact heap_alloc_new _ _
  · simp
  · exact ((Below.refl _ _).drew).alloc (by simp [heap_drew]) _
end
@[go_sem high] theorem cells_U32 (x : UInt32) : Value.cells.match_1 (fun _ => Array Value) (U32 x) (fun cs => cs) (fun v => #[v]) = #[U32 x] := rfl
@[go_sem high] theorem cells_U64 (x : UInt64) : Value.cells.match_1 (fun _ => Array Value) (U64 x) (fun cs => cs) (fun v => #[v]) = #[U64 x] := rfl
@[go_sem high] theorem cells_U8 (x : UInt8) : Value.cells.match_1 (fun _ => Array Value) (U8 x) (fun cs => cs) (fun v => #[v]) = #[U8 x] := rfl
@[go_sem high] theorem cells_S (l : List UInt8) : Value.cells.match_1 (fun _ => Array Value) (S l) (fun cs => cs) (fun v => #[v]) = #[S l] := rfl
section
variable {P : Program} (w : World) (a : Addr) (m : Mode)
@[go_sem] theorem run_store_U32 (x : UInt32) : (store a (U32 x) m).run P w = stored P w a (U32 x) m := run_store P w a _ m rfl
@[go_sem] theorem run_store_U64 (x : UInt64) : (store a (U64 x) m).run P w = stored P w a (U64 x) m := run_store P w a _ m rfl
@[go_sem] theorem run_store_U8 (x : UInt8) : (store a (U8 x) m).run P w = stored P w a (U8 x) m := run_store P w a _ m rfl
@[go_sem] theorem run_store_S (l : List UInt8) : (store a (S l) m).run P w = stored P w a (S l) m := run_store P w a _ m rfl
end
theorem modify_modify {α : Type} (xs : Array α) (i : Nat) (f g : α → α) : (xs.modify i f).modify i g = xs.modify i (fun x => g (f x)) := by
  apply Array.ext
  · simp
  · intro j h1 h2
    simp only [Array.getElem_modify]
    by_cases h : i = j <;> simp [h]
@[go_sem] theorem setCell_again (w : World) (a : Addr) (u v : Value) : (w.setCell a u).setCell a v = w.setCell a v := by
  simp only [World.setCell, modify_modify]
  congr 2
  funext x
  cases x <;> try rfl
  rename_i c e fr
  simp only
  split
  · rfl
  · rw [Array.setIfInBounds_setIfInBounds]
/-! a block of cells -/
def Row (w : World) (b : Nat) (T : TypeId) (cs : List Value) : Prop := w.heap[b]? = some (.cells cs.toArray T (0, 0))
section
variable {w w1 : World} {b B : Nat} {T : TypeId} {cs ds : List Value}
theorem Row.cell (h : Row w b T cs) (j : Nat) : w.cell? ⟨b, j, none⟩ = cs[j]? := by
  unfold Row at h; simp [World.cell?, h]
theorem Row.frozen (h : Row w b T cs) (j : Nat) : w.frozen? ⟨b, j, none⟩ = false := by
  unfold Row at h; simp [World.frozen?, h]
theorem Row.lt (h : Row w b T cs) : b < w.heap.size := by
  rcases Nat.lt_or_ge b w.heap.size with h' | h'
  · exact h'
  · unfold Row at h; simp [Array.getElem?_eq_none h'] at h
theorem Row.keep (h : Row w b T cs) (hb : w1.heap[b]? = w.heap[b]?) : Row w1 b T cs := hb.trans h
theorem Row.mono (h : Row w b T cs) (hb : Below B w w1) (hB : b < B) : Row w1 b T cs := (hb.block _ hB).trans h
theorem Row.set (h : Row w b T cs) (k : Nat) (v : Value) (hm : cs.set k v = ds) : Row (w.setCell ⟨b, k, none⟩ v) b T ds := by
  unfold Row at h ⊢
  rw [heap_setCell_same _ _ _ _ _ _ h, ← hm]
  simp
theorem Row.alloc (w : World) (T : TypeId) (cs : List Value) : Row (w.alloc (.cells cs.toArray T)) w.heap.size T cs := heap_alloc_new _ _
theorem Row.drewN (h : Row w b T cs) (n : Nat) : Row (w.drewN n) b T cs := h
theorem Row.drew (h : Row w b T cs) : Row w.drew b T cs := h
theorem getD_map_some {α : Type} {f : α → Value} {l : List α} (j : Nat) (d : α) (hj : j < l.length) : (l.map f)[j]? = some (f (l.getD j d)) := by
  simp [List.getD, hj]
theorem Row.cell32 {l : List UInt32} (h : Row w b T (l.map U32)) (j : Nat) (hj : j < l.length) : w.cell? ⟨b, j, none⟩ = some (U32 (l.getD j 0)) := (h.cell j).trans (getD_map_some j 0 hj)
theorem Row.cell64 {l : List UInt64} (h : Row w b T (l.map U64)) (j : Nat) (hj : j < l.length) : w.cell? ⟨b, j, none⟩ = some (U64 (l.getD j 0)) := (h.cell j).trans (getD_map_some j 0 hj)
theorem Row.cell8 {l : List UInt8} (h : Row w b T (l.map U8)) (j : Nat) (hj : j < l.length) : w.cell? ⟨b, j, none⟩ = some (U8 (l.getD j 0)) := (h.cell j).trans (getD_map_some j 0 hj)
theorem Row.set32 {l m : List UInt32} (h : Row w b T (l.map U32)) (k : Nat) (x : UInt32) (hm : l.set k x = m) : Row (w.setCell ⟨b, k, none⟩ (U32 x)) b T (m.map U32) := h.set k _ (by rw [← hm, List.map_set])
theorem Row.set64 {l m : List UInt64} (h : Row w b T (l.map U64)) (k : Nat) (x : UInt64) (hm : l.set k x = m) : Row (w.setCell ⟨b, k, none⟩ (U64 x)) b T (m.map U64) := h.set k _ (by rw [← hm, List.map_set])
theorem Row.set8 {l m : List UInt8} (h : Row w b T (l.map U8)) (k : Nat) (x : UInt8) (hm : l.set k x = m) : Row (w.setCell ⟨b, k, none⟩ (U8 x)) b T (m.map U8) := h.set k _ (by rw [← hm, List.map_set])
end
/-! what a call leaves alone -/
structure Keeps (F : Nat → Prop) (w w' : World) : Prop where
  os : w'.os = w.os
  tape : w'.tape = w.tape
  output : w'.output = w.output
  size : w.heap.size ≤ w'.heap.size
  block : ∀ k, k < w.heap.size → ¬ F k → w'.heap[k]? = w.heap[k]?
section
variable {F G : Nat → Prop} {a b c w w1 : World} {B n : Nat} {T : TypeId} {cs : List Value}
theorem Keeps.refl (F : Nat → Prop) (w : World) : Keeps F w w := ⟨rfl, rfl, rfl, Nat.le_refl _, fun _ _ _ => rfl⟩
theorem Keeps.trans (h : Keeps F a b) (k : Keeps G b c) (hG : ∀ x, x < a.heap.size → G x → F x) : Keeps F a c :=
  ⟨k.os.trans h.os, k.tape.trans h.tape, k.output.trans h.output, Nat.le_trans h.size k.size,
   fun i hi hn => (k.block i (Nat.lt_of_lt_of_le hi h.size) (fun hg => hn (hG i hi hg))).trans (h.block i hi hn)⟩
theorem Keeps.then (h : Keeps F a b) (k : Keeps F b c) : Keeps F a c := h.trans k (fun _ _ h => h)
theorem Keeps.weak (h : Keeps F a b) (hG : ∀ x, x < a.heap.size → F x → G x) : Keeps G a b :=
  ⟨h.os, h.tape, h.output, h.size, fun i hi hn => h.block i hi fun hf => hn (hG i hi hf)⟩
theorem Keeps.of_below (h : Below B a b) (hF : ∀ x, x < a.heap.size → B ≤ x → F x) : Keeps F a b :=
  ⟨h.os, h.tape, h.output, h.size, fun i hi hn => h.block i (by
    rcases Nat.lt_or_ge i B with h' | h'
    · exact h'
    · exact absurd (hF i hi h') hn)⟩
theorem Keeps.of_new (h : Below a.heap.size a b) : Keeps F a b := Keeps.of_below h (fun x hx hb => by omega)
theorem Keeps.below (h : Keeps F a b) (hB : B ≤ a.heap.size) (hF : ∀ x, x < B → ¬ F x) : Below B a b :=
  ⟨h.os, h.tape, h.output, h.size, fun k hk => h.block k (by omega) (hF k hk)⟩
theorem Keeps.drew (h : Keeps F a b) : Keeps F a b.drew := ⟨h.os, h.tape, h.output, h.size, h.block⟩
theorem Keeps.drewN (h : Keeps F a b) (n : Nat) : Keeps F a (b.drewN n) := ⟨h.os, h.tape, h.output, h.size, h.block⟩
theorem Keeps.alloc (h : Keeps F a b) (o : Obj) : Keeps F a (b.alloc o) :=
  h.trans (Keeps.of_new (F := F) ((Below.refl _ _).alloc (Nat.le_refl _) o)) (fun _ _ h => h)
theorem Keeps.setCell (h : Keeps F a b) {p : Addr} (hp : p.block < a.heap.size → F p.block) (u : Value) : Keeps F a (b.setCell p u) :=
  ⟨h.os, h.tape, h.output, by simpa [World.setCell] using h.size, fun k hk hn => by
    rw [Below.heap_setCell b p u k (fun e => hn (by rw [e]; exact hp (by rw [← e]; exact hk)))]
    exact h.block k hk hn⟩
theorem Keeps.setRow (h : Keeps F a b) {g : Nat} (hp : g < a.heap.size → F g) (u : Array Value) : Keeps F a (b.setRow g u) :=
  ⟨h.os, h.tape, h.output, by simpa using h.size, fun k hk hn => by
    rw [setRow_other b g k u (fun e => hn (by rw [e]; exact hp (by rw [← e]; exact hk)))]
    exact h.block k hk hn⟩
theorem Row.keeps (h : Row w n T cs) (hk : Keeps F w w1) (hn : ¬ F n) : Row w1 n T cs := (hk.block n h.lt hn).trans h
end
section
variable {P : Program} (w : World)
/-- an array's element, at an index that is reckoned -/
theorem index_arr {α : Type} (f : α → Value) (l : List α) (d : α) (t e : TypeId) {td : TypeDesc} (ht : P.underlying t = some (.array l.length e)) (he : (P.info? e).map (·.size) = some 1)
    (hu : P.underlying e = some td) (hagg : (match td with | .struct _ | .array _ _ => true | _ => false) = false) (k : IntKind) (i : Int) (h0 : 0 ≤ i) (h1 : i < l.length) :
    (Instr.index t (.agg (l.map f).toArray) (.int k i)).run P w = .ok (f (l.getD i.toNat d)) w := by
  have hi : i.toNat < l.length := by omega
  cases hq : P.info? e with
  | none => simp [hq] at he
  | some q =>
    have hs : q.size = 1 := by simpa [hq] using he
    have ha : (isAgg e).run P w = .ok false w := by
      unfold isAgg
      rw [Sem.run_bind, run_underlying hu w]
      cases td <;> simp_all
    simp [Instr.index, asIntOf, Sem.run_bind, run_underlying ht, h0, h1, sizeOf, typeInfo, hq, hs, part, ha, List.getD, hi]
end
/-! operations on whole variables: the world behind each is any that has the fact -/
section
variable {P : Program} {ops : Array Oper} {rest : List Oper} {o : Oper} {a : Act} {w : World} {Q : Exit → Act → World → Prop}
/-- a new variable of type T -/
theorem wpl_alloc (hgd : o.guard = none) (T : TypeId) (ho : o.op = .alloc T) (cs : List Value) (hz : (P.info? T).map (·.zero.map (·.cells)) = some (some cs.toArray))
    (h : Hid (∀ w1, Row w1 w.heap.size T cs → w1.heap.size = w.heap.size + 1 → Keeps (fun _ => False) w w1 → wpList P ops Q rest (a.put o.dst (.pointer (some ⟨w.heap.size, 0, none⟩))) w1)) : wpList P ops Q (o :: rest) a w := by
  cases hq : P.info? T with
  | none => simp [hq] at hz
  | some i =>
    cases hzz : i.zero with
    | none => simp [hq, hzz] at hz
    | some z =>
      have hc : z.cells = cs.toArray := by simpa [hq, hzz] using hz
      refine wpList_value hgd (v := .pointer (some ⟨w.heap.size, 0, none⟩)) (w' := w.alloc (.cells cs.toArray T)) ?_ (h _ (Row.alloc w T cs) (by simp) ((Keeps.refl _ _).alloc _))
      have hv : (newVar T z).run P w = .ok ⟨w.heap.size, 0, none⟩ (w.alloc (.cells cs.toArray T)) := by rw [← hc]; rfl
      have hzr : (zeroValue T).run P w = .ok z w := by simp [zeroValue, typeInfo, hq, hzz]
      unfold execOp; rw [ho]
      simp only [Instr.alloc, Sem.run_bind, hzr, hv, Result.andThen_ok, Sem.run_pure]
/-- a store of a whole array or struct into a block of its own -/
theorem wpl_store (hgd : o.guard = none) (T : TypeId) (x y : Operand) (ho : o.op = .store T x y) (g : Nat) (T' : TypeId) (cs ds : List Value) (hx : a.eval x = .pointer (some ⟨g, 0, none⟩)) (hy : a.eval y = .agg ds.toArray)
    (hr : Row w g T' cs) (hi : (P.info? T).map (·.size) = some ds.length) (hl : cs.length = ds.length) (h1 : ∀ v ∈ ds, v.oneCell' = true)
    (h : Hid (∀ w1, Row w1 g T' ds → w1.heap.size = w.heap.size → Keeps (· = g) w w1 → wpList P ops Q rest (a.put o.dst undef) w1)) : wpList P ops Q (o :: rest) a w :=
  wpList_store_row hgd T x y ho g ds.toArray hx hy T' cs.toArray hr (by simpa using hi) (by simpa using hl) (by simpa [Array.all_eq_true_iff_forall_mem] using h1)
    (h _ (setRow_heap _ _ _ _ _ _ hr) (by simp) ((Keeps.refl (· = g) w).setRow (fun _ => rfl) _))
/-- a load of a whole array or struct out of a block of its own -/
theorem wpl_load (hgd : o.guard = none) (T : TypeId) (x : Operand) (ho : o.op = .load T x) (g : Nat) (T' : TypeId) (cs : List Value) (hx : a.eval x = .pointer (some ⟨g, 0, none⟩))
    (hr : Row w g T' cs) {d : TypeDesc} (hu : P.underlying T = some d) (hd : (match d with | .struct _ | .array _ _ => true | _ => false) = true) (hi : (P.info? T).map (·.size) = some cs.length)
    (h : wpList P ops Q rest (a.put o.dst (.agg cs.toArray)) w) : wpList P ops Q (o :: rest) a w :=
  wpList_load_row hgd T x ho g hx T' cs.toArray (0, 0) d hr hu hd (by simpa using hi) h
/-- an array or struct out of its parts, each known -/
theorem wpl_build (hgd : o.guard = none) (T : TypeId) (parts : Array (Nat × Operand)) (ho : o.op = .build T parts) (cs : List Value)
    (hb : P.built T (parts.map fun (i, x) => (i, a.eval x)).toList = some cs.toArray)
    (h : wpList P ops Q rest (a.put o.dst (.agg cs.toArray)) w) : wpList P ops Q (o :: rest) a w :=
  wpList_build hgd T parts ho (by rw [hb]; rfl) (by rw [hb]; exact h)
end
theorem oneCell_32 {l : List UInt32} : ∀ v ∈ l.map U32, v.oneCell' = true := by
  intro v hv; obtain ⟨x, _, rfl⟩ := List.mem_map.1 hv; rfl
theorem oneCell_64 {l : List UInt64} : ∀ v ∈ l.map U64, v.oneCell' = true := by
  intro v hv; obtain ⟨x, _, rfl⟩ := List.mem_map.1 hv; rfl
theorem oneCell_8 {l : List UInt8} : ∀ v ∈ l.map U8, v.oneCell' = true := by
  intro v hv; obtain ⟨x, _, rfl⟩ := List.mem_map.1 hv; rfl
theorem cell_keeps {F : Nat → Prop} {w w1 : World} (hk : Keeps F w w1) {a : Addr} {u : Value} (h : w.cell? a = some u) (hn : ¬ F a.block) : w1.cell? a = some u := by
  rw [World.cell?_of_block (w := w) (hk.block a.block (block_lt_of_cell h) hn)]; exact h
theorem add_block (a : Addr) (n : Nat) : (a.add n).block = a.block := by unfold Addr.add; split <;> rfl
/-! a strings.Builder at the head of a block (alone, or the first field of a struct) -/
/-- what its methods leave alone: what lies below B; every block but b that is no row of the type e -/
structure BK (e : TypeId) (B b : Nat) (w w' : World) : Prop where
  below : Below B w w'
  others : ∀ k o, k ≠ b → w.heap[k]? = some o → (∀ c fz, o ≠ .cells c e fz) → w'.heap[k]? = some o
section
variable {e T : TypeId} {B b n : Nat} {w w1 w2 : World} {cs : List Value}
theorem BK.refl (e : TypeId) (B b : Nat) (w : World) : BK e B b w w := ⟨Below.refl _ _, fun _ _ _ h _ => h⟩
theorem BK.trans (h : BK e B b w w1) (k : BK e B b w1 w2) : BK e B b w w2 := ⟨h.below.trans k.below, fun i o hi ho hc => k.others i o hi (h.others i o hi ho hc) hc⟩
theorem BK.of_keeps (h : Keeps (· = b) w w1) (hB : B ≤ b) (hBw : B ≤ w.heap.size) : BK e B b w w1 :=
  ⟨h.below hBw (fun x hx (hxb : x = b) => by omega), fun k o hk ho _ => by rw [h.block k (Array.getElem?_eq_some_iff.1 ho).1 hk]; exact ho⟩
theorem BK.drew (h : BK e B b w w1) : BK e B b w w1.drew := ⟨h.below.drew, h.others⟩
theorem BK.alloc (h : BK e B b w w1) (hB : B ≤ w.heap.size) (o : Obj) : BK e B b w (w1.alloc o) :=
  ⟨h.below.alloc (Nat.le_trans hB h.below.size) o, fun k p hk hp hc => by
    have h1 := h.others k p hk hp hc
    exact (Lib.alloc_old w1 o k (Array.getElem?_eq_some_iff.1 h1).1).trans h1⟩
theorem BK.setCell (h : BK e B b w w1) (hB : B ≤ b) (i : Nat) (v : Value) : BK e B b w (w1.setCell ⟨b, i, none⟩ v) :=
  ⟨h.below.setCell (p := ⟨b, i, none⟩) hB v, fun k p hk hp hc => by rw [Below.heap_setCell _ _ _ _ hk]; exact h.others k p hk hp hc⟩
theorem BK.row (h : BK e B b w w1) (hr : Row w n T cs) (hn : n ≠ b) (hT : T ≠ e) : Row w1 n T cs :=
  h.others n _ hn hr (fun c fz hh => hT (by injection hh))
theorem BK.size (h : BK e B b w w1) : w.heap.size ≤ w1.heap.size := h.below.size
end
/-- the builder itself: it holds the bytes bs; behind its two cells the block bears 'rest' -/
def BldP (e T : TypeId) (rest : List Value) (B b : Nat) (p v : Value) (bs : List UInt8) (w : World) : Prop :=
  B ≤ b ∧ T ≠ e ∧ Row w b T (p :: v :: rest) ∧ w.ownsRowF B e 1 v bs.length (bs.map U8)
def Bld (e T : TypeId) (rest : List Value) (B b : Nat) (bs : List UInt8) (w : World) : Prop :=
  ∃ p v, (p = .pointer none ∨ p = .pointer (some ⟨b, 0, none⟩)) ∧ BldP e T rest B b p v bs w
section
variable {e T : TypeId} {rest rest' : List Value} {B b : Nat} {p q v v' : Value} {bs cs : List UInt8} {w w' : World}
theorem BldP.ne (h : BldP e T rest B b p v bs w) : v.ownBlock ≠ some b := Lib.ownBlock_neF h.2.2.2 h.2.2.1 h.2.1
theorem BldP.lt (h : BldP e T rest B b p v bs w) : b < w.heap.size := h.2.2.1.lt
theorem BldP.fresh (hB : B ≤ b) (hT : T ≠ e) (hr : Row w b T (.pointer none :: .slice none 0 0 :: rest)) : Bld e T rest B b [] w :=
  ⟨_, _, .inl rfl, hB, hT, hr, World.ownsRowF_nil _ _ _ _⟩
theorem grownSet (b : Nat) {i : Nat} (u : Value) : w.grownBy (w.setCell ⟨b, i, none⟩ u) (some b) :=
  ⟨rfl, rfl, rfl, by simp [World.setCell], fun k _ hk => Below.heap_setCell _ _ _ _ (fun e => hk (by simp [e]))⟩
theorem BldP.setP (h : BldP e T rest B b p v bs w) (q : Value) : BldP e T rest B b q v bs (w.setCell ⟨b, 0, none⟩ q) :=
  ⟨h.1, h.2.1, h.2.2.1.set 0 q rfl, h.2.2.2.kept (grownSet _ _) (.inr h.ne)⟩
theorem BldP.setRest (h : BldP e T rest B b p v bs w) (i : Nat) (u : Value) (hr : rest.set i u = rest') : BldP e T rest' B b p v bs (w.setCell ⟨b, i + 2, none⟩ u) :=
  ⟨h.1, h.2.1, h.2.2.1.set (i + 2) u (by simp [hr]), h.2.2.2.kept (grownSet _ _) (.inr h.ne)⟩
/-- behind an append that has given v', and the store of it -/
theorem BldP.put (h : BldP e T rest B b p v bs w) {w1 : World} (hg : w.grownBy w1 v.ownBlock) (hown : w1.ownsRowF B e 1 v' cs.length (cs.map U8)) :
    BldP e T rest B b p v' cs (w1.setCell ⟨b, 1, none⟩ v') := by
  have hr : Row w1 b T (p :: v :: rest) := (hg.block b h.lt (fun e => h.ne e.symm)).trans h.2.2.1
  have hne := Lib.ownBlock_neF hown hr h.2.1
  exact ⟨h.1, h.2.1, hr.set 1 v' rfl, hown.kept (row := some b) ⟨rfl, rfl, rfl, by simp [World.setCell], fun k _ hk => Below.heap_setCell _ _ _ _ (fun e => hk (by simp [e]))⟩ (.inr hne)⟩
theorem BK.grown (h : BK e B b w w') {w2 : World} {base n size : Nat} {xs : List Value} (hg : w'.grownBy w2 v.ownBlock) (hown : w'.ownsRowF base e size v n xs) (hB : B ≤ base) (hBw : B ≤ w'.heap.size) : BK e B b w w2 :=
  ⟨h.below.grown hg hBw (fun k hk => Nat.le_trans hB (hown.lt k hk).1), fun k o hk ho hc => by
    have h1 := h.others k o hk ho hc
    rw [hg.block k (Array.getElem?_eq_some_iff.1 h1).1 ?_]
    · exact h1
    · intro he
      rcases hown.2 with ⟨rfl, _⟩ | ⟨g, cap, cur, fz, rfl, _, hgg, _⟩
      · simp [Value.ownBlock] at he
      · simp only [Value.ownBlock, Option.some.injEq] at he
        subst he
        rw [hgg] at h1
        injection h1 with h1
        exact hc _ _ h1.symm⟩
theorem BldP.froze {g cap : Nat} (h : BldP e T rest B b p (.slice (some ⟨g, 0, none⟩) bs.length cap) bs w) : BldP e T rest B b p (.slice (some ⟨g, 0, none⟩) bs.length cap) bs (w.freeze ⟨g, 0, none⟩ bs.length) := by
  have hne := h.ne
  obtain ⟨hB, hT, hb, hown⟩ := h
  have hgb : g ≠ b := fun e => hne (by simp [Value.ownBlock, e])
  unfold World.freeze
  split
  · exact ⟨hB, hT, hb, hown⟩
  · rename_i hn0
    refine ⟨hB, hT, ?_, ⟨hown.1, ?_⟩⟩
    · unfold Row at hb ⊢
      simp only [Array.getElem?_modify]
      rw [if_neg hgb]
      exact hb
    · rcases hown.2 with ⟨hv, _⟩ | ⟨g', cap', cur, fz, hv, hbg, hg, hfz, rest⟩
      · cases hv
      · injection hv with ha _ hcap
        injection ha with ha
        injection ha with hgg _ _
        subst hgg
        subst hcap
        obtain ⟨lo, hi⟩ := fz
        refine .inr ⟨g, _, cur, (if lo == hi then (0, 0 + bs.length) else (min lo 0, max hi (0 + bs.length))), rfl, hbg, ?_, ?_, rest⟩
        · simp [Array.getElem?_modify, hg]
        · simp only at hfz
          split <;> simp <;> omega
theorem BK.freeze (h : BK e B b w w') {g n : Nat} (hB : B ≤ g) {c : Array Value} {fz : Nat × Nat} (hg : w'.heap[g]? = some (.cells c e fz)) : BK e B b w (w'.freeze ⟨g, 0, none⟩ n) :=
  ⟨Lib.below_freeze h.below (p := ⟨g, 0, none⟩) hB n, fun k o hk ho hc => by
    have h1 := h.others k o hk ho hc
    unfold World.freeze
    split
    · exact h1
    · simp only [Array.getElem?_modify]
      split
      · rename_i e'
        subst e'
        rw [hg] at h1
        injection h1 with h1
        exact absurd h1.symm (hc _ _)
      · exact h1⟩
theorem BldP.below {w1 : World} (h : BldP e T rest B b p v bs w) (hk : Keeps (fun _ => False) w w1) : BldP e T rest B b p v bs w1 :=
  ⟨h.1, h.2.1, h.2.2.1.keeps hk id, h.2.2.2.kept (row := none) ⟨hk.os, hk.tape, hk.output, hk.size, fun k hlt _ => hk.block k hlt id⟩ (by cases hv : v.ownBlock <;> simp)⟩
theorem Bld.keeps {w1 : World} (h : Bld e T rest B b bs w) (hk : Keeps (fun _ => False) w w1) : Bld e T rest B b bs w1 := by
  obtain ⟨p, v, hp, h⟩ := h; exact ⟨p, v, hp, h.below hk⟩
theorem Bld.lt (h : Bld e T rest B b bs w) : b < w.heap.size := by obtain ⟨p, v, hp, h⟩ := h; exact h.lt
theorem Bld.le (h : Bld e T rest B b bs w) : B ≤ b := by obtain ⟨p, v, hp, h⟩ := h; exact h.1
theorem Bld.ne (h : Bld e T rest B b bs w) : T ≠ e := by obtain ⟨p, v, hp, h⟩ := h; exact h.2.1
end
/-- a slice of strings that reads as the list ls -/
def SlS (w : World) (v : Value) (ls : List (List UInt8)) : Prop :=
  ∃ a c, v = .slice a ls.length c ∧ ls.length ≤ c ∧ (ls = [] ∨ ∃ bk o, a = some ⟨bk, o, none⟩ ∧ ∀ j l, ls[j]? = some l → w.cell? ⟨bk, o + j, none⟩ = some (S l))
theorem SlS.nil (w : World) : SlS w (.slice none 0 0) [] := ⟨none, 0, rfl, Nat.le_refl _, .inl rfl⟩
theorem SlS.below {w w1 : World} {v : Value} {ls : List (List UInt8)} (h : SlS w v ls) (hb : Below w.heap.size w w1) : SlS w1 v ls := by
  obtain ⟨a, c, hv, hc, h⟩ := h
  refine ⟨a, c, hv, hc, h.imp id ?_⟩
  rintro ⟨bk, o, ha, hcell⟩
  exact ⟨bk, o, ha, fun j l hj => by
    have := hcell j l hj
    rw [hb.cell (p := ⟨bk, o + j, none⟩) (block_lt_of_cell this)]; exact this⟩
/-- a sum of 256 bits, or any array of bytes, as a value -/
def D (l : List UInt8) : Value := .agg (l.map U8).toArray
theorem rotmask : ∀ k : Fin 32, bits .and .u64 (IntKind.u64.wrap (-((k.val+1 : Nat) : Int))) 31 = ((31 - k.val : Nat) : Int) := by decide
end Go.Wd
