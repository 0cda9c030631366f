/- make([]byte, n), string([]byte), d[:] of an array, as laws for the walk. -/
import Derived.Test.YthppdlemchmipaaWords2
namespace Go.Wd
open Go.RowKit
section
variable {P : Program} {ops : Array Oper} {rest : List Oper} {o : Oper} {a : Act} {w : World} {Q : Exit → Act → World → Prop}
/-- make([]byte, n) -/
theorem wpl_make8 (hgd : o.guard = none) (T e : TypeId) (x y : Operand) (ho : o.op = .makeSlice T x y) (n : Nat) (hx : a.eval x = .int .i64 (n : Int)) (hy : a.eval y = .int .i64 (n : Int))
    (ht : P.underlying T = some (.slice e)) (hi : (P.info? e).map (fun i => (i.zero, i.size, i.bytes)) = some (some (.int .u8 0), 1, 1)) (hn : n ≤ 140737488355328)
    (h : Hid (∀ w1, Row w1 w.heap.size e ((List.replicate n 0).map U8) → w1.heap.size = w.heap.size + 1 → Keeps (fun _ => False) w w1 → wpList P ops Q rest (a.put o.dst (.slice (some ⟨w.heap.size, 0, none⟩) n n)) w1)) : wpList P ops Q (o :: rest) a w := by
  obtain ⟨i, hi, hz, hs, hb⟩ := info_parts hi
  have hr := run_make (P := P) w T e i _ ht hi hz .i64 .i64 (n : Int) (n : Int) (by omega) (by omega) (by rw [hb]; omega) (by omega)
  have hc : madeCells (Value.int .u8 0).cells ((n : Int).toNat * i.size) = ((List.replicate n 0).map U8).toArray := by
    rw [hs, Nat.mul_one, Int.toNat_natCast]
    apply Array.ext'
    rw [show (Value.int .u8 0).cells = #[Value.int .u8 0] from rfl, toList_madeCells_one]
    simp [U8]
  rw [hc, Int.toNat_natCast] at hr
  refine wpList_value hgd (v := .slice (some ⟨w.heap.size, 0, none⟩) n n) (w' := w.alloc (.cells ((List.replicate n 0).map U8).toArray e)) ?_ (h _ (Row.alloc _ _ _) (by simp) ((Keeps.refl _ _).alloc _))
  unfold execOp; rw [ho]
  simp only [hx, hy, Sem.run_bind, hr, Result.andThen_ok, Sem.run_pure]
/-- string(b), the cells known -/
theorem run_string_of (w : World) (src dst e : TypeId) (g off cap : Nat) (l : List UInt8) (hs : P.underlying src = some (.slice e)) (he : P.underlying e = some (.int .u8)) (hd : P.underlying dst = some .string)
    (hc : ∀ j, j < l.length → w.cell? ⟨g, off + j, none⟩ = some (U8 (l.getD j 0))) :
    (convert src dst (.slice (some ⟨g, off, none⟩) l.length cap)).run P w = .ok (S l) w :=
  run_convert_bytes_back w src dst e ⟨g, off, none⟩ cap l hs he hd (fun j hj => by
    have e1 : (⟨g, off, none⟩ : Addr).add j = ⟨g, off + j, none⟩ := by unfold Addr.add; split <;> simp_all
    rw [e1, hc j hj]; simp [List.getD, hj, U8])
end
end Go.Wd
