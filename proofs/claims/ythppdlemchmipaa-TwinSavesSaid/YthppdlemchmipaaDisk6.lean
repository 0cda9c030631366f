/- slices.Backward at the disk's writes: a range over a function. -/
import Derived.RangeFuncNested
import Derived.RangeFuncBound
import Derived.RangeFuncCalls
import Derived.RangeFuncLeaves
import Derived.RangeFuncBox
import Derived.Shelf.Abstract
import Derived.Shelf.RegionOpen
import Derived.WalkKit
import Derived.OwnWalkIn
import Derived.TacticsInMore
import Derived.LoopNIn
import Derived.LoopIn
import Derived.Test.YthppdlemchmipaaDisk3
namespace Go.Proofs.Ythppdlemchmipaa
open Go.RowKit Go.Wd Go.Shelf
attribute [local go_sem] Oper.semAt_some

/-- the k-th round: the index and the write -/
def roundW (l : List (Nat × List UInt8)) (j : Nat) : Nat × (Nat × List UInt8) := (l.length - 1 - j, l.getD (l.length - 1 - j) (0, []))
def uptoW (l : List (Nat × List UInt8)) (k : Nat) : List (Nat × (Nat × List UInt8)) := (List.range k).map (roundW l)
theorem uptoW_succ (l : List (Nat × List UInt8)) (k : Nat) : uptoW l (k + 1) = uptoW l k ++ [roundW l k] := by simp [uptoW, List.range_succ]
theorem uptoW_length (l : List (Nat × List UInt8)) (k : Nat) : (uptoW l k).length = k := by simp [uptoW]
def encW (x : Nat × (Nat × List UInt8)) : Array Value := #[Value.int .i64 (x.1 : Int), .agg #[.int .i64 (x.2.1 : Int), S x.2.2]]

set_option maxHeartbeats 1000000 in
theorem backward_in (F : Fence) (n : Nat) (hf : F.fn 219) (hro : F.round = none) (a : Option Addr) (len cap : Nat) (w : World) :
    CallsIn F n Try.prog 219 #[.slice a len cap] w fun e w' => e = .returned (.func (.func 226) #[] #[.pointer (some ⟨w.heap.size, 0, none⟩)]) ∧ w' = w.alloc (.cells #[.slice a len cap] 194) := by
  refine callsIn_of_wp Try.func219 rfl hf ?_ hro
  simp only [Try.ntmps219, List.size_toArray, List.length_cons, List.length_nil, Nat.reduceAdd, Nat.reduceSub, Array.replicate_succ, Array.replicate_zero, List.push_toArray, List.append_toArray, List.nil_append, List.cons_append]
  gi_wp2
  go_ret
  exact ⟨rfl, rfl⟩

set_option maxRecDepth 100000 in
set_option maxHeartbeats 2000000 in
/-- the closure, for every loop body that keeps what lay below n₀ -/
theorem backward1_in (F : Fence) (n : Nat) (hf : F.fn 226) (hro : F.round = none) (hn : 1 ≤ n) (l Bs n₀ cap : Nat) (q : Option Addr) (ls : List (Nat × List UInt8)) (hreach : ls.length ≤ 1000000) (J Jx : List (Nat × (Nat × List UInt8)) → World → Prop)
    (hY : ∀ pre x W, J pre W → pre.length < ls.length → YieldAt F (n - 1) Try.prog l (encW x) W fun e W' =>
      (e = .returned (.bool true) ∧ J (pre ++ [x]) W' ∧ Below n₀ W W') ∨ (e = .returned (.bool false) ∧ Jx (pre ++ [x]) W'))
    (W : World) (hBs : W.cell? ⟨Bs, 0, none⟩ = some (.slice q ls.length cap)) (hBs0 : Bs < n₀) (hc : ∀ k p, ls[k]? = some p → ∃ b, q = some ⟨b, 0, none⟩ ∧ b < n₀ ∧ W.cell? ⟨b, k * 2, none⟩ = some (.int .i64 (p.1 : Int)) ∧ W.cell? ⟨b, k * 2 + 1, none⟩ = some (S p.2)) (h0 : J [] W) :
    CallsIn F n Try.prog 226 #[.func (.yield l) #[] #[], .pointer (some ⟨Bs, 0, none⟩)] W fun e W' => (∃ v, e = .returned v) ∧
      ((∃ ys, ys = uptoW ls ls.length ∧ J ys W') ∨ (∃ pre, (∃ k, k ≤ ls.length ∧ pre = uptoW ls k) ∧ Jx pre W')) := by
  refine callsIn_of_wp Try.func226 rfl hf ?_ hro
  simp only [Try.ntmps226, List.size_toArray, List.length_cons, List.length_nil, Nat.reduceAdd, Nat.reduceSub, Array.replicate_succ, Array.replicate_zero, List.push_toArray, List.append_toArray, List.nil_append, List.cons_append]
  have hw1 : wrap64 ((ls.length : Int) - 1) = (ls.length : Int) - 1 := by unfold wrap64; omega
  gi_wp2
  gi_loopw [3] (fun i wr => ∃ k : Nat, k ≤ ls.length ∧ i = .int .i64 ((ls.length : Int) - 1 - k) ∧ J (uptoW ls k) wr ∧ Below n₀ W wr)
    (fun i _ => (intOf i + 1).toNat)
  case atStart => exact ⟨0, Nat.zero_le _, by simp, h0, Below.refl _ _⟩
  case round =>
    obtain ⟨k, hk, rfl, hJs, hnx⟩ := hrel
    by_cases hlt : k < ls.length
    · have hbs : wr.cell? ⟨Bs, 0, none⟩ = some (.slice q ls.length cap) := (hnx.cell (p := ⟨Bs, 0, none⟩) hBs0).trans hBs
      obtain ⟨i, hi⟩ : ∃ i, i = ls.length - 1 - k := ⟨_, rfl⟩
      have hii : (ls.length : Int) - 1 - k = (i : Int) := by omega
      have hil : i < ls.length := by omega
      have hx : roundW ls k = (i, ls[i]) := by unfold roundW; rw [← hi]; simp [List.getD, hil]
      obtain ⟨b, rfl, hb, g0, g1⟩ := hc i ls[i] (List.getElem?_eq_getElem hil)
      have g0' : wr.cell? ⟨b, i * 2, none⟩ = some (.int .i64 (ls[i].1 : Int)) := (hnx.cell (p := ⟨b, i * 2, none⟩) hb).trans g0
      have g1' : wr.cell? ⟨b, i * 2 + 1, none⟩ = some (S ls[i].2) := (hnx.cell (p := ⟨b, i * 2 + 1, none⟩) hb).trans g1
      obtain ⟨fn, tmps, assign, body, hy, hR⟩ := hY _ (i, ls[i]) wr hJs (by rw [uptoW_length]; exact hlt)
      unfold encW at hy
      dsimp only at hy
      rw [hii]
      have hw2 : wrap64 ((i : Int) - 1) = (i : Int) - 1 := by unfold wrap64; omega
      clear g0 g1
      generalize ls[i] = p at *
      have Hi := Lib.hid hi
      clear hi hii
      gi_wp2
      refine hR.mono ?_
      rintro e W3 (⟨rfl, hJ3, hk3⟩ | ⟨rfl, hJx3⟩)
      · gi_wp2
        go_roundw
        case rel => exact ⟨k + 1, by omega, by have := Hi.out; congr 1; omega, by rw [uptoW_succ, hx]; exact hJ3, hnx.trans hk3⟩
        case measure => simp [intOf]
      · gi_wp2
        refine bodyPost_ret (results_none rfl _ _ _) rfl ?_
        exact ⟨⟨_, rfl⟩, .inr ⟨_, ⟨k + 1, by omega, by rw [uptoW_succ, hx]⟩, hJx3⟩⟩
    · obtain rfl : k = ls.length := by omega
      have hneg : (ls.length : Int) - 1 - ls.length = -1 := by omega
      rw [hneg]
      gi_wp2
      go_end0
      exact ⟨⟨_, rfl⟩, .inl ⟨_, rfl, hJs⟩⟩
end Go.Proofs.Ythppdlemchmipaa
