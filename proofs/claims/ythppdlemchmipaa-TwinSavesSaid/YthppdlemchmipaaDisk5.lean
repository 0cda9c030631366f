/- disk: New, Image. -/
import Derived.Test.YthppdlemchmipaaDisk4
import Derived.Test.YthppdlemchmipaaSha3
namespace Go.Proofs.Ythppdlemchmipaa
open Go.RowKit Go.Wd
def zeros : List UInt8 := List.replicate 32 0
theorem repeatL_one (c : Nat) (x : UInt8) : Lib.repeatL [x] c = List.replicate c x := by
  induction c with
  | zero => rfl
  | succ c ih => simp [Lib.repeatL, ih, List.replicate_succ]
theorem repeat_any (x : UInt8) (c : Nat) (w : World) (hc : c ≤ 1000000000) :
    Calls Try.prog 118 #[S [x], .int .i64 c] w fun e w' => e = .returned (S (List.replicate c x)) ∧ Below w.heap.size w w' := by
  refine (Try.strings_Repeat ⟨#[x]⟩ c w (by omega) (by simp [ByteArray.size]; omega)).mono ?_
  rintro e w' ⟨rfl, hb⟩
  refine ⟨?_, hb⟩
  simp [repeatL_one, S]
theorem chunk_zeros : ∀ (m n : Nat), n ≤ m → chunk m (List.replicate (n * 32) 0) = List.replicate n zeros
  | 0, n, h => by obtain rfl : n = 0 := by omega
                  rfl
  | m + 1, 0, _ => by simp [chunk]
  | m + 1, n + 1, h => by
    have ih := chunk_zeros m n (by omega)
    have e1 : (List.replicate ((n + 1) * 32) (0 : UInt8)).drop 32 = List.replicate (n * 32) 0 := by rw [List.drop_replicate]; congr 1; omega
    have e2 : (List.replicate ((n + 1) * 32) (0 : UInt8)).take 32 = zeros := by rw [List.take_replicate, Nat.min_eq_left (by omega)]; rfl
    rw [chunk, if_pos (by simp; omega), e1, e2, ih, List.replicate_succ]
set_option maxRecDepth 100000 in
set_option maxHeartbeats 4000000 in
theorem DiskNew_any (B n : Nat) (w : World) (hB : B ≤ w.heap.size) (hn : n ≤ 4096) :
    Calls Try.prog 50 #[.int .i64 (n : Int)] w fun e w' => ∃ D vs, e = .returned (.pointer (some ⟨D, 0, none⟩)) ∧ w.heap.size ≤ D ∧ Dk B D vs (Dsk.of (List.replicate n zeros)) w' ∧ Below w.heap.size w w' := by
  have hm1 : max (n : Int) 0 = (n : Int) := by omega
  have hm2 : min (n : Int) 4096 = (n : Int) := by omega
  have hm3 : wrap64 ((n : Int) * 32) = ((n * 32 : Nat) : Int) := by unfold wrap64; omega
  have n1 : ¬ ((n : Int) < 0) := by omega
  have n2 : ¬ (4096 < (n : Int)) := by omega
  have hz := chunk_zeros 4096 n hn
  have Hz := Lib.hid hz
  clear hz
  go_enter Try.func50, Try.ntmps50
  go_wp2_with (first | (go_at_call 118; ((refine (repeat_any 0 (n * 32) _ (by omega)).mono ?_); rintro e w1 ⟨rfl, hb⟩)) | (go_at_call 62; ((with_reducible refine (DiskOf_any B (List.replicate (n * 32) 0) _ (Nat.le_trans hB hb.size)).mono ?_); rintro e w2 ⟨rfl, ⟨vs, hd⟩, hb2⟩)))
  go_ret
  rw [Hz.out] at hd
  exact ⟨_, vs, rfl, hb.size, hd, hb.trans (hb2.mono hb.size)⟩
theorem flat32 : ∀ {l : List (List UInt8)}, (∀ s ∈ l, s.length = 32) → l.flatten.length = l.length * 32
  | [], _ => rfl
  | x :: l, h => by
    have := flat32 (l := l) (fun s hs => h s (by simp [hs]))
    have := h x (by simp)
    simp only [List.flatten_cons, List.length_append, List.length_cons]; omega
theorem own_sls {w : World} {B : Nat} {v : Value} {ls : List (List UInt8)} (h : w.ownsRow B 9 1 v ls.length (ls.map S)) : SlS w v ls := by
  rcases h.2 with ⟨rfl, h0⟩ | ⟨g, cap, cur, rfl, hb, hg, hn, _, hs, ht⟩
  · obtain rfl := List.length_eq_zero_iff.1 h0
    exact SlS.nil w
  · refine ⟨_, _, rfl, hn, .inr ⟨g, 0, rfl, fun j l hl => ?_⟩⟩
    have := h.cells rfl j (S l) (by simp [hl])
    simpa [Addr.add_mid] using this
set_option maxRecDepth 100000 in
set_option maxHeartbeats 4000000 in
theorem Image_any (B D : Nat) (vs : Value) (st : Dsk) (w : World) (h : Dk B D vs st w) :
    Calls Try.prog 65 #[.pointer (some ⟨D, 0, none⟩)] w fun e w' => e = .returned (S st.safe.flatten) ∧ Below w.heap.size w w' := by
  obtain ⟨kv, vl, hB, hr, _, hs, _, _, h32, hn, _⟩ := h
  have hsl := own_sls hs
  have hfl : st.safe.flatten.length ≤ 140737488355328 := by
    have := flat32 h32
    omega
  obtain ⟨p, c, rfl⟩ := own_shape hs
  have c3 : w.cell? ⟨D, 3, none⟩ = some (.slice p st.safe.length c) := hr.cell 3
  go_enter Try.func65, Try.ntmps65
  go_wp2_with (go_at_call 132; ((refine (Join_any _ st.safe _ hsl (by omega) hfl).mono ?_); rintro e w1 ⟨rfl, hb⟩))
  go_ret
  exact ⟨rfl, hb⟩
end Go.Proofs.Ythppdlemchmipaa
