/- sha.padded, sha.Of: the padded text, and the sum of texts one behind the other. -/
import Derived.Test.YthppdlemchmipaaSha2
import Derived.Test.YthppdlemchmipaaBld
import Derived.Test.YthppdlemchmipaaShelf
namespace Go.Proofs.Ythppdlemchmipaa
open Go.RowKit Go.Wd Go.Sha

theorem zeroBld : (Try.prog.info? 176).map (·.zero.map (·.cells)) = some (some [Value.pointer none, Value.slice none 0 0].toArray) := by kernel_rfl
theorem zeros_more (l : List UInt8) (j : Nat) : (l ++ 0x80 :: List.replicate j 0).length = l.length + 1 + j := by simp; omega
theorem zeros_lt (n : Nat) : zeros n < 64 := by unfold zeros; omega
theorem zeros_test (n j : Nat) (hj : j ≤ zeros n) : ((n + 1 + j + 8) % 64 = 0) ↔ j = zeros n := by unfold zeros at *; omega

theorem be64_length (n : Nat) : (be64 n).length = 8 := rfl
theorem be64_at (n j : Nat) (h : j < 8) : (be64 n).getD j 0 = (n / 2 ^ (8 * (7 - j))).toUInt8 := by
  match j, h with
  | 0, _ | 1, _ | 2, _ | 3, _ | 4, _ | 5, _ | 6, _ | 7, _ => rfl
theorem be64_val (n j : Nat) (h : j < 8) : Value.int .u8 ((n : Int) * 8 / 2 ^ (8 * (7 - j)) % 256) = U8 ((be64 (8 * n)).getD j 0) := by
  rw [be64_at _ _ h]
  apply U8.of
  have e2 : ((n : Int) * 8 / 2 ^ (8 * (7 - j))) = ((8 * n / 2 ^ (8 * (7 - j)) : Nat) : Int) := by
    rw [Int.natCast_ediv, Nat.mul_comm 8 n]; simp
  rw [e2]; simp
theorem take_snoc8 (l : List UInt8) (j : Nat) (h : j < l.length) : l.take j ++ [l.getD j 0] = l.take (j + 1) := by
  rw [List.take_succ_eq_append_getElem h]; simp [List.getD, h]
set_option maxRecDepth 100000 in
set_option maxHeartbeats 2000000 in
theorem padded_any (l : List UInt8) (w : World) (hl : l.length ≤ 140737488355000) :
    Calls Try.prog 167 #[S l] w fun e w' => e = .returned (S (pad l)) ∧ Below w.heap.size w w' := by
  go_enter Try.func167, Try.ntmps167
  go_wp2_with (with_reducible refine wpl_alloc rfl 176 rfl _ zeroBld ?_)
  intro w1 r1 s1 k1
  have hB : w.heap.size ≤ w1.heap.size := by omega
  have hb0 : Bl 176 [] w.heap.size w.heap.size [] w1 := BldP.fresh (Nat.le_refl _) (by decide) r1
  have hk0 : Below w.heap.size w w1 := k1.below (Nat.le_refl _) (fun _ _ h => h)
  clear r1 s1 k1
  go_wp2_with fail
  refine (WriteString_any _ [] w.heap.size w.heap.size [] l w1 bldT_alone hb0 (by simp; omega) hB).mono ?_
  rintro e w2 ⟨rfl, hb2, hk2⟩
  go_wp2_with fail
  refine (WriteByte_any _ [] w.heap.size w.heap.size l 0x80 w2 bldT_alone hb2 (by omega) (Nat.le_trans hB hk2.size)).mono ?_
  rintro e w3 ⟨rfl, hb3, hk3⟩
  have hbel : Below w.heap.size w w3 := hk0.trans ((hk2.trans hk3).below)
  have hB3 : w.heap.size ≤ w3.heap.size := hbel.size
  clear hb0 hk0 hb2 hk2 hk3 hB
  go_wp2_with fail
  go_loopg [] (zeros l.length) (fun g wr => ∃ j, j ≤ zeros l.length ∧ g = zeros l.length - j ∧ Bl 176 [] w.heap.size w.heap.size (l ++ 0x80 :: List.replicate j 0) wr ∧ Below w.heap.size w wr)
  case atStart => exact ⟨0, by omega, by omega, hb3, hbel⟩
  case round =>
    clear hb3 hbel hB3
    obtain ⟨j, hj, hg, hb, hbel⟩ := hrel
    have hz := zeros_test l.length j hj
    have hzl := zeros_lt l.length
    have hlen := zeros_more l j
    have hB := hbel.size
    have Hg := Lib.hid hg
    clear hg
    by_cases hj0 : j < zeros l.length
    · have ht : (((l.length : Int) + 1 + (j : Int) + 8) % 64 != 0) = true := by rw [bne_iff_ne]; omega
      go_wp2_with (go_at_call 182; ((with_reducible refine (Len_any _ [] w.heap.size w.heap.size _ wr hb).mono ?_); rintro e w' ⟨rfl, rfl⟩; rw [hlen]))
      refine (WriteByte_any _ [] w.heap.size w.heap.size _ 0 wr bldT_alone hb (by omega) hB).mono ?_
      rintro e w4 ⟨rfl, hb4, hk4⟩
      go_wp2_with fail
      go_roundg (zeros l.length - (j + 1))
      case measure => have := Hg.out; omega
      case rel =>
        refine ⟨j + 1, by omega, rfl, ?_, hbel.trans hk4.below⟩
        rw [List.replicate_succ']
        simpa using hb4
    · have ht : (((l.length : Int) + 1 + (j : Int) + 8) % 64 != 0) = false := by rw [bne_eq_false_iff_eq]; omega
      go_wp2_with (go_at_call 182; ((with_reducible refine (Len_any _ [] w.heap.size w.heap.size _ wr hb).mono ?_); rintro e w' ⟨rfl, rfl⟩; rw [hlen]))
      have hj1 : j = zeros l.length := by omega
      rw [hj1] at hb
      clear hz hlen hj hj0 ht Hg hj1
      go_loopg [5] 8 (fun g v wr => ∃ j : Nat, j ≤ 8 ∧ g = 8 - j ∧ v = .int .i64 (7 - (j : Int)) ∧ Bl 176 [] w.heap.size w.heap.size (l ++ 0x80 :: List.replicate (zeros l.length) 0 ++ (be64 (8 * l.length)).take j) wr ∧ Below w.heap.size w wr)
      case atStart => exact ⟨0, by omega, by omega, rfl, by simpa using hb, hbel⟩
      case round =>
        clear hb hbel hB
        obtain ⟨j, hj, hg, rfl, hb, hbel⟩ := hrel
        have hB := hbel.size
        have Hg := Lib.hid hg
        clear hg
        by_cases hlt : j < 8
        · have hsnoc := take_snoc8 (be64 (8 * l.length)) j (by rw [be64_length]; exact hlt)
          have Hs := Lib.hid hsnoc
          have hv := be64_val l.length j hlt
          have Hv := Lib.hid hv
          clear hsnoc hv
          go_wp2_with fail
          rw [Hv.out]
          refine (WriteByte_any _ [] w.heap.size w.heap.size _ _ wr bldT_alone hb ?_ hB).mono ?_
          · simp [be64_length]; omega
          rintro e w4 ⟨rfl, hb4, hk4⟩
          go_wp2_with fail
          go_roundg (8 - (j + 1))
          case measure => have := Hg.out; omega
          case rel =>
            refine ⟨j + 1, by omega, rfl, by go_num, ?_, hbel.trans hk4.below⟩
            rw [← Hs.out, ← List.append_assoc]; exact hb4
        · have hj8 : j = 8 := by omega
          rw [hj8] at hb
          go_wp2_with fail
          refine (String_any _ [] w.heap.size w.heap.size _ wr hb hB).mono ?_
          rintro e w4 ⟨rfl, hb4, hk4⟩
          go_wp2_with fail
          go_ret
          refine ⟨?_, hbel.trans hk4.below⟩
          have : l ++ 128 :: (List.replicate (zeros l.length) 0 ++ List.take 8 (be64 (8 * l.length))) = pad l := by
            rw [List.take_of_length_le (by rw [be64_length]; omega)]; simp [pad]
          rw [← this]; rfl

theorem join_nil (ls : List (List UInt8)) : Lib.join ls [] = ls.flatten := by
  cases ls with
  | nil => rfl
  | cons x xs => rw [Lib.join_cons]; simp [Lib.joinTail]
theorem map_back (ls : List (List UInt8)) : (ls.map fun l => (ByteArray.mk l.toArray)).map (·.data.toList) = ls := by
  rw [List.map_map]
  induction ls with
  | nil => rfl
  | cons x xs ih => rw [List.map_cons, ih]; rfl
theorem Join_any (v : Value) (ls : List (List UInt8)) (w : World) (h : SlS w v ls) (hN : ls.length ≤ 140737488355328) (hl : ls.flatten.length ≤ 140737488355328) :
    Calls Try.prog 132 #[v, S []] w fun e w' => e = .returned (S ls.flatten) ∧ Below w.heap.size w w' := by
  obtain ⟨a, c, rfl, hc, h⟩ := h
  rcases h with rfl | ⟨bk, o, rfl, hcell⟩
  · refine (Try.strings_Join_none a c _ w).mono ?_
    rintro e w' ⟨rfl, rfl⟩
    exact ⟨rfl, Below.refl _ _⟩
  · by_cases hn : ls = []
    · subst hn
      refine (Try.strings_Join_none (some ⟨bk, o, none⟩) c _ w).mono ?_
      rintro e w' ⟨rfl, rfl⟩
      exact ⟨rfl, Below.refl _ _⟩
    · have hm := map_back ls
      have hbk : bk < w.heap.size := by
        have h0 : ∃ l, ls[0]? = some l := by
          cases ls with
          | nil => exact absurd rfl hn
          | cons x xs => exact ⟨x, rfl⟩
        obtain ⟨l, h0⟩ := h0
        exact block_lt_of_cell (hcell 0 l h0)
      have := Try.strings_Join bk o c (ls.map fun l => (ByteArray.mk l.toArray)) ⟨#[]⟩ w (fun j x hx => by
          rw [List.getElem?_map] at hx
          cases hq : ls[j]? with
          | none => simp [hq] at hx
          | some l => simp [hq] at hx; subst hx; exact hcell j l hq) hbk (by simpa using hN) (by simpa using hc) (by rw [hm]; show (Lib.join ls []).length ≤ _; rw [join_nil]; exact hl)
      rw [hm] at this
      have e : Lib.join ls (ByteArray.mk #[]).data.toList = ls.flatten := join_nil ls
      rw [e] at this
      rw [List.length_map] at this
      exact this
end Go.Proofs.Ythppdlemchmipaa
