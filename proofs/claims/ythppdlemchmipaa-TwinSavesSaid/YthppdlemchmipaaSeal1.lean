/- package seal: sectors, Size, isNumber, bytes. -/
import Derived.Test.YthppdlemchmipaaSha4
import Derived.Test.YthppdlemchmipaaPen
import Derived.Test.YthppdlemchmipaaWords3
namespace Go.Proofs.Ythppdlemchmipaa
open Go.RowKit Go.Wd Go.Sha

set_option maxHeartbeats 400000 in
theorem sectors_any (n : Nat) (w : World) (h : n ≤ 9223372036854775000) :
    Calls Try.prog 122 #[.int .i64 n] w fun e w' => e = .returned (.int .i64 (secs n : Nat)) ∧ w = w' := by
  go_enter Try.func122, Try.ntmps122
  go_wp2
  go_ret
  refine ⟨?_, rfl⟩
  have e : ((n : Int) + 36 + 28 - 1) / 28 = (secs n : Nat) := by unfold secs; omega
  rw [← e]; rfl
set_option maxHeartbeats 400000 in
theorem Size_any (l : List UInt8) (w : World) (h : l.length ≤ 9223372036854775000) :
    Calls Try.prog 54 #[S l] w fun e w' => e = .returned (.int .i64 (secs l.length : Nat)) ∧ w = w' := by
  go_enter Try.func54, Try.ntmps54
  go_wp2_with fail
  refine (sectors_any l.length w h).mono ?_
  rintro e w' ⟨rfl, rfl⟩
  go_wp2_with fail
  go_ret
  exact ⟨rfl, rfl⟩
set_option maxHeartbeats 400000 in
theorem isNumber_any (n : Int) (w : World) :
    Calls Try.prog 129 #[.int .i64 n] w fun e w' => e = .returned (.bool (isNum n)) ∧ w = w' := by
  by_cases h1 : 1 ≤ n
  · by_cases h2 : n ≤ 2147483647
    · have d1 : decide (1 ≤ n) = true := by simpa using h1
      have d2 : decide (n ≤ 2147483647) = true := by simpa using h2
      have hn : isNum n = true := by simp [isNum, h1, h2]
      rw [hn]
      go_enter Try.func129, Try.ntmps129
      go_wp2
      go_ret
      exact ⟨rfl, rfl⟩
    · have d1 : decide (1 ≤ n) = true := by simpa using h1
      have d2 : decide (n ≤ 2147483647) = false := by simpa using h2
      have hn : isNum n = false := by simp [isNum, h2]
      rw [hn]
      go_enter Try.func129, Try.ntmps129
      go_wp2
      go_ret
      exact ⟨rfl, rfl⟩
  · have d1 : decide (1 ≤ n) = false := by simpa using h1
    have hn : isNum n = false := by simp [isNum, h1]
    rw [hn]
    go_enter Try.func129, Try.ntmps129
    go_wp2
    go_ret
    exact ⟨rfl, rfl⟩

theorem zeroPen : (Try.prog.info? 178).map (·.zero.map (·.cells)) = some (some [Value.pointer none, Value.slice none 0 0, Value.bool false].toArray) := by kernel_rfl

set_option maxRecDepth 100000 in
set_option maxHeartbeats 2000000 in
theorem bytes_any (l : List UInt8) (w : World) (hl : l.length ≤ 1024) :
    Calls Try.prog 128 #[S l] w fun e w' => e = .returned (S (sealed l)) ∧ Below w.heap.size w w' := by
  have hsec := secs_le l.length
  go_enter Try.func128, Try.ntmps128
  go_wp2_with (with_reducible refine wpl_alloc rfl 178 rfl _ zeroPen ?_)
  intro w1 r1 s1 k1
  have h1 : Pn w.heap.size w.heap.size false [] w1 := BldP.fresh (Nat.le_refl _) (by decide) r1
  have hB1 : w.heap.size ≤ w1.heap.size := by omega
  have b1 : Below w.heap.size w w1 := k1.below (Nat.le_refl _) (fun _ _ h => h)
  clear s1 r1 k1
  go_wp2_with fail
  refine (pen_Text w.heap.size w.heap.size false [] l _ _ (h1.keeps ((Keeps.refl _ _).alloc _)) ⟨_, _, rfl, by simp, .inr ⟨w1.heap.size, 0, rfl, ?_⟩⟩ (by omega) (by simp; omega) (by simp; omega)).mono ?_
  · intro j m hj
    match j, hj with
    | 0, hj => simp at hj; subst hj; exact Lib.cell_of_heap (heap_alloc_new _ _) 0
  rintro e w2 ⟨rfl, h2, k2⟩
  simp only [List.nil_append] at h2
  have b2 : Below w.heap.size w w2 := (b1.alloc hB1 _).trans k2.below
  have hB2 := b2.size
  clear k2 b1 h1
  go_wp2_with fail
  refine (Size_any l w2 (by omega)).mono ?_
  rintro e w' ⟨rfl, rfl⟩
  go_wp2_with (with_reducible refine wpl_make8 rfl 125 5 (.tmp 14) (.tmp 14) rfl (secs l.length * 28 - 36 - l.length) ?hx ?hy Try.underlying125 info8 (by omega) ?_)
  case hx => show Value.int .i64 _ = _; congr 1; omega
  case hy => show Value.int .i64 _ = _; congr 1; omega
  intro w3 r3 s3 k3
  have h3 : Pn w.heap.size w.heap.size false (le4 l.length ++ l) w3 := h2.keeps k3
  have b3 : Below w.heap.size w w3 := b2.trans (k3.below hB2 (fun _ _ h => h))
  have hne : w2.heap.size ≠ w.heap.size := by have := h2.lt; omega
  have hB3 := b3.size
  have hz : ∀ j u, ((List.replicate (secs l.length * 28 - 36 - l.length) (0 : UInt8)).map U8)[j]? = some u → w3.cell? ((⟨w2.heap.size, 0, none⟩ : Addr).add j) = some u := fun j u hj => by
    have e : (⟨w2.heap.size, 0, none⟩ : Addr).add j = ⟨w2.heap.size, j, none⟩ := by unfold Addr.add; split <;> simp_all
    rw [e]; exact (r3.cell j).trans (by simpa using hj)
  have hlz : (List.replicate (secs l.length * 28 - 36 - l.length) (0 : UInt8)).length = secs l.length * 28 - 36 - l.length := by simp
  have hpb := pen_Byte w.heap.size w.heap.size false (le4 l.length ++ l) (List.replicate (secs l.length * 28 - 36 - l.length) 0) ⟨w2.heap.size, 0, none⟩ (secs l.length * 28 - 36 - l.length) w3 h3 (by rw [hlz, List.length_append, le4_length]; omega) hB3 hne hz
  rw [hlz] at hpb
  have Hpb := Lib.hid hpb
  clear hpb hz hlz r3 s3 k3 h3 h2 b2 hB2 hne
  go_wp2_with fail
  refine Hpb.out.mono ?_
  rintro e w4 ⟨rfl, h4, k4⟩
  have h4' : Pn w.heap.size w.heap.size false (body l) w4 := h4
  have b4 : Below w.heap.size w w4 := b3.trans k4.below
  have hB4 := b4.size
  have hbl := body_length l
  clear Hpb h4 k4 b3 hB3
  go_wp2_with fail
  refine (pen_Bytes w.heap.size w.heap.size false (body l) w4 h4' hB4).mono ?_
  rintro e w5 ⟨rfl, h5, k5⟩
  have b5 : Below w.heap.size w w5 := b4.trans k5.below
  have hB5 := b5.size
  have h5lt := h5.lt
  clear k5 b4 hB4 h4'
  have Hbl := Lib.hid hbl
  have hbl2 : (body l).length ≤ 2000 := by omega
  have Hbl2 := Lib.hid hbl2
  clear hbl hbl2
  go_wp2_with fail
  refine (Of_any _ [body l] _ ⟨_, _, rfl, by simp, .inr ⟨w5.heap.size, 0, rfl, ?_⟩⟩ (by simp) (by have := Hbl2.out; simp; omega)).mono ?_
  · intro j m hj
    match j, hj with
    | 0, hj => simp at hj; subst hj; exact Lib.cell_of_heap (heap_alloc_new _ _) 0
  rintro e w6 ⟨rfl, hb6⟩
  have hfl : [body l].flatten = body l := by simp
  rw [hfl]
  have k6 : Keeps (fun _ => False) w5 w6 := ((Keeps.refl _ _).alloc _).then (Keeps.of_new hb6)
  have h6 := h5.keeps k6
  have b6 : Below w.heap.size w w6 := b5.trans (k6.below hB5 (fun _ _ h => h))
  clear hfl hb6 k6 h5 b5
  go_wp2_with (with_reducible refine wpl_alloc rfl 24 rfl _ zeroD ?_)
  intro w7 r7 s7 k7
  refine wpl_store rfl 24 (.tmp 4) (.tmp 19) rfl w6.heap.size _ _ ((sha (body l)).map U8) rfl rfl r7 (by rw [infoD, List.length_map, sha_length]) (by simp [sha_length]) oneCell_8 ?_
  intro w8 r8 s8 k8
  have hl6 := h6.lt
  have h7 := h6.keeps k7
  have k78 : Keeps (fun _ => False) w6 w8 := k7.trans k8 (fun x hx h => by omega)
  have h8 := h6.keeps k78
  have b8 : Below w.heap.size w w8 := b6.trans (k78.below b6.size (fun _ _ h => h))
  have hB8 := b8.size
  have hdb : w6.heap.size ≠ w.heap.size := by omega
  have hlen32 := sha_length (body l)
  have Hl32 := Lib.hid hlen32
  have hcell : ∀ W, Row W w6.heap.size 24 ((sha (body l)).map U8) → (convert 125 9 (.slice (some ⟨w6.heap.size, 0, none⟩) 32 32)).run Try.prog W = .ok (S (sha (body l))) W := fun W hr => by
    have := run_string_of W 125 9 5 w6.heap.size 0 32 (sha (body l)) Try.underlying125 Try.underlying5 Try.underlying9 (fun j hj => by rw [Nat.zero_add]; exact hr.cell8 j hj)
    rw [sha_length] at this; exact this
  clear h7 k7 k8 k78 r7 s7 s8 h6 b6 hlen32
  generalize w6.heap.size = db at *
  have hc8 := hcell w8.drew r8
  have hc8' := hcell w8 r8
  have h8d : Pn w.heap.size w.heap.size false (body l) w8.drew := h8
  have hB8d : w.heap.size ≤ w8.drew.heap.size := hB8
  have Hcell := Lib.hid hcell
  clear hcell
  have hll : (sha (body l)).length + (body l).length ≤ 4000 := by have := Hl32.out; have := Hbl2.out; omega
  generalize hsh : sha (body l) = sb at *
  have hse : sealed l = sb ++ body l := by rw [sealed, hsh]
  have Hse := Lib.hid hse
  clear hse hsh
  go_wp2_with fail
  go_region_with (go_at_call 109; ((with_reducible refine (pen_Bytes w.heap.size w.heap.size false (body l) _ h8d hB8d).mono ?_); rintro e w9 ⟨rfl, h9, k9⟩; have hc9 := Hcell.out w9 (k9.row (w := w8.drew) r8 hdb (by decide))))
  all_goals
    go_wp2_with fail
    go_ret
    exact ⟨by rw [Hse.out]; rfl, (b8.drew).trans k9.below⟩
end Go.Proofs.Ythppdlemchmipaa
