/- disk: Of, New, Image. -/
import Derived.Test.YthppdlemchmipaaDisk3
import Derived.Test.YthppdlemchmipaaSeal2
namespace Go.Wd
open Go.RowKit
/-- an image's sectors -/
def chunk : Nat → List UInt8 → List (List UInt8)
  | 0, _ => []
  | n + 1, l => if 32 ≤ l.length then l.take 32 :: chunk n (l.drop 32) else []
theorem chunk_len : ∀ (n : Nat) (l : List UInt8), ∀ s ∈ chunk n l, s.length = 32
  | 0, _ => by simp [chunk]
  | n + 1, l => by
    intro s hs
    unfold chunk at hs
    split at hs
    · rcases List.mem_cons.1 hs with rfl | hs
      · simp; omega
      · exact chunk_len n _ s hs
    · simp at hs
theorem chunk_length : ∀ (n : Nat) (l : List UInt8), (chunk n l).length = min n (l.length / 32)
  | 0, _ => by simp [chunk]
  | n + 1, l => by
    unfold chunk
    split
    · simp only [List.length_cons, chunk_length n, List.length_drop]; omega
    · simp only [List.length_nil]; omega
structure FreshD (t : DT) (B D : Nat) (vs : Value) (ls : List (List UInt8)) (w : World) : Prop where
  hB : B ≤ D
  hr : Row w D t.disk [.bool false, .int .i64 (-1), .slice none 0 0, vs, .slice none 0 0, .int .i64 0]
  hs : w.ownsRow B t.str 1 vs ls.length (ls.map S)
  h32 : ∀ s ∈ ls, s.length = 32
  hn : ls.length ≤ 4096
theorem FreshD.disk {t : DT} {B D : Nat} {vs : Value} {ls : List (List UInt8)} {w : World} (h : FreshD t B D vs ls w) : DiskAt t B D vs (Dsk.of ls) w :=
  ⟨_, _, h.hB, h.hr, World.ownsRow_nil _ _ _ _, h.hs, .inl ⟨rfl, rfl⟩, by simp [Dsk.of], h.h32, h.hn, by simp [Dsk.of], by simp [Dsk.of]⟩
theorem FreshD.new {t : DT} {B D : Nat} {vs : Value} {ls : List (List UInt8)} {w w1 : World} (h : FreshD t B D vs ls w) (hb : Below w.heap.size w w1) : FreshD t B D vs ls w1 :=
  ⟨h.hB, h.hr.mono hb h.hr.lt, own_keep h.hs fun g _ _ ho => (hb.block g (Array.getElem?_eq_some_iff.1 ho).1).trans ho, h.h32, h.hn⟩
theorem FreshD.ne {t : DT} {B D : Nat} {vs : Value} {ls : List (List UInt8)} {w : World} (h : FreshD t B D vs ls w) : some D ≠ vs.ownBlock := fun e => by
  obtain ⟨cur, hcur⟩ := own_typed h.hs e.symm
  have hr := h.hr
  unfold Row at hr
  rw [hr] at hcur
  injection hcur with hcur
  injection hcur with _ hcur _
  exact t.h2 hcur
theorem FreshD.app {t : DT} {B D : Nat} {vs vs' : Value} {ls : List (List UInt8)} {w w2 : World} (h : FreshD t B D vs ls w) (hg : w.grownBy w2 vs.ownBlock) (x : List UInt8)
    (hs : w2.ownsRow B t.str 1 vs' (ls ++ [x]).length ((ls ++ [x]).map S)) (hx : x.length = 32) (hn : ls.length + 1 ≤ 4096) : FreshD t B D vs' (ls ++ [x]) (w2.setCell ⟨D, 3, none⟩ vs') := by
  have hr2 : Row w2 D t.disk _ := h.hr.keep (hg.block D h.hr.lt h.ne)
  refine ⟨h.hB, hr2.set 3 vs' rfl, own_keep hs fun g o hgg ho => ?_, fun s hss => ?_, by simpa using hn⟩
  · rw [Below.heap_setCell _ _ _ _ ?_]
    · exact ho
    · rintro rfl
      obtain ⟨cur, hcur⟩ := own_typed hs hgg
      unfold Row at hr2
      rw [hr2] at hcur
      injection hcur with hcur
      injection hcur with _ hcur _
      exact t.h2 hcur
  · rcases List.mem_append.1 hss with hss | hss
    · exact h.h32 s hss
    · rw [List.mem_singleton.1 hss]; exact hx
theorem own_weak {w : World} {base base' n size : Nat} {e : TypeId} {v : Value} {xs : List Value} (h : w.ownsRow base e size v n xs) (hb : base' ≤ base) : w.ownsRow base' e size v n xs := by
  refine ⟨h.1, ?_⟩
  rcases h.2 with hn | ⟨g, cap, cur, rfl, hg, r⟩
  · exact .inl hn
  · exact .inr ⟨g, cap, cur, rfl, by omega, r⟩
theorem DiskAt.weak {t : DT} {B B' D : Nat} {vs : Value} {st : Dsk} {w : World} (h : DiskAt t B D vs st w) (hb : B' ≤ B) : DiskAt t B' D vs st w := by
  obtain ⟨kv, vl, h0, hr, hl, hs, hk, r⟩ := h
  refine ⟨kv, vl, by omega, hr, own_weak hl hb, own_weak hs hb, ?_, r⟩
  rcases hk with hk | ⟨g, cap, cs, fz, rfl, hg, q⟩
  · exact .inl hk
  · exact .inr ⟨g, cap, cs, fz, rfl, by omega, q⟩
end Go.Wd
namespace Go.Proofs.Ythppdlemchmipaa
open Go.RowKit Go.Wd
theorem builtDisk1 : Try.prog.built 193 [(1, Value.int .i64 (-1))] = some #[.bool false, .int .i64 (-1), .slice none 0 0] := by kernel_rfl
theorem builtDisk2 : Try.prog.built 196 [(0, Value.agg #[.bool false, .int .i64 (-1), .slice none 0 0])] = some #[.bool false, .int .i64 (-1), .slice none 0 0, .slice none 0 0, .slice none 0 0, .int .i64 0] := by kernel_rfl
set_option maxRecDepth 100000 in
set_option maxHeartbeats 4000000 in
theorem DiskOf_any (B : Nat) (l : List UInt8) (w : World) (hB : B ≤ w.heap.size) :
    Calls Try.prog 62 #[S l] w fun e w' => e = .returned (.pointer (some ⟨w.heap.size, 0, none⟩)) ∧ (∃ vs, Dk B w.heap.size vs (Dsk.of (chunk 4096 l)) w') ∧ Below w.heap.size w w' := by
  go_enter Try.func62, Try.ntmps62
  go_wp2_with fail
  have h0 : FreshD dt B w.heap.size (.slice none 0 0) [] (w.alloc (.cells #[.bool false, .int .i64 (-1), .slice none 0 0, .slice none 0 0, .slice none 0 0, .int .i64 0] 196)) :=
    ⟨hB, Row.alloc _ _ _, World.ownsRow_nil _ _ _ _, by simp, by simp⟩
  have b0 : Below w.heap.size w (w.alloc (.cells #[.bool false, .int .i64 (-1), .slice none 0 0, .slice none 0 0, .slice none 0 0, .int .i64 0] 196)) := (Below.refl _ _).alloc (Nat.le_refl _) _
  obtain ⟨i0, hi, hz0, hz1, hz2⟩ := info_parts info9
  go_loopg [0] 4096 (fun g v0 wr => ∃ (t : List UInt8) (ls : List (List UInt8)) (vs : Value), v0 = S t ∧ ls.length + g = 4096 ∧ chunk 4096 l = ls ++ chunk g t ∧ FreshD dt w.heap.size w.heap.size vs ls wr ∧ Below w.heap.size w wr)
  case atStart => exact ⟨l, [], .slice none 0 0, rfl, by simp, rfl, ⟨Nat.le_refl _, h0.hr, World.ownsRow_nil _ _ _ _, by simp, by simp⟩, b0⟩
  case round =>
    obtain ⟨t, ls, vs, rfl, hlg, hch, hf, hb⟩ := hrel
    clear h0 b0
    obtain ⟨q, c, rfl⟩ := own_shape hf.hs
    have c3 : wr.cell? ⟨w.heap.size, 3, none⟩ = some (.slice q ls.length c) := hf.hr.cell 3
    have Hch := Lib.hid hch
    have Hlg := Lib.hid hlg
    clear hch
    by_cases ht : 32 ≤ t.length
    · have hti : (32 : Int) ≤ (t.length : Int) := by omega
      by_cases hg : gk = 0
      · subst hg
        have hl0 : ls.length = 4096 := by omega
        have hlt : decide ((ls.length : Int) < 4096) = false := by simp; omega
        clear hl0
        go_wp2_with fail
        go_ret
        refine ⟨rfl, ⟨.slice q ls.length c, ?_⟩, hb⟩
        have := hf.disk.weak hB
        rw [Hch.out]
        simpa [chunk] using this
      · obtain ⟨g, rfl⟩ : ∃ g, gk = g + 1 := ⟨gk - 1, by omega⟩
        have hlt : (ls.length : Int) < 4096 := by omega
        have htl : (t.take 32).length = 32 := by simp; omega
        have f3 := hf.hr.frozen 3
        have hown := hf.hs
        go_wp2_with fail
        have hfa : FreshD dt w.heap.size w.heap.size (.slice q ls.length c) ls (wr.drew.alloc (.cells #[S (t.take 32)] 9)) := hf.new (((Below.refl _ _).drew).alloc (by simp [heap_drew]) _)
        have hba : Below w.heap.size w (wr.drew.alloc (.cells #[S (t.take 32)] 9)) := (hb.drew).alloc (by have := hb.size; simp; omega) _
        have hownd : wr.drew.ownsRow w.heap.size 9 1 (.slice q ls.length c) ls.length (ls.map S) := hown
        have c3d : wr.drew.cell? ⟨w.heap.size, 3, none⟩ = some (.slice q ls.length c) := c3
        have c3a : (wr.alloc (.cells #[S (t.take 32)] 9)).cell? ⟨w.heap.size, 3, none⟩ = some (.slice q ls.length c) := hfa.hr.cell 3
        go_region_law (refine step_append_own rfl (.tmp 22) (.tmp 25) 104 rfl w.heap.size 9 i0 _ 1 16 Try.underlying104 hi hz0 hz1 hz2 rfl (by decide) (.slice q ls.length c) ls.length (ls.map S) (by simp [Act.eval]) (hownd.alloc _) ⟨wr.heap.size, 0, none⟩ 1 1 [S (t.take 32)] (by simp [Act.eval]) rfl (one_at _ _ _) (by intro u hu; simp at hu; subst hu; rfl) (by unfold maxLen; omega) (by omega) (by have := hb.size; simp; omega) ?_; intro v10 w10 hown10 hg10; have hr10 := hfa.hr.keep (hg10.block w.heap.size hfa.hr.lt hfa.ne); obtain ⟨q10, c10, rfl⟩ := own_shape hown10; have k10 : w10.cell? ⟨w.heap.size, 3, none⟩ = some (.slice q ls.length c) := hr10.cell 3; have f10 := hr10.frozen 3)
        all_goals
          have hf2 := hfa.app hg10 (t.take 32) (by simpa using (show w10.ownsRow w.heap.size dt.str 1 _ (ls.length + 1) _ from hown10)) htl (by omega)
          have hb2 : Below w.heap.size w w10 := hba.grown hg10 (by have := hba.size; omega) (fun k hk => (hfa.hs.lt k hk).1)
          clear hown10 hg10 hr10 k10 f10
          try go_wp2_with fail
          go_roundg g
          case measure => omega
          case rel =>
            refine ⟨t.drop 32, ls ++ [t.take 32], _, rfl, by have := Hlg.out; simp; omega, ?_, hf2, hb2.setCell (p := ⟨w.heap.size, 3, none⟩) (Nat.le_refl _) _⟩
            rw [Hch.out, chunk, if_pos ht]; simp
    · have hlt : decide ((32 : Int) ≤ (t.length : Int)) = false := by simp; omega
      have hch2 : chunk 4096 l = ls := by
        rw [Hch.out]
        cases gk with
        | zero => simp [chunk]
        | succ g => simp [chunk, ht]
      have Hch2 := Lib.hid hch2
      clear hch2
      go_wp2_with fail
      go_ret
      refine ⟨rfl, ⟨.slice q ls.length c, ?_⟩, hb⟩
      rw [Hch2.out]
      exact hf.disk.weak hB
end Go.Proofs.Ythppdlemchmipaa
