/- strings.Builder, alone or at the head of a struct: copyCheck, WriteByte, Write, WriteString, Len, String. -/
import Derived.Test.YthppdlemchmipaaProg
import Derived.Test.YthppdlemchmipaaWords
namespace Go.Proofs.Ythppdlemchmipaa
open Go.RowKit Go.Wd

/-- what is asked of the block's type -/
def BldT (T : TypeId) (n : Nat) : Prop := liesAt Try.prog Try.prog.depth T ((n + 2) / Try.prog.cellsOf T) 0 176 1 = true
theorem bldT_alone : BldT 176 0 := by unfold BldT; kernel_rfl
theorem bldT_pen : BldT 178 1 := by unfold BldT; kernel_rfl
theorem info8 : (Try.prog.info? 5).map (fun i => (i.zero, i.size, i.bytes)) = some (some (.int .u8 0), 1, 1) := by kernel_rfl
theorem infoBld : (Try.prog.info? 176).map (·.size) = some 2 := by kernel_rfl
abbrev Bl (T : TypeId) (rest : List Value) (B b : Nat) (bs : List UInt8) (w : World) : Prop := Bld 5 T rest B b bs w

set_option maxRecDepth 100000 in
set_option maxHeartbeats 1000000 in
theorem copyCheck_any (T : TypeId) (rest : List Value) (B b : Nat) (bs : List UInt8) (w : World) (hT : BldT T rest.length) (h : Bl T rest B b bs w) :
    Calls Try.prog 204 #[.pointer (some ⟨b, 0, none⟩)] w fun e w' => e = .returned (.tuple #[]) ∧ (∃ v, BldP 5 T rest B b (.pointer (some ⟨b, 0, none⟩)) v bs w') ∧ Keeps (· = b) w w' := by
  obtain ⟨j, hj, hjs⟩ := Option.map_eq_some_iff.1 infoBld
  obtain ⟨p, v, hp, hb⟩ := h
  have hrow := hb.2.2.1
  have c0 := hrow.cell 0
  have f0 := hrow.frozen 0
  simp only [List.getElem?_cons_zero] at c0
  rcases hp with rfl | rfl
  · have hsh : w.shape? b = some (T, rest.length + 2) := by
      unfold Row at hrow; simp [World.shape?, hrow]
    clear hrow
    go_enter Try.func204, Try.ntmps204
    go_wp2
    rw [Lib.run_to_unsafe w ⟨b, 0, none⟩ Try.underlying174 Try.underlying307 hj (by rw [hjs]; decide) hsh (by simp)]
    simp only [Result.andThen]
    rw [Oper.upon_value]
    go_wp2
    rw [run_callFunc_extern Try.func223 (by kernel_rfl) (by kernel_rfl) (by kernel_rfl) (e := Extern.AbiNoEscape.same) (by kernel_rfl)]
    rw [Lib.run_noEscape]
    simp only [Result.andThen]
    rw [Oper.upon_value]
    go_wp2
    rw [Lib.run_from_unsafe w ⟨b, 0, none⟩ Try.underlying307 Try.underlying174 hj hsh hT]
    simp only [Result.andThen]
    rw [Oper.upon_value]
    go_wp2
    go_end0
    exact ⟨rfl, ⟨v, hb.setP _⟩, (Keeps.refl (· = b) w).setCell (fun _ => rfl) _⟩
  · go_enter Try.func204, Try.ntmps204
    go_wp2
    rw [Lib.run_neq_ptr_same w _ Try.underlying174 hj]
    go_wp2
    go_end0
    exact ⟨rfl, ⟨v, hb⟩, Keeps.refl _ _⟩

set_option maxRecDepth 100000 in
set_option maxHeartbeats 2000000 in
theorem WriteByte_any (T : TypeId) (rest : List Value) (B b : Nat) (bs : List UInt8) (c : UInt8) (w : World) (hT : BldT T rest.length) (h : Bl T rest B b bs w) (hlen : bs.length + 1 ≤ 140737488355328) (hBw : B ≤ w.heap.size) :
    Calls Try.prog 174 #[.pointer (some ⟨b, 0, none⟩), U8 c] w fun e w' => e = .returned .nilIface ∧ Bl T rest B b (bs ++ [c]) w' ∧ BK 5 B b w w' := by
  obtain ⟨i0, hi, hz0, hz1, hz2⟩ := info_parts info8
  go_enter Try.func174, Try.ntmps174
  go_wp2_with fail
  refine (copyCheck_any T rest B b bs _ hT h).mono ?_
  rintro e w1 ⟨rfl, ⟨v, hb⟩, hkk⟩
  have hk : BK 5 B b w w1 := BK.of_keeps hkk hb.1 hBw
  have hrow := hb.2.2.1
  have hown := hb.2.2.2
  have c1 : w1.cell? ⟨b, 1, none⟩ = some v := hrow.cell 1
  have hbs := hk.size
  clear h hrow
  go_wp2_with (at_builtin; refine wpList_append_ownF _ rfl _ _ 125 rfl B 5 i0 (.int .u8 0) 1 1 Try.underlying125 hi hz0 hz1 hz2 rfl (by decide) _ _ _ rfl (hown.alloc _) ⟨w1.heap.size, 0, none⟩ 1 1 [U8 c] rfl rfl ?c1 ?c2 ?c3 ?c4 ?c5 ?_)
  case c1 =>
    intro j u hj
    match j, hj with
    | 0, hj => simp at hj; subst hj; simp [Addr.add]
  case c2 => intro u hu; simp at hu; subst hu; rfl
  case c3 => unfold maxLen; omega
  case c4 => omega
  case c5 => simp; omega
  intro v' w2 hown' hgrow _
  have hb1 : BldP 5 T rest B b (.pointer (some ⟨b, 0, none⟩)) v bs (w1.alloc (.cells #[U8 c] 5)) := hb.below ((Keeps.refl _ _).alloc _)
  have hown2 : w2.ownsRowF B 5 1 v' (bs ++ [c]).length ((bs ++ [c]).map U8) := by simpa using hown'
  have hput := hb1.put hgrow hown2
  have hk2 := ((hk.alloc hBw _).grown (v := v) (w2 := w2) hgrow hb1.2.2.2 (Nat.le_refl _) (by simp; omega)).setCell hb.1 1 v'
  have hr2 : Row w2 b T (.pointer (some ⟨b, 0, none⟩) :: v :: rest) := (hgrow.block b hb1.lt (fun e => hb1.ne e.symm)).trans hb1.2.2.1
  have d1 : w2.cell? ⟨b, 1, none⟩ = some v := hr2.cell 1
  have f1 : w2.frozen? ⟨b, 1, none⟩ = false := hr2.frozen 1
  obtain ⟨g, cap, rfl⟩ : ∃ g cap, v' = .slice (some ⟨g, 0, none⟩) (bs.length + 1) cap := by
    rcases hown'.2 with ⟨_, h0⟩ | ⟨g, cap, cur, fz, hv, _⟩
    · omega
    · exact ⟨g, cap, hv⟩
  clear hown' hown hown2 hb1 hgrow hr2
  go_wp2
  go_ret
  exact ⟨rfl, ⟨_, _, .inr rfl, hput⟩, hk2⟩

set_option maxRecDepth 100000 in
set_option maxHeartbeats 2000000 in
theorem WriteString_any (T : TypeId) (rest : List Value) (B b : Nat) (bs l : List UInt8) (w : World) (hT : BldT T rest.length) (h : Bl T rest B b bs w) (hlen : bs.length + l.length ≤ 140737488355328) (hBw : B ≤ w.heap.size) :
    Calls Try.prog 155 #[.pointer (some ⟨b, 0, none⟩), S l] w fun e w' => e = .returned (.tuple #[.int .i64 l.length, .nilIface]) ∧ Bl T rest B b (bs ++ l) w' ∧ BK 5 B b w w' := by
  obtain ⟨i0, hi, hz0, hz1, hz2⟩ := info_parts info8
  go_enter Try.func155, Try.ntmps155
  go_wp2_with fail
  refine (copyCheck_any T rest B b bs _ hT h).mono ?_
  rintro e w1 ⟨rfl, ⟨v, hb⟩, hkk⟩
  have hk : BK 5 B b w w1 := BK.of_keeps hkk hb.1 hBw
  have hrow := hb.2.2.1
  have hown := hb.2.2.2
  have c1 : w1.cell? ⟨b, 1, none⟩ = some v := hrow.cell 1
  have hbs := hk.size
  have hsz : (ByteArray.mk l.toArray).size = l.length := S_size l
  have hstr : Lib.strCells ⟨l.toArray⟩ = l.map U8 := by simp [Lib.strCells, U8]
  have Hsz := Lib.hid hsz
  have Hstr := Lib.hid hstr
  clear h hrow hsz hstr
  go_wp2_with (at_builtin; refine Lib.wpList_append_own_stringF _ rfl _ _ 125 9 rfl B 5 i0 Try.underlying125 Try.underlying9 hi hz0 hz1 hz2 _ _ _ rfl hown ⟨l.toArray⟩ rfl ?c3 ?c4 ?c5 ?_)
  case c3 => rw [Hsz.out]; unfold maxLen; omega
  case c4 => rw [Hsz.out]; omega
  case c5 => omega
  intro v' w2 hown' hgrow _
  have hown2 : w2.ownsRowF B 5 1 v' (bs ++ l).length ((bs ++ l).map U8) := by simpa [Hstr.out, Hsz.out] using hown'
  have hput := hb.put hgrow hown2
  have hk2 := (hk.grown (v := v) (w2 := w2) hgrow hb.2.2.2 (Nat.le_refl _) (by omega)).setCell hb.1 1 v'
  have hr2 : Row w2 b T (.pointer (some ⟨b, 0, none⟩) :: v :: rest) := (hgrow.block b hb.lt (fun e => hb.ne e.symm)).trans hb.2.2.1
  have d1 : w2.cell? ⟨b, 1, none⟩ = some v := hr2.cell 1
  have f1 : w2.frozen? ⟨b, 1, none⟩ = false := hr2.frozen 1
  obtain ⟨ao, n', cap, rfl⟩ : ∃ ao n' cap, v' = .slice ao n' cap := by
    rcases hown'.2 with ⟨hv, _⟩ | ⟨g, cap, cur, fz, hv, _⟩
    · exact ⟨_, _, _, hv⟩
    · exact ⟨_, _, _, hv⟩
  clear hown' hown hown2 hgrow hr2 Hsz Hstr
  go_wp2
  go_ret2
  exact ⟨rfl, ⟨_, _, .inr rfl, hput⟩, hk2⟩

set_option maxRecDepth 100000 in
set_option maxHeartbeats 2000000 in
/-- Write, of a slice that is no nil. -/
theorem Write_any (T : TypeId) (rest : List Value) (B b : Nat) (bs l : List UInt8) (ad : Addr) (cap : Nat) (w : World) (hT : BldT T rest.length) (h : Bl T rest B b bs w) (hlen : bs.length + l.length ≤ 140737488355328) (hBw : B ≤ w.heap.size)
    (hne : ad.block ≠ b) (hl : ∀ j u, (l.map U8)[j]? = some u → w.cell? (ad.add j) = some u) :
    Calls Try.prog 213 #[.pointer (some ⟨b, 0, none⟩), .slice (some ad) l.length cap] w fun e w' => e = .returned (.tuple #[.int .i64 l.length, .nilIface]) ∧ Bl T rest B b (bs ++ l) w' ∧ BK 5 B b w w' := by
  obtain ⟨i0, hi, hz0, hz1, hz2⟩ := info_parts info8
  go_enter Try.func213, Try.ntmps213
  go_wp2_with fail
  refine (copyCheck_any T rest B b bs _ hT h).mono ?_
  rintro e w1 ⟨rfl, ⟨v, hb⟩, hkk⟩
  have hk : BK 5 B b w w1 := BK.of_keeps hkk hb.1 hBw
  have hrow := hb.2.2.1
  have hown := hb.2.2.2
  have c1 : w1.cell? ⟨b, 1, none⟩ = some v := hrow.cell 1
  have hbs := hk.size
  clear h hrow
  go_wp2_with (at_builtin; refine wpList_append_ownF _ rfl _ _ 125 rfl B 5 i0 (.int .u8 0) 1 1 Try.underlying125 hi hz0 hz1 hz2 rfl (by decide) _ _ _ rfl hown ad l.length cap (l.map U8) rfl ?c0 ?c1 ?c2 ?c3 ?c4 ?c5 ?_)
  case c0 => simp
  case c1 => exact fun j u hj => cell_keeps hkk (hl j u hj) (by rw [add_block]; exact hne)
  case c2 => exact oneCell_8
  case c3 => unfold maxLen; omega
  case c4 => omega
  case c5 => omega
  intro v' w2 hown' hgrow _
  have hown2 : w2.ownsRowF B 5 1 v' (bs ++ l).length ((bs ++ l).map U8) := by simpa using hown'
  have hput := hb.put hgrow hown2
  have hk2 := (hk.grown (v := v) (w2 := w2) hgrow hb.2.2.2 (Nat.le_refl _) (by omega)).setCell hb.1 1 v'
  have hr2 : Row w2 b T (.pointer (some ⟨b, 0, none⟩) :: v :: rest) := (hgrow.block b hb.lt (fun e => hb.ne e.symm)).trans hb.2.2.1
  have d1 : w2.cell? ⟨b, 1, none⟩ = some v := hr2.cell 1
  have f1 : w2.frozen? ⟨b, 1, none⟩ = false := hr2.frozen 1
  obtain ⟨ao, n', cap', rfl⟩ : ∃ ao n' cap, v' = .slice ao n' cap := by
    rcases hown'.2 with ⟨hv, _⟩ | ⟨g, cap, cur, fz, hv, _⟩
    · exact ⟨_, _, _, hv⟩
    · exact ⟨_, _, _, hv⟩
  clear hown' hown hown2 hgrow hr2
  go_wp2
  go_ret2
  exact ⟨rfl, ⟨_, _, .inr rfl, hput⟩, hk2⟩

theorem Len_any (T : TypeId) (rest : List Value) (B b : Nat) (bs : List UInt8) (w : World) (h : Bl T rest B b bs w) :
    Calls Try.prog 182 #[.pointer (some ⟨b, 0, none⟩)] w fun e w' => e = .returned (.int .i64 bs.length) ∧ w = w' := by
  obtain ⟨p, v, hp, hb⟩ := h
  have c1 : w.cell? ⟨b, 1, none⟩ = some v := hb.2.2.1.cell 1
  obtain ⟨ao, cap, rfl⟩ : ∃ ao cap, v = .slice ao bs.length cap := by
    rcases hb.2.2.2.2 with ⟨hv, h0⟩ | ⟨g, cap, cur, fz, hv, _⟩
    · exact ⟨_, _, by rw [h0]; exact hv⟩
    · exact ⟨_, _, hv⟩
  clear hb hp
  go_enter Try.func182, Try.ntmps182
  go_wp2
  go_ret
  exact ⟨rfl, rfl⟩

theorem cellsByte : Try.prog.cellsOf 5 = 1 := by kernel_rfl
set_option maxRecDepth 100000 in
set_option maxHeartbeats 2000000 in
theorem String_any (T : TypeId) (rest : List Value) (B b : Nat) (bs : List UInt8) (w : World) (h : Bl T rest B b bs w) (hBw : B ≤ w.heap.size) :
    Calls Try.prog 156 #[.pointer (some ⟨b, 0, none⟩)] w fun e w' => e = .returned (S bs) ∧ Bl T rest B b bs w' ∧ BK 5 B b w w' := by
  obtain ⟨p, v, hp, hb⟩ := h
  have hrow := hb.2.2.1
  have hown := hb.2.2.2
  have c1 : w.drew.cell? ⟨b, 1, none⟩ = some v := hrow.cell 1
  have c0 : w.cell? ⟨b, 1, none⟩ = some v := hrow.cell 1
  have hN : ∀ (W : World) (q : Option Addr), (Builtin.unsafeString_ #[275, 3] 9 #[.pointer q, .int .i64 0]).run Try.prog W = .ok (.string .empty) W := fun W q => Lib.run_unsafeString_none W _ _ _ q
  rcases hown.2 with ⟨rfl, h0⟩ | ⟨g, cap, cur, fz, rfl, hbg, hg, hfz, hnc, hcm, hcs, htake⟩
  · obtain rfl : bs = [] := List.length_eq_zero_iff.1 h0
    have hSD : (Builtin.unsafeSliceData_ #[125] 275 #[.slice none 0 0]).run Try.prog w.drew = .ok (.pointer none) w.drew := rfl
    have hk : Bl T rest B b [] w.drew := ⟨_, _, hp, hb⟩
    clear hrow hown hb h0
    go_enter Try.func156, Try.ntmps156
    go_wp2
    go_region
    all_goals (go_wp2; go_ret; exact ⟨rfl, hk, (BK.refl _ _ _ _).drew⟩)
  · by_cases hl0 : bs = []
    · subst hl0
      by_cases hc0 : cap = 0
      · subst hc0
        have hlt := hrow.lt
        have hSD : (Builtin.unsafeSliceData_ #[125] 275 #[.slice (some ⟨g, 0, none⟩) 0 0]).run Try.prog w.drew = .ok (.pointer (some ⟨w.drew.heap.size, 0, none⟩)) (w.drew.alloc (.view ⟨g, 0, none⟩ 5)) :=
          Lib.run_unsafeSliceData_zero w.drew _ _ 5 Try.underlying275 ⟨g, 0, none⟩ 0 (5, cur.size) (by have hg' : w.drew.heap[g]? = some (.cells cur 5 fz) := hg; simp [World.shape?, hg'])
        have c2 : (w.drew.alloc (.view ⟨g, 0, none⟩ 5)).cell? ⟨b, 1, none⟩ = some (.slice (some ⟨g, 0, none⟩) 0 0) := by
          have : (w.drew.alloc (.view ⟨g, 0, none⟩ 5)).heap[b]? = _ := (Lib.alloc_old w.drew _ b hlt).trans hrow
          rw [Lib.cell_of_heap this]; rfl
        have c3 : (w.alloc (.view ⟨g, 0, none⟩ 5)).drew.cell? ⟨b, 1, none⟩ = some (.slice (some ⟨g, 0, none⟩) 0 0) := c2
        have hk : Bl T rest B b [] (w.drew.alloc (.view ⟨g, 0, none⟩ 5)) := ⟨_, _, hp, BldP.below (w := w.drew) hb ((Keeps.refl _ _).alloc _)⟩
        have hk2 : BK 5 B b w (w.drew.alloc (.view ⟨g, 0, none⟩ 5)) := ((BK.refl _ _ _ _).drew).alloc hBw _
        clear hrow hown hb hg htake hfz hcs hcm hnc
        go_enter Try.func156, Try.ntmps156
        go_wp2
        go_region
        all_goals (go_wp2; go_ret; exact ⟨rfl, hk, hk2⟩)
      · have hSD : (Builtin.unsafeSliceData_ #[125] 275 #[.slice (some ⟨g, 0, none⟩) 0 cap]).run Try.prog w.drew = .ok (.pointer (some ⟨g, 0, none⟩)) w.drew :=
          Lib.run_unsafeSliceData_row _ _ _ _ _ _ hc0
        have hk : Bl T rest B b [] w.drew := ⟨_, _, hp, hb⟩
        clear hc0 hrow hown hb hg htake hfz hcs hcm hnc
        go_enter Try.func156, Try.ntmps156
        go_wp2
        go_region
        all_goals (go_wp2; go_ret; exact ⟨rfl, hk, (BK.refl _ _ _ _).drew⟩)
    · have hl1 : bs.length ≠ 0 := by simpa using hl0
      have hSD : (Builtin.unsafeSliceData_ #[125] 275 #[.slice (some ⟨g, 0, none⟩) bs.length cap]).run Try.prog w.drew = .ok (.pointer (some ⟨g, 0, none⟩)) w.drew :=
        Lib.run_unsafeSliceData_row _ _ _ _ _ _ (by omega)
      have hUS : (Builtin.unsafeString_ #[275, 3] 9 #[.pointer (some ⟨g, 0, none⟩), .int .i64 bs.length]).run Try.prog w.drew = .ok (S bs) (w.drew.freeze ⟨g, 0, none⟩ bs.length) := by
        refine Lib.run_unsafeString_row w.drew 275 3 9 5 Try.underlying275 cellsByte g cur.size (by have hg' : w.drew.heap[g]? = some (.cells cur 5 fz) := hg; simp [World.shape?, hg']) bs hl0 (by omega) (by unfold maxLen at hcm; omega) ?_
        intro j x hx
        exact hown.cells (g := g) rfl j (U8 x) (by simp [hx])
      have hk : Bl T rest B b bs (w.drew.freeze ⟨g, 0, none⟩ bs.length) := ⟨_, _, hp, BldP.froze (w := w.drew) hb⟩
      have hk2 : BK 5 B b w (w.drew.freeze ⟨g, 0, none⟩ bs.length) := ((BK.refl _ _ _ _).drew).freeze hbg (w' := w.drew) hg
      clear hrow hown hb hg htake hfz hcs hcm hnc hl0 hl1 hN
      go_enter Try.func156, Try.ntmps156
      go_wp2
      go_region
      all_goals (go_wp2; go_ret; exact ⟨rfl, hk, hk2⟩)
end Go.Proofs.Ythppdlemchmipaa
