/- disk.Read where the check passes. -/
import Derived.Test.YthppdlemchmipaaDisk7
namespace Go.Proofs.Ythppdlemchmipaa
open Go.RowKit Go.Wd Go.Shelf
attribute [local go_sem] Oper.semAt_some
theorem row_own {β : Type} (n : Nat) (T : TypeId) (f : β → List Value) : Own (fun s W => Row W n T (f s)) := fun s X Y row hs hg hrow => by
  have hlt : n < X.heap.size := Row.lt hs
  refine (hg.block n hlt (fun e' => ?_)).trans hs
  obtain ⟨o, ho, hc⟩ := hrow n e'.symm
  rw [show X.heap[n]? = _ from hs] at ho; cases ho; cases hc
set_option maxRecDepth 100000 in
set_option maxHeartbeats 4000000 in
theorem Read_ok (B D : Nat) (vs : Value) (st : Dsk) (at' : Nat) (w : World) (h : Dk B D vs st w) (hat : at' < st.safe.length) (hon : st.away = false) (hn : st.loose.length ≤ 1000000) :
    Calls Try.prog 183 #[.pointer (some ⟨D, 0, none⟩), .int .i64 (at' : Int)] w fun e w' => e = .returned (.tuple #[S (st.now.getD at' []), .int .i64 0]) ∧ Below w.heap.size w w' := by
  have hchk : st.chk (at' : Int) = 0 := by unfold Dsk.chk; rw [if_neg (by omega), if_neg (by simp [hon])]
  have hDlt : D < w.heap.size := by obtain ⟨kv, vl, hP⟩ := h; exact hP.2.1.lt
  refine (callsIn_wide (n := 8)).1 ?_
  refine callsIn_of_wp_marks Try.func183 rfl trivial ?_ rfl
  simp only [Try.ntmps183, List.size_toArray, List.length_cons, List.length_nil, Nat.reduceAdd, Nat.reduceSub, Array.replicate_succ, Array.replicate_zero, List.push_toArray, List.append_toArray, List.nil_append, List.cons_append]
  obtain ⟨W3, hW3⟩ : ∃ W3, ((w.alloc (.cells #[.int .i64 (at' : Int)] 3)).alloc (.cells #[.string ⟨#[]⟩] 9)).alloc (.cells #[.int .i64 0] 39) = W3 := ⟨_, rfl⟩
  have hb : Below w.heap.size w W3 := by rw [← hW3]; exact (((Below.refl _ w).alloc (Nat.le_refl _) _).alloc (by simp) _).alloc (by simp; omega) _
  have bA : Boxed W3 w.heap.size 3 (.int .i64 (at' : Int)) := by rw [← hW3]; exact ((Boxed.new w _ _).alloc _).alloc _
  have bS : Boxed W3 (w.heap.size + 1) 9 (.string ⟨#[]⟩) := by rw [← hW3]; have := (Boxed.new (w.alloc (.cells #[.int .i64 (at' : Int)] 3)) 9 (.string ⟨#[]⟩)).alloc (.cells #[.int .i64 0] 39); simpa using this
  have bE : Boxed W3 (w.heap.size + 1 + 1) 39 (.int .i64 0) := by rw [← hW3]; have := Boxed.new ((w.alloc (.cells #[.int .i64 (at' : Int)] 3)).alloc (.cells #[.string ⟨#[]⟩] 9)) 39 (.int .i64 0); simpa using this
  have hsz : W3.heap.size = w.heap.size + 3 := by rw [← hW3]; simp
  have cA := bA.cell
  obtain ⟨kv, vl, hP0⟩ := h
  have hP := hP0.new hb
  obtain ⟨q, c, hvl⟩ := own_shape hP.2.2.1
  subst hvl
  have c4 : W3.cell? ⟨D, 4, none⟩ = some (.slice q st.loose.length c) := hP.2.1.cell 4
  have h3 : Dk B D vs st W3 := ⟨kv, _, hP⟩
  gi_wp2_with (first | (refine ⟨trivial, ?_⟩; gi_at_call 201; refine (callsIn_wide.2 (check_any B D vs st at' _ h3)).mono ?_; rintro e w' ⟨rfl, rfl⟩; rw [hchk]) | (refine ⟨trivial, ?_⟩; gi_at_call 219; refine (backward_in _ _ trivial rfl _ _ _ _).mono ?_; rintro e w' ⟨rfl, rfl⟩))
  have hcells : ∀ k p, st.loose[k]? = some p → ∃ b, q = some ⟨b, 0, none⟩ ∧ b < w.heap.size ∧ W3.cell? ⟨b, k * 2, none⟩ = some (.int .i64 (p.1 : Int)) ∧ W3.cell? ⟨b, k * 2 + 1, none⟩ = some (S p.2) := by
    intro k p hk
    have hpos : 0 < st.loose.length := by have := (List.getElem?_eq_some_iff.1 hk).1; omega
    obtain ⟨g, c', hv, _, hg, hown⟩ := own_pos hP0.2.2.1 hpos
    injection hv with hq _ _
    have hr := loose_range hP.2.2.1 hown hk
    exact ⟨g, hq, hg, hr 0 _ rfl, hr 1 _ rfl⟩
  have bN := Boxed.new W3 194 (.slice q st.loose.length c)
  rw [hsz] at bN
  obtain ⟨W4, hW4⟩ : ∃ W4, W3.alloc (.cells #[.slice q st.loose.length c] 194) = W4 := ⟨_, rfl⟩
  have hb4 : Below w.heap.size w W4 := by rw [← hW4]; exact hb.alloc (by omega) _
  have hsz4 : W4.heap.size = w.heap.size + 4 := by rw [← hW4]; simp [hsz]
  have bA4 : Boxed W4 w.heap.size 3 (.int .i64 (at' : Int)) := by rw [← hW4]; exact bA.alloc _
  have bS4 : Boxed W4 (w.heap.size + 1) 9 (.string ⟨#[]⟩) := by rw [← hW4]; exact bS.alloc _
  have bE4 : Boxed W4 (w.heap.size + 1 + 1) 39 (.int .i64 0) := by rw [← hW4]; exact bE.alloc _
  rw [hW4] at bN ⊢
  have hcells4 : ∀ k p, st.loose[k]? = some p → ∃ b, q = some ⟨b, 0, none⟩ ∧ b < w.heap.size ∧ W4.cell? ⟨b, k * 2, none⟩ = some (.int .i64 (p.1 : Int)) ∧ W4.cell? ⟨b, k * 2 + 1, none⟩ = some (S p.2) := fun k p hk => by
    obtain ⟨b, e1, e2, e3, e4⟩ := hcells k p hk
    have ha : Keeps (fun _ => False) W3 W4 := by rw [← hW4]; exact (Keeps.refl _ _).alloc _
    exact ⟨b, e1, e2, cell_keeps ha e3 id, cell_keeps ha e4 id⟩
  have hP4 := hP0.new hb4
  clear hW4 hW3 hcells bA bS bE cA c4 hP
  refine wpIn_rangeFunc_ownH (F := .wide) rfl (by decide) (gf := 226) (lb := #[.pointer (some ⟨w.heap.size + 3, 0, none⟩)]) rfl trivial (enters_of Try.func226 (by kernel_rfl) rfl)
    (backward_stops .wide 7 trivial rfl (by omega) (w.heap.size + 3) (w.heap.size + 4) c q st.loose hn W4 (by omega) (by omega) bN.cell (fun k p hk => by obtain ⟨b, e1, e2, r⟩ := hcells4 k p hk; exact ⟨b, e1, by omega, r⟩)) belowK_t (belowK_b (by omega)) (Below.refl _ _) (fun _ => rfl)
    (fun pre W => ((∀ p ∈ pre, p.2.1 ≠ at') ∧ (Boxed W w.heap.size 3 (.int .i64 (at' : Int)) ∧ Boxed W (w.heap.size + 1) 9 (.string ⟨#[]⟩)) ∧ Boxed W (w.heap.size + 1 + 1) 39 (.int .i64 0) ∧ Boxed W (w.heap.size + 3) 194 (.slice q st.loose.length c)) ∧ Below w.heap.size w W)
    (fun cc pre W => (cc = .ret ∧ ∃ ini last, pre = ini ++ [last] ∧ (∀ p ∈ ini, p.2.1 ≠ at') ∧ last.2.1 = at' ∧ Boxed W (w.heap.size + 1) 9 (S last.2.2) ∧ Boxed W (w.heap.size + 1 + 1) 39 (.int .i64 0)) ∧ Below w.heap.size w W)
    (OwnFrom.and (OwnFrom.and (ownFrom_pure _ _) (OwnFrom.and (OwnFrom.and (Own.from (boxed_own _ _ _) _) (Own.from (boxed_own _ _ _) _)) (OwnFrom.and (Own.from (boxed_own _ _ _) _) (Own.from (boxed_own _ _ _) _)))) (ownFrom_below (Nat.le_refl _) (by omega)))
    (fun cc => OwnFrom.and (Own.from (fun s A B row hs hg hr => by
      obtain ⟨hc, ini, last, e1, e2, e3, e4, e5⟩ := hs
      exact ⟨hc, ini, last, e1, e2, e3, boxed_own (w.heap.size + 1) 9 (fun (_ : Unit) => S last.2.2) () A B row e4 hg hr, boxed_own (w.heap.size + 1 + 1) 39 (fun (_ : Unit) => Value.int .i64 0) () A B row e5 hg hr⟩) _) (ownFrom_below (Nat.le_refl _) (by omega)))
    ⟨⟨by simp, ⟨bA4, bS4⟩, bE4, bN⟩, hb4⟩
    (fun x a' W => ∃ Bx, w.heap.size + 2 < Bx ∧ Row W Bx 198 [.int .i64 (x.2.1 : Int), S x.2.2] ∧ a' = { tmps := #[.pointer (some ⟨D, 0, none⟩), .int .i64 (at' : Int), undef, .pointer (some ⟨w.heap.size, 0, none⟩), .pointer (some ⟨w.heap.size + 1, 0, none⟩), .pointer (some ⟨w.heap.size + 1 + 1, 0, none⟩), .int .i64 0, undef, .pointer (some ⟨Bx, 0, none⟩), .pointer (some ⟨D, 0, none⟩), .int .i64 (at' : Int), .int .i64 0, .int .i64 0, .bool false, undef, .pointer (some ⟨D, 0, none⟩), .pointer (some ⟨D, 0, none⟩), .pointer (some ⟨D, 4, none⟩), .slice q st.loose.length c, .func (.func 226) #[] #[.pointer (some ⟨w.heap.size + 3, 0, none⟩)], .int .i64 (x.1 : Int), .agg #[.int .i64 (x.2.1 : Int), S x.2.2], undef, undef, undef, undef, undef, undef, undef, undef, undef, undef, undef, undef, undef], defers := [] })
    (fun x a' _ X Y row hs hg hr => by obtain ⟨Bx, h1, h2, h3⟩ := hs; exact ⟨Bx, h1, row_own Bx 198 (fun (_ : Unit) => [.int .i64 (x.2.1 : Int), S x.2.2]) () X Y row h2 hg (fun r e => (hr r e).2), h3⟩)
    ?assign ?body ?done ?stop
  case assign =>
    rintro l pre x W K ⟨⟨hp, ⟨b1, b2⟩, b3, b4⟩, hB⟩ hK
    unfold encW
    gi_wp2
    exact hK _ _ ((KeepsOthers.alloc _ _).from _) ((Below.refl _ W).alloc (by have := b4.lt; omega) _) ⟨⟨hp, ⟨b1.alloc _, b2.alloc _⟩, b3.alloc _, b4.alloc _⟩, hB.alloc hB.size _⟩ ⟨W.heap.size, by have := b3.lt; omega, Row.alloc _ _ _, rfl⟩
  case body =>
    rintro l pre x a' W hl ⟨r, hr⟩ ⟨⟨hp, ⟨b1, b2⟩, b3, b4⟩, hB⟩ ⟨Bx, hBx, bX, rfl⟩ hlt
    have c1 := b1.cell
    have x0 : W.cell? ⟨Bx, 0, none⟩ = some (.int .i64 (x.2.1 : Int)) := bX.cell 0
    have x1 : W.cell? ⟨Bx, 1, none⟩ = some (S x.2.2) := bX.cell 1
    have c2 := b2.cell
    have f2 := b2.frozen
    have c3 := b3.cell
    have f3 := b3.frozen
    have Hp := Lib.hid hp
    clear hp
    by_cases hx : x.2.1 = at'
    · have hq : ((x.2.1 : Int) == (at' : Int)) = true := by simp [hx]
      have b2' := b2.set (S x.2.2)
      have b3' : Boxed (W.setCell ⟨w.heap.size + 1, 0, none⟩ (S x.2.2)) (w.heap.size + 1 + 1) 39 (.int .i64 0) := b3.other (by omega) _
      have b2'' := b2'.other (B' := w.heap.size + 1 + 1) (by omega) (.int .i64 0)
      have b3'' := b3'.set (.int .i64 0)
      have hB' := (hB.setCell (p := ⟨w.heap.size + 1, 0, none⟩) (by simp) (S x.2.2)).setCell (p := ⟨w.heap.size + 1 + 1, 0, none⟩) (by simp; omega) (.int .i64 0)
      have Hx := Lib.hid hx
      clear hx hlt hr b1 b2 b3 b4 bX b2' b3' hB
      gi_wp2
      exact ⟨(((KeepsOthers.setCell _ _ _).trans (KeepsOthers.setCell _ _ _)).from _), ⟨rfl, pre, x, rfl, Hp.out, Hx.out, b2'', b3''⟩, hB'⟩
    · have hq : ((x.2.1 : Int) == (at' : Int)) = false := by simp; omega
      have Hx := Lib.hid hx
      clear hx
      gi_wp2
      refine ⟨KeepsFrom.refl _ _, Below.refl _ _, ⟨fun p hp' => ?_, ⟨b1, b2⟩, b3, b4⟩, hB⟩
      rcases List.mem_append.1 hp' with h | h
      · exact Hp.out p h
      · rw [List.mem_singleton.1 h]; exact Hx.out
  case done =>
    rintro Dd ys W hD rfl ⟨⟨hp, ⟨b1, b2⟩, b3, b4⟩, hB⟩ hK
    have hPW := hP0.new hB
    obtain ⟨sb, sc, hsv, hsb, hsbs, hsown⟩ := own_pos hPW.2.2.2.1 (by omega)
    subst hsv
    have d3 : W.cell? ⟨D, 3, none⟩ = some (.slice (some ⟨sb, 0, none⟩) st.safe.length sc) := hPW.2.1.cell 3
    have ds : W.cell? ⟨sb, at', none⟩ = some (S (st.safe.getD at' [])) := by
      have := hPW.2.2.2.1.cells hsown at' (S (st.safe.getD at' [])) (getD_map_some at' [] hat)
      simpa [Addr.add_mid] using this
    have c1 := b1.cell
    have c2 := b2.cell
    have f2 := b2.frozen
    have c3 := b3.cell
    have f3 := b3.frozen
    have hnow : st.now.getD at' [] = st.safe.getD at' [] := by
      refine now_none at' _ _ (fun p hpm => ?_)
      obtain ⟨j, hj⟩ := List.mem_iff_getElem?.1 hpm
      have hjl := (List.getElem?_eq_some_iff.1 hj).1
      refine hp (j, p) ?_
      simp only [uptoW, List.mem_map, List.mem_range]
      refine ⟨st.loose.length - 1 - j, by omega, ?_⟩
      unfold roundW
      rw [show st.loose.length - 1 - (st.loose.length - 1 - j) = j by omega]
      simp [List.getD, hj]
    have Hnow := Lib.hid hnow
    clear hnow hp
    gi_wp2
    gi_region
    gi_wp2
    have b2' := b2.set (S (st.safe.getD at' []))
    have b3' : Boxed (W.setCell ⟨w.heap.size + 1, 0, none⟩ (S (st.safe.getD at' []))) (w.heap.size + 1 + 1) 39 (.int .i64 0) := b3.other (by omega) _
    have b2'' := (b2'.other (B' := w.heap.size + 1 + 1) (by omega) (.int .i64 0)).cell
    have b3'' := (b3'.set (.int .i64 0)).cell
    have hK' := ((KeepsOthers.setCell W ⟨w.heap.size + 1, 0, none⟩ (S (st.safe.getD at' []))).trans (KeepsOthers.setCell _ ⟨w.heap.size + 1 + 1, 0, none⟩ (.int .i64 0))).same Dd _ hK rfl
    have hB' := ((hB.setCell (p := ⟨w.heap.size + 1, 0, none⟩) (by simp) (S (st.safe.getD at' []))).setCell (p := ⟨w.heap.size + 1 + 1, 0, none⟩) (by simp; omega) (.int .i64 0)).drew
    have hgd : st.safe.getD at' [] = st.safe[at'] := by simp [List.getD, hat]
    rw [hgd] at b2'' b3'' hK' hB'
    rw [Hnow.out, hgd]
    generalize ((W.setCell ⟨w.heap.size + 1, 0, none⟩ (S st.safe[at'])).setCell ⟨w.heap.size + 1 + 1, 0, none⟩ (.int .i64 0)) = W5 at *
    have hK5 : W5.drew.heap[Dd]? = some (.deferred (some [])) := hK'
    have b5 : W5.drew.cell? ⟨w.heap.size + 1, 0, none⟩ = some (S st.safe[at']) := b2''
    have b6 : W5.drew.cell? ⟨w.heap.size + 1 + 1, 0, none⟩ = some (.int .i64 0) := b3''
    refine ⟨by simp, .inl ⟨_, _, rfl, run_takeDeferred hK5, ?_⟩⟩
    have q2 := cell_kept b5 (grownBy_putObj' _ Dd (.deferred none)) (fun r e => by cases e; exact ⟨_, hK5, rfl⟩)
    have q3 := cell_kept b6 (grownBy_putObj' _ Dd (.deferred none)) (fun r e => by cases e; exact ⟨_, hK5, rfl⟩)
    refine ⟨.tuple #[S st.safe[at'], .int .i64 0], ?_, rfl, hB'.trans (belowK_b (w := W4) (by omega) W5.drew Dd _ _ hD hK5 rfl rfl)⟩
    simp [results, Try.f183, go_sem, q2, q3]
  case stop =>
    rintro Dd cc pre W hD ⟨k, hk, rfl⟩ ⟨⟨rfl, ini, last, e1, e2, e3, b2, b3⟩, hB⟩ hK
    have c2 := b2.cell
    have c3 := b3.cell
    obtain ⟨k', rfl⟩ : ∃ k', k = k' + 1 := by
      cases k with
      | zero => simp [uptoW] at e1
      | succ k' => exact ⟨k', rfl⟩
    rw [uptoW_succ] at e1
    obtain ⟨rfl, e5⟩ := List.append_inj' e1 rfl
    obtain rfl : roundW st.loose k' = last := by simpa using e5
    have hx : ∃ p, st.loose[st.loose.length - 1 - k']? = some p := ⟨_, List.getElem?_eq_getElem (by omega)⟩
    obtain ⟨p, hp⟩ := hx
    have hrw : roundW st.loose k' = (st.loose.length - 1 - k', p) := by unfold roundW; simp [List.getD, hp]
    rw [hrw] at e3 b2 c2
    have hnow : st.now.getD at' [] = p.2 := by
      refine now_last at' _ _ (st.loose.length - 1 - k') p hat hp e3 (fun j q' hj hq' => ?_)
      have hjl := (List.getElem?_eq_some_iff.1 hq').1
      refine e2 (j, q') ?_
      simp only [uptoW, List.mem_map, List.mem_range]
      refine ⟨st.loose.length - 1 - j, by omega, ?_⟩
      unfold roundW
      rw [show st.loose.length - 1 - (st.loose.length - 1 - j) = j by omega]
      simp [List.getD, hq']
    have Hnow := Lib.hid hnow
    clear hnow e2 e3 hrw hp e1 e5
    gi_wp2
    refine ⟨by simp, .inl ⟨_, _, rfl, run_takeDeferred hK, ?_⟩⟩
    have q2 := cell_kept c2 (grownBy_putObj' _ Dd (.deferred none)) (fun r e => by cases e; exact ⟨_, hK, rfl⟩)
    have q3 := cell_kept c3 (grownBy_putObj' _ Dd (.deferred none)) (fun r e => by cases e; exact ⟨_, hK, rfl⟩)
    refine ⟨.tuple #[S p.2, .int .i64 0], ?_, by rw [← Hnow.out]; rfl, hB.trans (belowK_b (w := W4) (by omega) W Dd _ _ hD hK rfl rfl)⟩
    simp [results, Try.f183, go_sem, q2, q3]
end Go.Proofs.Ythppdlemchmipaa
