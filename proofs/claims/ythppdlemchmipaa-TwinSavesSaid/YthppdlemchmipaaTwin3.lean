/- package twin: Open. -/
import Derived.Test.YthppdlemchmipaaTwin2
namespace Go.Proofs.Ythppdlemchmipaa
open Go.RowKit Go.Wd
def tw0 : Tw := ⟨[], 0, 0, false⟩
def twAt (size : Nat) (g0 g1 : List UInt8 × Int × Int) (k : Nat) : Tw := if k = 0 then tw0 else if k = 1 then taken size 0 g0 tw0 else taken size 1 g1 (taken size 0 g0 tw0)
def gAt (g0 g1 : List UInt8 × Int × Int) (k : Nat) : List UInt8 × Int × Int := if k = 0 then g0 else g1
theorem twAt_succ (size : Nat) (g0 g1 : List UInt8 × Int × Int) (k : Nat) (hk : k < 2) : twAt size g0 g1 (k + 1) = taken size k (gAt g0 g1 k) (twAt size g0 g1 k) := by
  rcases (by omega : k = 0 ∨ k = 1) with rfl | rfl <;> rfl
theorem twAt_down (size : Nat) (g0 g1 : List UInt8 × Int × Int) (k : Nat) : (twAt size g0 g1 k).down = false := by
  unfold twAt taken tw0
  repeat' split
  all_goals rfl
theorem taken_cases (size side : Nat) (g : List UInt8 × Int × Int) (t : Tw) :
    (g.2.2 ≠ 0 ∧ taken size side g t = t) ∨ (g.2.2 = 0 ∧ fits size g.1 = false ∧ taken size side g t = t) ∨ (g.2.2 = 0 ∧ fits size g.1 = true ∧ ¬ t.gen < g.2.1 ∧ taken size side g t = t) ∨
    (g.2.2 = 0 ∧ fits size g.1 = true ∧ t.gen < g.2.1 ∧ taken size side g t = ⟨g.1, g.2.1, side, t.down⟩) := by
  unfold taken
  by_cases h1 : g.2.2 = 0
  · cases h2 : fits size g.1 with
    | false => exact .inr (.inl ⟨h1, rfl, by rw [if_neg (by simp)]⟩)
    | true =>
      by_cases h3 : t.gen < g.2.1
      · exact .inr (.inr (.inr ⟨h1, rfl, h3, by rw [if_pos ⟨h1, rfl, h3⟩]⟩))
      · exact .inr (.inr (.inl ⟨h1, rfl, h3, by rw [if_neg (fun hh => h3 hh.2.2)]⟩))
  · exact .inl ⟨h1, by rw [if_neg (fun hh => h1 hh.1)]⟩
def topenV (e : Int) (T : Nat) : Value := if e = 0 then .tuple #[.pointer (some ⟨T, 0, none⟩), .int .i64 0] else .tuple #[.pointer none, .int .i64 e]
theorem Get_n (B D Z : Nat) (vs : Value) (from' size : Nat) (st : Dsk) (at' i : Int) (hi : at' = i) (w : World) (h : Zk B D Z vs from' size st w) :
    Calls Try.prog 57 #[.pointer (some ⟨Z, 0, none⟩), .int .i64 i] w fun e w' => e = .returned (getT (st.zget from' size at')) ∧ Below w.heap.size w w' := by
  subst hi; exact Get_any B D Z vs from' size st at' w h
theorem zget_text (st : Dsk) (from' size : Nat) (at' : Int) : (st.zget from' size at').1.length ≤ 1024 := by
  unfold Dsk.zget
  split
  · simp
  · split
    · simp
    · unfold getOf
      split
      · simp
      · split
        · rename_i hle
          split
          · simp
          · split
            · simp only [List.length_take]; have := le32_bd (List.drop 32 ‹List UInt8›); omega
            · simp
        · simp
set_option maxRecDepth 100000 in
set_option maxHeartbeats 4000000 in
theorem Open_not (Z D from' size : Nat) (w : World) (h : Zn Z D from' size w) (hno : zoneOK size = false) :
    Calls Try.prog 72 #[.pointer (some ⟨Z, 0, none⟩)] w fun e w' => e = .returned (.tuple #[.pointer none, .int .i64 1]) ∧ w = w' := by
  go_enter Try.func72, Try.ntmps72
  go_wp2_with fail
  refine (isZone_any Z D from' size w h).mono ?_
  rintro e w' ⟨rfl, rfl⟩
  rw [hno]
  go_wp2_with fail
  go_ret2
  exact ⟨rfl, rfl⟩
set_option maxRecDepth 100000 in
set_option maxHeartbeats 4000000 in
theorem Open_any (B D Z : Nat) (vs : Value) (from' size : Nat) (st : Dsk) (w : World) (h : Zk B D Z vs from' size st w) (hz : zoneOK size = true) :
    Calls Try.prog 72 #[.pointer (some ⟨Z, 0, none⟩)] w fun e w' => ∃ T, e = .returned (topenV (st.topen from' size).1 T) ∧ w.heap.size ≤ T ∧ ((st.topen from' size).1 = 0 → Twn T Z (st.topen from' size).2 w') ∧ Below w.heap.size w w' := by
  have hsm := h.small
  have hz4 : 4 ≤ size ∧ size % 2 = 0 := by simpa [zoneOK] using hz
  obtain ⟨z4, z5⟩ := hz4
  obtain ⟨r, hr⟩ : ∃ r, r = st.topen from' size := ⟨_, rfl⟩
  rw [← hr]
  unfold Dsk.topen at hr
  have hG : ∀ (k : Nat) w1, k < 2 → Zk B D Z vs from' size st w1 → ∀ i : Int, (k : Int) * (size : Int) / 2 = i → Calls Try.prog 57 #[.pointer (some ⟨Z, 0, none⟩), .int .i64 i] w1 fun e w' => e = .returned (getT (gAt (st.zget from' size 0) (st.zget from' size (size / 2 : Nat)) k)) ∧ Below w1.heap.size w1 w' := by
    intro k w1 hk z1 i hi
    rcases (by omega : k = 0 ∨ k = 1) with rfl | rfl
    · exact Get_n B D Z vs from' size st 0 i (by omega) w1 z1
    · exact Get_n B D Z vs from' size st (size / 2 : Nat) i (by omega) w1 z1
  have ht0 := zget_text st from' size 0
  have ht1 := zget_text st from' size (size / 2 : Nat)
  cases ha : st.away with
  | true =>
    have hg0 : st.zget from' size 0 = ([], 0, 4) := by unfold Dsk.zget; rw [if_neg (by omega), if_pos ha]
    rw [if_pos ha] at hr
    have hG0 := hG 0 
    rw [hg0] at hG0
    have HG := Lib.hid hG0
    have Hr := Lib.hid hr
    have Hz := Lib.hid hz
    clear hr hz hG hg0 ha hG0 ht0 ht1 z5
    go_enter Try.func72, Try.ntmps72
    go_wp2_with fail
    refine (isZone_any Z D from' size w h.row).mono ?_
    rintro e w' ⟨rfl, rfl⟩
    rw [Hz.out]
    have hbn : Below w.heap.size w (w.alloc (.cells #[.pointer (some ⟨Z, 0, none⟩), .string ⟨#[]⟩, .int .i64 0, .int .i64 0, .bool false] 165)) := (Below.refl _ _).alloc (Nat.le_refl _) _
    have hz1 := h.new hbn
    go_wp2_with (refine wpl_build rfl 165 _ rfl [.pointer (some ⟨Z, 0, none⟩), .string ⟨#[]⟩, .int .i64 0, .int .i64 0, .bool false] (by kernel_rfl) ?_)
    refine wp_loop_rounds 1 ?_
    rw [rounds_succ]
    go_wp2_with fail
    refine (ZLen_any Z D from' size _ hz1.row).mono ?_
    rintro e w' ⟨rfl, rfl⟩
    go_wp2_with fail
    refine (HG.out _ (by omega) hz1 _ (by omega)).mono ?_
    rintro e w2 ⟨rfl, b2⟩
    have e0 : gAt ([], 0, 4) (st.zget from' size ↑(size / 2)) 0 = ([], 0, 4) := rfl
    rw [e0]
    unfold getT
    go_wp2_with fail
    go_ret2
    rw [Hr.out]
    exact ⟨w.heap.size, rfl, Nat.le_refl _, fun he => absurd he (by decide), hbn.trans (b2.mono hbn.size)⟩
  | false =>
    rw [if_neg (by simp [ha])] at hr
    have hne4 : ∀ k, k < 2 → (gAt (st.zget from' size 0) (st.zget from' size (size / 2 : Nat)) k).2.2 ≠ 4 := by
      intro k hk
      have : ∀ a : Nat, a < size → (st.zget from' size (a : Int)).2.2 ≠ 4 := by
        intro a hl
        unfold Dsk.zget
        rw [if_neg (by omega), if_neg (by simp [ha])]
        rcases getOf_cases (st.zone from' size (a : Int).toNat) with ⟨e, _⟩ | e | e
        · rw [e]; decide
        · rw [e]; decide
        · rw [e]; decide
      rcases (by omega : k = 0 ∨ k = 1) with rfl | rfl
      · exact this 0 (by omega)
      · exact this (size / 2) (by omega)
    generalize hg0 : st.zget from' size 0 = g0 at *
    generalize hg1 : st.zget from' size (size / 2 : Nat) = g1 at *
    have htl : ∀ k, (gAt g0 g1 k).1.length ≤ 1024 := by intro k; unfold gAt; split <;> assumption
    have HG := Lib.hid hG
    have Hr := Lib.hid hr
    have Hz := Lib.hid hz
    have Hne := Lib.hid hne4
    have Htl := Lib.hid htl
    clear hr hz hG hg0 hg1 ha hne4 htl ht0 ht1
    go_enter Try.func72, Try.ntmps72
    go_wp2_with fail
    refine (isZone_any Z D from' size w h.row).mono ?_
    rintro e w' ⟨rfl, rfl⟩
    rw [Hz.out]
    have hbn : Below w.heap.size w (w.alloc (.cells #[.pointer (some ⟨Z, 0, none⟩), .string ⟨#[]⟩, .int .i64 0, .int .i64 0, .bool false] 165)) := (Below.refl _ _).alloc (Nat.le_refl _) _
    have hz1 := h.new hbn
    have hT1 : Twn w.heap.size Z (twAt size g0 g1 0) (w.alloc (.cells #[.pointer (some ⟨Z, 0, none⟩), .string ⟨#[]⟩, .int .i64 0, .int .i64 0, .bool false] 165)) := Row.alloc w _ [.pointer (some ⟨Z, 0, none⟩), .string ⟨#[]⟩, .int .i64 0, .int .i64 0, .bool false]
    go_wp2_with (refine wpl_build rfl 165 _ rfl [.pointer (some ⟨Z, 0, none⟩), .string ⟨#[]⟩, .int .i64 0, .int .i64 0, .bool false] (by kernel_rfl) ?_)
    go_loopg [19] 2 (fun gk v19 wr => ∃ k : Nat, k ≤ 2 ∧ gk = 2 - k ∧ v19 = .int .i64 k ∧ Zk B D Z vs from' size st wr ∧ Twn w.heap.size Z (twAt size g0 g1 k) wr ∧ Below w.heap.size w wr)
    case atStart => exact ⟨0, by omega, rfl, rfl, hz1, hT1, hbn⟩
    case round =>
      clear hz1 hT1 hbn
      obtain ⟨k, hk, hgk, rfl, zr, tr, br⟩ := hrel
      have Hgk := Lib.hid hgk
      have hsz := br.size
      clear hgk
      by_cases hlt : k < 2
      · have hs := twAt_succ size g0 g1 k hlt
        have hdn := twAt_down size g0 g1 k
        obtain ⟨kz, hkz⟩ : ∃ kz : Int, (k : Int) * (size : Int) = kz := ⟨_, rfl⟩
        have hkz0 : 0 ≤ kz ∧ kz ≤ 4096 := by rcases (by omega : k = 0 ∨ k = 1) with rfl | rfl <;> omega
        obtain ⟨hkz1, hkz2⟩ := hkz0
        have hgk := HG.out k wr hlt zr (kz / 2) (by rw [hkz])
        have hne := Hne.out k hlt
        have htl := Htl.out k
        have q2 : wr.cell? ⟨w.heap.size, 2, none⟩ = some (.int .i64 (twAt size g0 g1 k).gen) := tr.cell 2
        rcases taken_cases size k (gAt g0 g1 k) (twAt size g0 g1 k) with ⟨c1, c2⟩ | ⟨c1, c3, c2⟩ | ⟨c1, c3, c4, c2⟩ | ⟨c1, c3, c4, c2⟩
        · as_aux_lemma =>
          rw [c2] at hs
          generalize gAt g0 g1 k = g at *
          obtain ⟨gt, gn, ge⟩ := g
          simp only at c1 hne htl
          have x1 : (ge == 4) = false := by simpa using hne
          have x2 : (ge == 0) = false := by simpa using c1
          generalize hta : twAt size g0 g1 k = ta at *
          have Hs := Lib.hid hs
          have HGk := Lib.hid hgk
          clear hs hdn hgk hne hta c2 c1
          go_wp2_with fail
          refine (ZLen_any Z D from' size wr zr.row).mono ?_
          rintro e w' ⟨rfl, rfl⟩
          go_wp2_with fail
          refine HGk.out.mono ?_
          rintro e w2 ⟨rfl, b2⟩
          have z2 := zr.new b2
          have t2 := twn_new tr b2
          have b2 := br.trans (b2.mono hsz)
          have y2 : w2.cell? ⟨w.heap.size, 2, none⟩ = some (.int .i64 ta.gen) := t2.cell 2
          clear q2 hkz
          unfold getT
          go_wp2_with fail
          go_roundg (2 - (k + 1))
          case measure => have := Hgk.out; omega
          case rel => exact ⟨k + 1, by omega, rfl, by go_num, z2, by rw [Hs.out]; exact t2, b2⟩
        · as_aux_lemma =>
          rw [c2] at hs
          generalize gAt g0 g1 k = g at *
          obtain ⟨gt, gn, ge⟩ := g
          simp only at c1 hne htl c3
          subst c1
          generalize hta : twAt size g0 g1 k = ta at *
          have Hs := Lib.hid hs
          have HGk := Lib.hid hgk
          have C3 := Lib.hid c3
          clear hs hdn hgk hne hta c2 c3
          go_wp2_with fail
          refine (ZLen_any Z D from' size wr zr.row).mono ?_
          rintro e w' ⟨rfl, rfl⟩
          go_wp2_with fail
          refine HGk.out.mono ?_
          rintro e w2 ⟨rfl, b2⟩
          have z2 := zr.new b2
          have t2 := twn_new tr b2
          have b2 := br.trans (b2.mono hsz)
          have y2 : w2.cell? ⟨w.heap.size, 2, none⟩ = some (.int .i64 ta.gen) := t2.cell 2
          clear q2 hkz
          unfold getT
          go_wp2_with fail
          refine (isText_any Z D from' size gt w2 z2.row (by omega) (by omega)).mono ?_
          rintro e w' ⟨rfl, rfl⟩
          rw [C3.out]
          go_wp2_with fail
          go_roundg (2 - (k + 1))
          case measure => have := Hgk.out; omega
          case rel => exact ⟨k + 1, by omega, rfl, by go_num, z2, by rw [Hs.out]; exact t2, b2⟩
        · as_aux_lemma =>
          rw [c2] at hs
          generalize gAt g0 g1 k = g at *
          obtain ⟨gt, gn, ge⟩ := g
          simp only at c1 hne htl c3 c4
          subst c1
          generalize hta : twAt size g0 g1 k = ta at *
          have x4 : decide (ta.gen < gn) = false := by simpa using c4
          have Hs := Lib.hid hs
          have HGk := Lib.hid hgk
          have C3 := Lib.hid c3
          clear hs hdn hgk hne hta c2 c3 c4
          go_wp2_with fail
          refine (ZLen_any Z D from' size wr zr.row).mono ?_
          rintro e w' ⟨rfl, rfl⟩
          go_wp2_with fail
          refine HGk.out.mono ?_
          rintro e w2 ⟨rfl, b2⟩
          have z2 := zr.new b2
          have t2 := twn_new tr b2
          have b2 := br.trans (b2.mono hsz)
          have y2 : w2.cell? ⟨w.heap.size, 2, none⟩ = some (.int .i64 ta.gen) := t2.cell 2
          clear q2 hkz
          unfold getT
          go_wp2_with fail
          refine (isText_any Z D from' size gt w2 z2.row (by omega) (by omega)).mono ?_
          rintro e w' ⟨rfl, rfl⟩
          rw [C3.out]
          go_wp2_with fail
          go_roundg (2 - (k + 1))
          case measure => have := Hgk.out; omega
          case rel => exact ⟨k + 1, by omega, rfl, by go_num, z2, by rw [Hs.out]; exact t2, b2⟩
        · as_aux_lemma =>
          rw [c2] at hs
          generalize gAt g0 g1 k = g at *
          obtain ⟨gt, gn, ge⟩ := g
          simp only at c1 hne htl c3 c4
          subst c1
          generalize hta : twAt size g0 g1 k = ta at *
          have x4 : decide (ta.gen < gn) = true := by simpa using c4
          have Hs := Lib.hid hs
          have HGk := Lib.hid hgk
          have C3 := Lib.hid c3
          clear hs hdn hgk hne hta c2 c3 c4
          go_wp2_with fail
          refine (ZLen_any Z D from' size wr zr.row).mono ?_
          rintro e w' ⟨rfl, rfl⟩
          go_wp2_with fail
          refine HGk.out.mono ?_
          rintro e w2 ⟨rfl, b2⟩
          have z2 := zr.new b2
          have t2 := twn_new tr b2
          have b2 := br.trans (b2.mono hsz)
          have y2 : w2.cell? ⟨w.heap.size, 2, none⟩ = some (.int .i64 ta.gen) := t2.cell 2
          clear q2 hkz
          unfold getT
          have y1 : w2.cell? ⟨w.heap.size, 1, none⟩ = some (S ta.text) := t2.cell 1
          have y3 : w2.cell? ⟨w.heap.size, 3, none⟩ = some (.int .i64 (ta.side : Int)) := t2.cell 3
          have f1 := t2.frozen 1
          have f2 := t2.frozen 2
          have f3 := t2.frozen 3
          go_wp2_with fail
          refine (isText_any Z D from' size gt w2 z2.row (by omega) (by omega)).mono ?_
          rintro e w' ⟨rfl, rfl⟩
          rw [C3.out]
          go_wp2_with fail
          go_roundg (2 - (k + 1))
          case measure => have := Hgk.out; omega
          case rel =>
            refine ⟨k + 1, by omega, rfl, by go_num, zk_setT (zk_setT (zk_setT z2 t2) (t2.set 1 (S gt) rfl : Twn w.heap.size Z { ta with text := gt } _)) ((t2.set 1 (S gt) rfl).set 2 (.int .i64 gn) rfl : Twn w.heap.size Z { ta with text := gt, gen := gn } _), ?_, ((b2.setCell (p := ⟨w.heap.size, 1, none⟩) (Nat.le_refl _) _).setCell (p := ⟨w.heap.size, 2, none⟩) (Nat.le_refl _) _).setCell (p := ⟨w.heap.size, 3, none⟩) (Nat.le_refl _) _⟩
            rw [Hs.out]
            exact ((t2.set 1 (S gt) rfl).set 2 (.int .i64 gn) rfl).set 3 (.int .i64 (k : Int)) rfl
      · as_aux_lemma =>
        obtain rfl : k = 2 := by omega
        have y2 : wr.cell? ⟨w.heap.size, 2, none⟩ = some (.int .i64 (twAt size g0 g1 2).gen) := tr.cell 2
        by_cases h0 : (twAt size g0 g1 2).gen = 0
        · have x0 : ((twAt size g0 g1 2).gen == 0) = true := by simpa using h0
          have hfin : r = (5, twAt size g0 g1 2) := by rw [Hr.out]; exact if_pos h0
          have Hfin := Lib.hid hfin
          clear hfin h0
          go_wp2_with fail
          go_ret2
          rw [Hfin.out]
          exact ⟨w.heap.size, rfl, Nat.le_refl _, fun he => absurd he (show ¬ (5 : Int) = 0 by decide), br⟩
        · have x0 : ((twAt size g0 g1 2).gen == 0) = false := by simpa using h0
          have hfin : r = (0, twAt size g0 g1 2) := by rw [Hr.out]; exact if_neg h0
          have Hfin := Lib.hid hfin
          clear hfin h0
          go_wp2_with fail
          go_ret2
          rw [Hfin.out]
          exact ⟨w.heap.size, rfl, Nat.le_refl _, fun _ => tr, br⟩
end Go.Proofs.Ythppdlemchmipaa
