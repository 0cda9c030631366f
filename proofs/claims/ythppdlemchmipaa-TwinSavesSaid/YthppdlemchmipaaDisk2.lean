/- disk: Cut, use, Write, Sync. -/
import Derived.Test.YthppdlemchmipaaDisk1
namespace Go.Wd
open Go.RowKit
theorem loose_range {w : World} {B g n : Nat} {e : TypeId} {v : Value} {l : List (Nat × List UInt8)} (h : w.ownsRow B e 2 v n (wcells l)) (hg : v.ownBlock = some g) {k : Nat} {p : Nat × List UInt8} (hp : l[k]? = some p) : w.rangeAt g (k * 2) [.int .i64 (p.1 : Int), S p.2] := by
  have hc := h.cells hg
  obtain ⟨h0, h1⟩ := wcells_at l k p hp
  intro j v hj
  match j, hj with
  | 0, hj => simp at hj; subst hj; have := hc _ _ h0; simpa [Addr.add_mid] using this
  | 1, hj => simp at hj; subst hj; have := hc _ _ h1; simpa [Addr.add_mid] using this
theorem cutRows_step (s : List (List UInt8)) (l : List (Nat × List UInt8)) (ks : List Bool) (k : Nat) (p : Nat × List UInt8) (b : Bool) (hp : l[k]? = some p) (hb : ks[k]? = some b) :
    cutRows s (l.drop k) (ks.drop k) = cutRows (if b then s.set p.1 p.2 else s) (l.drop (k + 1)) (ks.drop (k + 1)) := by
  have h1 : l.drop k = p :: l.drop (k + 1) := by
    obtain ⟨hk, he⟩ := List.getElem?_eq_some_iff.1 hp
    rw [← he]; exact List.drop_eq_getElem_cons hk
  have h2 : ks.drop k = b :: ks.drop (k + 1) := by
    obtain ⟨hk, he⟩ := List.getElem?_eq_some_iff.1 hb
    rw [← he]; exact List.drop_eq_getElem_cons hk
  rw [h1, h2]; rfl
theorem cutRows_none (s : List (List UInt8)) (l : List (Nat × List UInt8)) : cutRows s l [] = s := by cases l <;> rfl
theorem cutRows_skip (s : List (List UInt8)) (l : List (Nat × List UInt8)) (ks : List Bool) (k : Nat) (hk : ks.length ≤ k) : cutRows s (l.drop k) (ks.drop k) = cutRows s (l.drop (k + 1)) (ks.drop (k + 1)) := by
  rw [(List.drop_eq_nil_of_le hk : ks.drop k = []), (List.drop_eq_nil_of_le (by omega) : ks.drop (k + 1) = []), cutRows_none, cutRows_none]
theorem allRows_step (s : List (List UInt8)) (l : List (Nat × List UInt8)) (k : Nat) (p : Nat × List UInt8) (hp : l[k]? = some p) : allRows s (l.drop k) = allRows (s.set p.1 p.2) (l.drop (k + 1)) := by
  have h1 : l.drop k = p :: l.drop (k + 1) := by
    obtain ⟨hk, he⟩ := List.getElem?_eq_some_iff.1 hp
    rw [← he]; exact List.drop_eq_getElem_cons hk
  rw [h1]; rfl
theorem own_max {w : World} {base n size : Nat} {e : TypeId} {v : Value} {xs : List Value} (h : w.ownsRow base e size v n xs) : n ≤ maxLen := by
  rcases h.2 with ⟨_, rfl⟩ | ⟨g, cap, cur, rfl, _, _, h1, h2, _⟩
  · exact Nat.zero_le _
  · omega
/-- what a slice of bools says of one place -/
theorem Bools.at {w : World} {v : Value} {l : List Bool} (h : Bools w v l) : ∃ p c, v = .slice p l.length c ∧ ∀ j b, l[j]? = some b → ∃ a, p = some a ∧ w.cell? (a.add j) = some (.bool b) := by
  rcases h with ⟨rfl, rfl⟩ | ⟨a, cap, rfl, hc⟩
  · exact ⟨_, _, rfl, fun j b hj => by simp at hj⟩
  · exact ⟨_, _, rfl, fun j b hj => ⟨a, rfl, hc j b hj⟩⟩
end Go.Wd
namespace Go.Proofs.Ythppdlemchmipaa
open Go.RowKit Go.Wd
theorem zeroWrite : (Try.prog.info? 198).map (·.zero.map (·.cells)) = some (some [Value.int .i64 0, S []].toArray) := by kernel_rfl
/-- where a slice of bools lies: in no block that a disk's method turns -/
def Away (D : Nat) (vs kp : Value) : Prop := ∀ a n c, kp = .slice (some a) n c → 0 < n → a.block ≠ D ∧ vs.ownBlock ≠ some a.block

set_option maxRecDepth 100000 in
set_option maxHeartbeats 4000000 in
theorem Cut_on (B D : Nat) (vs kp : Value) (st : Dsk) (ks : List Bool) (w : World) (h : Dk B D vs st w) (hBw : B ≤ w.heap.size) (hk : Bools w kp ks) (haw : Away D vs kp) (hon : st.away = false) :
    Calls Try.prog 55 #[.pointer (some ⟨D, 0, none⟩), kp] w fun e w' => e = .returned (.tuple #[]) ∧ Dk B D vs (st.cut ks) w' ∧ DKe B D vs w w' := by
  have hcut : st.cut ks = { st with safe := cutRows st.safe st.loose ks, loose := [], away := true } := by unfold Dsk.cut; simp [hon]
  have Hcut := Lib.hid hcut
  clear hcut
  have H0 := h
  obtain ⟨kv, vl, hP⟩ := h
  obtain ⟨kq, kc, rfl, _⟩ := hk.at
  obtain ⟨away, fuse, keep, safe, loose, done⟩ := st
  simp only at hon
  subst hon
  obtain ⟨q, c, hvl⟩ := own_shape hP.2.2.1
  have c4 : w.cell? ⟨D, 4, none⟩ = some (.slice q loose.length c) := by rw [← hvl]; exact hP.2.1.cell 4
  have Hvl := Lib.hid hvl
  clear hvl
  go_enter Try.func55, Try.ntmps55
  go_wp2_with (go_at_call 95; ((with_reducible refine (IsOn_any B D vs _ _ H0).mono ?_); rintro e w' ⟨rfl, rfl⟩))
  go_loopg [14] loose.length (fun g v14 wr => ∃ (k : Nat) (s : List (List UInt8)), v14 = .int .i64 k ∧ k + g = loose.length ∧ cutRows s (loose.drop k) (ks.drop k) = cutRows safe loose ks ∧ DiskP dt B D kv vs vl ⟨false, fuse, keep, s, loose, done⟩ wr ∧ DKe B D vs w wr ∧ Bools wr (.slice kq ks.length kc) ks)
  case atStart => exact ⟨0, safe, rfl, by simp, by simp, hP, DK.refl _ _ _ _ _, hk⟩
  case round =>
    obtain ⟨k, s, rfl, hkg, hcr, hp, hd, hb⟩ := hrel
    have hrow := hp.2.1
    have hBD := hp.1
    have f0 := hrow.frozen 0
    have f4 := hrow.frozen 4
    have e0 : wr.cell? ⟨D, 0, none⟩ = some (.bool false) := hrow.cell 0
    have e4 : wr.cell? ⟨D, 4, none⟩ = some (.slice q loose.length c) := by rw [← Hvl.out]; exact hrow.cell 4
    by_cases h0 : gk = 0
    · obtain rfl : k = loose.length := by omega
      have hs' : s = cutRows safe loose ks := by simpa [cutRows_none, cutRows] using hcr
      have hp1 := DiskP.setG hp (kv' := kv) (vl' := .slice none 0 0) (st' := ⟨false, fuse, keep, s, [], done⟩) 4 (.slice none 0 0) rfl (World.ownsRow_nil _ _ _ _) hp.2.2.2.2.1 rfl (by simp) hp.2.2.2.2.2.2.2.2.1 hp.2.2.2.2.2.2.2.2.2
      have hp2 := DiskP.setD hp1 (st' := ⟨true, fuse, keep, s, [], done⟩) 0 (.bool true) rfl rfl rfl rfl hp.2.2.2.2.2.2.2.2.1 hp.2.2.2.2.2.2.2.2.2
      have hd2 := (hd.setD hBD 4 (.slice none 0 0)).setD hBD 0 (.bool true)
      have Hs := Lib.hid hs'
      clear hs' hcr hp hp1 hd hb hk hP c4
      go_wp2_with fail
      go_end0
      refine ⟨rfl, ?_, hd2⟩
      rw [Hcut.out, ← Hs.out]
      exact ⟨kv, _, hp2⟩
    · have hkn : k < loose.length := by omega
      have hmax : loose.length ≤ maxLen := own_max hp.2.2.1
      have hwk : wrap64 ((k : Int) + 1) = ((k + 1 : Nat) : Int) := by unfold maxLen at hmax; unfold wrap64; omega
      have Hwk := Lib.hid hwk
      clear hwk hmax
      obtain ⟨p, hpk⟩ : ∃ p, loose[k]? = some p := ⟨_, List.getElem?_eq_getElem hkn⟩
      have hpos : 0 < loose.length := by omega
      obtain ⟨lb, c', hlv, hlb, hlbs, hown⟩ := own_pos hp.2.2.1 hpos
      have Hpk := Lib.hid hpk
      have Hhv := Hvl.out
      rw [hlv] at Hhv
      injection Hhv with hq1 hq2 hq3
      subst hq1
      clear hq2
      have hrng := loose_range hp.2.2.1 hown hpk
      have g0 : wr.cell? ⟨lb, k * 2, none⟩ = some (.int .i64 (p.1 : Int)) := hrng 0 _ rfl
      have g1 : wr.cell? ⟨lb, k * 2 + 1, none⟩ = some (S p.2) := hrng 1 _ rfl
      clear hrng
      have Hkg := Lib.hid hkg
      have Hcr := Lib.hid hcr
      clear hpk hkg hcr hlv
      clear e0 e4 f0 f4 hrow
      by_cases hkk : k < ks.length
      · obtain ⟨b, hbk⟩ : ∃ b, ks[k]? = some b := ⟨_, List.getElem?_eq_getElem hkk⟩
        obtain ⟨kq', kc', hkq, hat⟩ := hb.at
        injection hkq with hkq _ hkc
        subst hkq
        subst hkc
        obtain ⟨a, rfl, hca⟩ := hat k b hbk
        have hstep := cutRows_step s loose ks k p b Hpk.out hbk
        rw [Hcr.out] at hstep
        have Hstep := Lib.hid hstep
        have hpp := hp.2.2.2.2.2.1 p (List.mem_of_getElem? Hpk.out)
        have hpl := hpp.1
        obtain ⟨sb, sc, hsv, hsb, hsbs, hsown⟩ := own_pos hp.2.2.2.1 (by simp only at hpl ⊢; omega)
        simp only at hpl hsv
        have hnp := hp.new (w1 := wr.alloc (.cells #[.int .i64 (p.1 : Int), S p.2] 198)) ((Below.refl _ _).alloc (Nat.le_refl _) _)
        have hdn := hd.alloc hBw (.cells #[.int .i64 (p.1 : Int), S p.2] 198)
        have hab : a.block < wr.heap.size := by have := block_lt_of_cell hca; rwa [add_block] at this
        have hca1 : (wr.alloc (.cells #[.int .i64 (p.1 : Int), S p.2] 198)).cell? (a.add k) = some (.bool b) := cell_keeps ((Keeps.refl (fun _ => False) wr).alloc _) hca (fun h => h)
        clear hstep hbk hat hca
        have hx0 : (wr.alloc (.cells #[.int .i64 (p.1 : Int), S p.2] 198)).cell? ⟨wr.heap.size, 0, none⟩ = some (.int .i64 (p.1 : Int)) := Lib.cell_of_heap (heap_alloc_new _ _) 0
        have hx1 : (wr.alloc (.cells #[.int .i64 (p.1 : Int), S p.2] 198)).cell? ⟨wr.heap.size, 1, none⟩ = some (S p.2) := Lib.cell_of_heap (heap_alloc_new _ _) 1
        have hbn : ∀ (k : Nat) (o : Obj), wr.heap[k]? = some o → (wr.alloc (.cells #[.int .i64 (p.1 : Int), S p.2] 198)).heap[k]? = some o := fun k o hk => (Lib.alloc_old wr _ k (Array.getElem?_eq_some_iff.1 hk).1).trans hk
        have hbn : Bools (wr.alloc (.cells #[.int .i64 (p.1 : Int), S p.2] 198)) (.slice (some a) ks.length kc) ks := by
          rcases hb with ⟨h, _⟩ | ⟨a', c', he, hc⟩
          · cases h
          · injection he with he _ he'
            injection he with he
            subst he
            subst he'
            exact .inr ⟨_, _, rfl, fun j b hj => cell_keeps ((Keeps.refl (fun _ => False) wr).alloc _) (hc j b hj) (fun h => h)⟩
        have hsz : wr.heap.size ≤ (wr.alloc (.cells #[.int .i64 (p.1 : Int), S p.2] 198)).heap.size := by simp
        cases b with
        | true =>
          go_wp2_with fail
          generalize wr.alloc (.cells #[.int .i64 (p.1 : Int), S p.2] 198) = w1 at *
          have r1 := hnp.2.1
          have c3 : w1.cell? ⟨D, 3, none⟩ = some (.slice (some ⟨sb, 0, none⟩) s.length sc) := by rw [← hsv]; exact r1.cell 3
          have cs : w1.cell? ⟨sb, p.1, none⟩ = some (S (s.getD p.1 [])) := by
            have := hnp.2.2.2.1.cells hsown p.1 (S (s.getD p.1 [])) (getD_map_some p.1 [] hpl)
            simpa [Addr.add_mid] using this
          have fs := own_frozen hnp.2.2.2.1 hsown p.1
          clear r1
          clear g0 g1 hb hp
          go_region
          go_wp2_with fail
          obtain ⟨g, rfl⟩ : ∃ g, gk = g + 1 := ⟨gk - 1, by omega⟩
          go_roundg g
          case measure => omega
          case rel =>
            refine ⟨k + 1, s.set p.1 p.2, congrArg _ Hwk.out, by have := Hkg.out; omega, by have := Hstep.out; simpa using this.symm, DiskP.setS hnp hsown hpl p.2 hpp.2, (hdn.setS hsown hsb _ _).drew, ?_⟩
            rcases hbn with ⟨h, _⟩ | ⟨a', c', he, hc⟩
            · cases h
            · injection he with he _ he'
              injection he with he
              subst he
              subst he'
              exact .inr ⟨_, _, rfl, fun j b hj => cell_keeps ((Keeps.refl (· = sb) w1).setCell (p := ⟨sb, p.1, none⟩) (fun _ => rfl) _) (hc j b hj) (fun h => by rw [add_block] at h; exact (haw _ _ _ rfl (by omega)).2 (by rw [h]; exact hsown))⟩
        | false =>
          clear hb hp hx0 hx1
          go_wp2_with fail
          obtain ⟨g, rfl⟩ : ∃ g, gk = g + 1 := ⟨gk - 1, by omega⟩
          go_roundg g
          case measure => omega
          case rel => exact ⟨k + 1, s, congrArg _ Hwk.out, by have := Hkg.out; omega, by have := Hstep.out; simpa using this.symm, hnp, hdn, hbn⟩
      · have hskip := cutRows_skip s loose ks k (by omega)
        rw [Hcr.out] at hskip
        have Hskip := Lib.hid hskip
        clear hskip
        have hnp := hp.new (w1 := wr.alloc (.cells #[.int .i64 (p.1 : Int), S p.2] 198)) ((Below.refl _ _).alloc (Nat.le_refl _) _)
        have hdn := hd.alloc hBw (.cells #[.int .i64 (p.1 : Int), S p.2] 198)
        have hbn : Bools (wr.alloc (.cells #[.int .i64 (p.1 : Int), S p.2] 198)) (.slice kq ks.length kc) ks := by
          rcases hb with h | ⟨a', c', he, hc⟩
          · exact .inl h
          · exact .inr ⟨a', c', he, fun j b hj => cell_keeps ((Keeps.refl (fun _ => False) wr).alloc _) (hc j b hj) (fun h => h)⟩
        have hge : decide (k < ks.length) = false := by simpa using hkk
        clear hb hp
        go_wp2_with fail
        obtain ⟨g, rfl⟩ : ∃ g, gk = g + 1 := ⟨gk - 1, by omega⟩
        go_roundg g
        case measure => omega
        case rel => exact ⟨k + 1, s, congrArg _ Hwk.out, by have := Hkg.out; omega, Hskip.out.symm, hnp, hdn, hbn⟩

set_option maxRecDepth 100000 in
set_option maxHeartbeats 4000000 in
theorem Cut_any (B D : Nat) (vs kp : Value) (st : Dsk) (ks : List Bool) (w : World) (h : Dk B D vs st w) (hBw : B ≤ w.heap.size) (hk : Bools w kp ks) (haw : Away D vs kp) :
    Calls Try.prog 55 #[.pointer (some ⟨D, 0, none⟩), kp] w fun e w' => e = .returned (.tuple #[]) ∧ Dk B D vs (st.cut ks) w' ∧ DKe B D vs w w' := by
  cases ha : st.away with
  | false => exact Cut_on B D vs kp st ks w h hBw hk haw ha
  | true =>
    have hcut : st.cut ks = st := by unfold Dsk.cut; simp [ha]
    rw [hcut]
    clear hcut
    go_enter Try.func55, Try.ntmps55
    go_wp2_with (go_at_call 95; ((with_reducible refine (IsOn_any B D vs _ _ h).mono ?_); rintro e w' ⟨rfl, rfl⟩; rw [ha]))
    refine bodyPost_ret (results_none rfl _ _ _) rfl ?_
    exact ⟨rfl, h, DK.refl _ _ _ _ _⟩
theorem away_kv {B D : Nat} {kv vs vl : Value} {st : Dsk} {w : World} {t : DT} (h : DiskP t B D kv vs vl st w) : Away D vs kv := by
  obtain ⟨hB, hr, hl, hs, hk, _⟩ := h
  intro a n c he _
  rcases hk with ⟨rfl, _⟩ | ⟨g, cap, cs, fz, rfl, hb, hg, hc⟩
  · cases he
  · injection he with he _ _
    injection he with he
    subst he
    constructor
    · rintro rfl
      unfold Row at hr
      rw [hg] at hr
      injection hr with hr
      injection hr with _ hr _
      exact t.h4 hr
    · intro hv
      rcases hs.2 with ⟨rfl, _⟩ | ⟨x, _, cur, rfl, _, hx, _⟩
      · simp [Value.ownBlock] at hv
      · simp only [Value.ownBlock, Option.some.injEq] at hv
        subst hv
        rw [hg] at hx
        injection hx with hx
        injection hx with _ hx _
        exact t.h5 hx
set_option maxRecDepth 100000 in
set_option maxHeartbeats 4000000 in
theorem use_any (B D : Nat) (vs : Value) (st : Dsk) (w : World) (h : Dk B D vs st w) (hBw : B ≤ w.heap.size) :
    Calls Try.prog 121 #[.pointer (some ⟨D, 0, none⟩)] w fun e w' => e = .returned (.int .i64 st.useE) ∧ Dk B D vs st.used w' ∧ DKe B D vs w w' := by
  have H0 := h
  obtain ⟨kv, vl, hP⟩ := h
  have hr := hP.2.1
  have hBD := hP.1
  have hrd := hP.2.2.2.2.1.read
  have haw := away_kv hP
  obtain ⟨away, fuse, keep, safe, loose, done⟩ := st
  have c1 : w.cell? ⟨D, 1, none⟩ = some (.int .i64 fuse) := hr.cell 1
  have f1 := hr.frozen 1
  by_cases h0 : fuse = 0
  · subst h0
    have hu : Dsk.used ⟨away, 0, keep, safe, loose, done⟩ = Dsk.cut ⟨away, 0, keep, safe, loose, done⟩ keep := by unfold Dsk.used; simp
    rw [hu]
    clear hu
    have hu : Dsk.useE ⟨away, 0, keep, safe, loose, done⟩ = 4 := by unfold Dsk.useE; simp
    rw [hu]
    clear hu
    obtain ⟨kq, kc, rfl, _⟩ := hrd.at
    have c2 : w.cell? ⟨D, 2, none⟩ = some (.slice kq keep.length kc) := hr.cell 2
    go_enter Try.func121, Try.ntmps121
    go_wp2_with (go_at_call 55; ((with_reducible refine (Cut_any B D vs _ _ keep _ H0 hBw hrd haw).mono ?_); rintro e w' ⟨rfl, h1, h2⟩))
    go_ret
    exact ⟨rfl, h1, h2⟩
  · have hu : Dsk.used ⟨away, fuse, keep, safe, loose, done⟩ = ⟨away, max (fuse - 1) (-1), keep, safe, loose, wrap64 (done + 1)⟩ := by unfold Dsk.used; simp [h0]
    rw [hu]
    clear hu
    have hu : Dsk.useE ⟨away, fuse, keep, safe, loose, done⟩ = 0 := by unfold Dsk.useE; simp [h0]
    rw [hu]
    clear hu
    have b1 : -1 ≤ fuse := hP.2.2.2.2.2.2.2.2.1
    have b2 : fuse ≤ 9223372036854775807 := hP.2.2.2.2.2.2.2.2.2
    have c5 : w.cell? ⟨D, 5, none⟩ = some (.int .i64 done) := hr.cell 5
    have f5 := hr.frozen 5
    obtain ⟨m, hm⟩ : ∃ m, m = max (fuse - 1) (-1) := ⟨_, rfl⟩
    rw [← hm]
    have hp1 := DiskP.setD hP (st' := ⟨away, m, keep, safe, loose, done⟩) 1 (.int .i64 m) rfl rfl rfl rfl (show -1 ≤ m by omega) (show m ≤ 9223372036854775807 by omega)
    have hp2 := DiskP.setD hp1 (st' := ⟨away, m, keep, safe, loose, wrap64 (done + 1)⟩) 5 (.int .i64 (wrap64 (done + 1))) rfl rfl rfl rfl (show -1 ≤ m by omega) (show m ≤ 9223372036854775807 by omega)
    have hd2 := ((DK.refl 198 B D vs w).setD hBD 1 (.int .i64 m)).setD hBD 5 (.int .i64 (wrap64 (done + 1)))
    clear hr hrd haw hp1 hP H0
    rcases (by omega : fuse = -1 ∨ 1 ≤ fuse) with rfl | h1
    · obtain rfl : m = -1 := by omega
      clear hm
      go_enter Try.func121, Try.ntmps121
      go_wp2_with fail
      go_ret
      exact ⟨rfl, ⟨kv, vl, hp2⟩, hd2⟩
    · obtain rfl : m = fuse - 1 := by omega
      have hlt : ¬ (fuse - 1 < -1) := by omega
      have hle : ¬ (fuse - 1 ≤ -1) := by omega
      clear hm
      go_enter Try.func121, Try.ntmps121
      go_wp2_with fail
      go_ret
      exact ⟨rfl, ⟨kv, vl, hp2⟩, hd2⟩
end Go.Proofs.Ythppdlemchmipaa
