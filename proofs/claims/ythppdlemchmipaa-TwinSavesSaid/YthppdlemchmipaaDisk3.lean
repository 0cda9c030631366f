/- disk: Write, Sync. -/
import Derived.Test.YthppdlemchmipaaDisk2
namespace Go.Proofs.Ythppdlemchmipaa
open Go.RowKit Go.Wd
theorem infoWrite : (Try.prog.info? 198).map (fun i => (i.zero, i.size, i.bytes)) = some (some (.agg #[.int .i64 0, S []]), 2, 24) := by kernel_rfl
theorem two_at (w : World) (o p : Value) (T : TypeId) : ∀ j u, [o, p][j]? = some u → (w.alloc (.cells #[o, p] T)).cell? ((⟨w.heap.size, 0, none⟩ : Addr).add j) = some u := by
  intro j u hj
  rw [Addr.add_mid, Nat.zero_add]
  match j, hj with
  | 0, hj => simp at hj; subst hj; exact Lib.cell_of_heap (heap_alloc_new _ _) 0
  | 1, hj => simp at hj; subst hj; exact Lib.cell_of_heap (heap_alloc_new _ _) 1
set_option maxRecDepth 100000 in
set_option maxHeartbeats 4000000 in
theorem DWrite_any (B D : Nat) (vs : Value) (st : Dsk) (at' : Int) (x : List UInt8) (w : World) (h : Dk B D vs st w) (hBw : B ≤ w.heap.size) (hn : st.loose.length ≤ 1000000) :
    Calls Try.prog 147 #[.pointer (some ⟨D, 0, none⟩), .int .i64 at', S x] w fun e w' => e = .returned (.int .i64 (st.writeE at' x)) ∧ Dk B D vs (st.wrote at' x) w' ∧ DKe B D vs w w' := by
  by_cases hx : x.length = 32
  · have hxi : (x.length : Int) = 32 := by omega
    by_cases hc : st.chk at' = 0
    · by_cases hf : st.fuse = 0
      · have h1 : st.writeE at' x = 4 := by unfold Dsk.writeE Dsk.useE; simp [hx, hc, hf]
        have h2 : st.wrote at' x = st.used := by unfold Dsk.wrote; simp [hx, hc, hf]
        have h3 : st.useE = 4 := by unfold Dsk.useE; simp [hf]
        rw [h1, h2]
        clear h1 h2 hx
        go_enter Try.func147, Try.ntmps147
        go_wp2_with (first | (go_at_call 201; ((with_reducible refine (check_any B D vs st at' _ h).mono ?_); rintro e w' ⟨rfl, rfl⟩; rw [hc])) | (go_at_call 121; ((with_reducible refine (use_any B D vs st _ h hBw).mono ?_); rintro e w1 ⟨rfl, h1, d1⟩; rw [h3])))
        go_ret
        exact ⟨rfl, h1, d1⟩
      · have h1 : st.writeE at' x = 0 := by unfold Dsk.writeE Dsk.useE; simp [hx, hc, hf]
        have h2 : st.wrote at' x = { st.used with loose := st.used.loose ++ [(at'.toNat, x)] } := by unfold Dsk.wrote; simp [hx, hc, hf]; simp [Dsk.used, hf]
        have h3 : st.useE = 0 := by unfold Dsk.useE; simp [hf]
        have hchk : 0 ≤ at' ∧ at' < (st.used.safe.length : Int) := by
          have : st.used.safe = st.safe := by simp [Dsk.used, hf]
          rw [this]
          unfold Dsk.chk at hc
          split at hc
          · omega
          · omega
        have hul : st.used.loose.length ≤ 1000000 := by
          have : st.used.loose = st.loose := by simp [Dsk.used, hf]
          rw [this]; exact hn
        rw [h1, h2]
        clear h1 h2 hf hn
        obtain ⟨su, hsu⟩ : ∃ su, st.used = su := ⟨_, rfl⟩
        rw [hsu] at hchk hul ⊢
        have Hsu := Lib.hid hsu
        clear hsu
        have Hx := Lib.hid hx
        have Hc := Lib.hid hc
        have H3 := Lib.hid h3
        clear hx hc h3
        obtain ⟨i0, hi, hz0, hz1, hz2⟩ := info_parts infoWrite
        go_enter Try.func147, Try.ntmps147
        go_upto_region 9 with (first | (go_at_call 201; ((with_reducible refine (check_any B D vs st at' _ h).mono ?_); rintro e w' ⟨rfl, rfl⟩; rw [Hc.out])) | (go_at_call 121; ((with_reducible refine (use_any B D vs st _ h hBw).mono ?_); rintro e w1 ⟨rfl, h1, d1⟩; rw [H3.out])))
        rw [Hsu.out] at h1
        obtain ⟨kv, vl, hP⟩ := h1
        have hBD := hP.1
        obtain ⟨q, c, hvl⟩ := own_shape hP.2.2.1
        subst hvl
        have c4 : w1.cell? ⟨D, 4, none⟩ = some (.slice q su.loose.length c) := hP.2.1.cell 4
        go_wp2_with (at_builtin; refine wpList_append_own _ rfl _ _ 194 rfl B 198 i0 _ 2 24 Try.underlying194 hi hz0 hz1 hz2 rfl (by decide) _ _ _ rfl (hP.2.2.1.alloc _) ⟨w1.heap.size, 0, none⟩ 1 1 [.int .i64 at', S x] rfl rfl (two_at _ _ _ _) (by intro u hu; simp at hu; rcases hu with rfl | rfl <;> rfl) (by unfold maxLen; omega) (by omega) (by have := d1.size; simp; omega) ?_)
        intro v' w2 hown2 hgr _
        obtain ⟨q', c', rfl⟩ := own_shape hown2
        have hPa := hP.new (w1 := w1.alloc (.cells #[.int .i64 at', S x] 198)) ((Below.refl _ _).alloc (Nat.le_refl _) _)
        have hwc : wcells (su.loose ++ [(at'.toNat, x)]) = wcells su.loose ++ [.int .i64 at', S x] := by
          rw [wcells_append]
          have : (at'.toNat : Int) = at' := by omega
          simp [wcells, this]
        have hp2 := DiskP.app hPa hgr (at'.toNat, x) (by rw [hwc]; simpa using (show w2.ownsRow B dt.write 2 _ (su.loose.length + 1) _ from hown2)) ⟨by simp only; omega, Hx.out⟩
        have hd2 := ((d1.alloc hBw (.cells #[.int .i64 at', S x] 198)).app hBw hgr hPa.2.2.1).setD hBD 4 (.slice q' (su.loose.length + 1) c')
        have hr2 : Row w2 D 196 _ := hPa.2.1.keep (hgr.block D hPa.2.1.lt (fun e => by
          obtain ⟨cur, hcur⟩ := own_typed hPa.2.2.1 e.symm
          have hr := hPa.2.1
          unfold Row at hr
          rw [hr] at hcur
          injection hcur with hcur
          injection hcur with _ hcur _
          exact absurd hcur (by decide)))
        have c4 : w2.cell? ⟨D, 4, none⟩ = some (.slice q su.loose.length c) := hr2.cell 4
        have f4 := hr2.frozen 4
        clear hr2 hown2 hPa hgr hP hwc
        go_wp2_with fail
        go_ret
        exact ⟨rfl, ⟨_, _, hp2⟩, hd2⟩
    · have h1 : st.writeE at' x = st.chk at' := by unfold Dsk.writeE; simp [hx, hc]
      have h2 : st.wrote at' x = st := by unfold Dsk.wrote; simp [hc]
      rw [h1, h2]
      clear h1 h2 hx
      have Hc := Lib.hid hc
      have hq : (st.chk at' != 0) = true := by simpa using hc
      clear hc
      go_enter Try.func147, Try.ntmps147
      go_wp2_with (go_at_call 201; ((with_reducible refine (check_any B D vs st at' _ h).mono ?_); rintro e w' ⟨rfl, rfl⟩))
      go_ret
      exact ⟨rfl, h, DK.refl _ _ _ _ _⟩
  · have h1 : st.writeE at' x = 1 := by unfold Dsk.writeE; simp [hx]
    have h2 : st.wrote at' x = st := by unfold Dsk.wrote; simp [hx]
    rw [h1, h2]
    clear h1 h2
    have hq : ((x.length : Int) != 32) = true := by simp; omega
    clear hx
    go_enter Try.func147, Try.ntmps147
    go_wp2_with fail
    go_ret
    exact ⟨rfl, h, DK.refl _ _ _ _ _⟩

set_option maxRecDepth 100000 in
set_option maxHeartbeats 4000000 in
theorem DSync_any (B D : Nat) (vs : Value) (st : Dsk) (w : World) (h : Dk B D vs st w) (hBw : B ≤ w.heap.size) :
    Calls Try.prog 53 #[.pointer (some ⟨D, 0, none⟩)] w fun e w' => e = .returned (.int .i64 st.syncE) ∧ Dk B D vs st.synced w' ∧ DKe B D vs w w' := by
  have H0 := h
  obtain ⟨kv, vl, hP⟩ := h
  have c0 : w.cell? ⟨D, 0, none⟩ = some (.bool st.away) := hP.2.1.cell 0
  by_cases ha : st.away = true
  · have h1 : st.syncE = 4 := by unfold Dsk.syncE; simp [ha]
    have h2 : st.synced = st := by unfold Dsk.synced; simp [ha]
    rw [h1, h2]
    rw [ha] at c0
    clear h1 h2 ha
    go_enter Try.func53, Try.ntmps53
    go_wp2_with fail
    go_ret
    exact ⟨rfl, H0, DK.refl _ _ _ _ _⟩
  · have ha : st.away = false := by simpa using ha
    rw [ha] at c0
    by_cases hf : st.fuse = 0
    · have h1 : st.syncE = 4 := by unfold Dsk.syncE Dsk.useE; simp [hf]
      have h2 : st.synced = st.used := by unfold Dsk.synced; simp [ha, hf]
      have h3 : st.useE = 4 := by unfold Dsk.useE; simp [hf]
      rw [h1, h2]
      clear h1 h2 ha
      go_enter Try.func53, Try.ntmps53
      go_wp2_with (go_at_call 121; ((with_reducible refine (use_any B D vs st _ H0 hBw).mono ?_); rintro e w1 ⟨rfl, h1, d1⟩; rw [h3]))
      go_ret
      exact ⟨rfl, h1, d1⟩
    · obtain ⟨away, fuse, keep, safe, loose, done⟩ := st
      simp only at ha hf
      subst ha
      have h1 : Dsk.syncE ⟨false, fuse, keep, safe, loose, done⟩ = 0 := by unfold Dsk.syncE Dsk.useE; simp [hf]
      have h2 : Dsk.synced ⟨false, fuse, keep, safe, loose, done⟩ = ⟨false, max (fuse - 1) (-1), keep, allRows safe loose, [], wrap64 (done + 1)⟩ := by unfold Dsk.synced; simp [hf, Dsk.used, Dsk.now]
      have h3 : Dsk.useE ⟨false, fuse, keep, safe, loose, done⟩ = 0 := by unfold Dsk.useE; simp [hf]
      have h4 : Dsk.used ⟨false, fuse, keep, safe, loose, done⟩ = ⟨false, max (fuse - 1) (-1), keep, safe, loose, wrap64 (done + 1)⟩ := by unfold Dsk.used; simp [hf]
      rw [h1, h2]
      obtain ⟨m, hm⟩ : ∃ m, m = max (fuse - 1) (-1) := ⟨_, rfl⟩
      obtain ⟨dn, hdn⟩ : ∃ dn, dn = wrap64 (done + 1) := ⟨_, rfl⟩
      rw [← hm, ← hdn] at h4 ⊢
      have H3 := Lib.hid h3
      have H4 := Lib.hid h4
      clear h1 h2 h3 h4 hm hdn hf hP kv vl
      go_enter Try.func53, Try.ntmps53
      go_upto_region 8 with (go_at_call 121; ((with_reducible refine (use_any B D vs _ _ H0 hBw).mono ?_); rintro e w1 ⟨rfl, h1, d1⟩; rw [H3.out]; rw [H4.out] at h1))
      obtain ⟨kv, vl, hP⟩ := h1
      obtain ⟨q, c, hvl⟩ := own_shape hP.2.2.1
      have c4 : w1.cell? ⟨D, 4, none⟩ = some (.slice q loose.length c) := by rw [← hvl]; exact hP.2.1.cell 4
      have Hvl := Lib.hid hvl
      clear hvl c0
      have hBw1 : B ≤ w1.heap.size := Nat.le_trans hBw d1.size
      go_wp2_with fail
      go_loopg [25] loose.length (fun g v25 wr => ∃ (k : Nat) (s : List (List UInt8)), v25 = .int .i64 k ∧ k + g = loose.length ∧ allRows s (loose.drop k) = allRows safe loose ∧ DiskP dt B D kv vs vl ⟨false, m, keep, s, loose, dn⟩ wr ∧ DKe B D vs w wr)
      case atStart => exact ⟨0, safe, rfl, by simp, by simp, hP, d1⟩
      case round =>
        obtain ⟨k, s, rfl, hkg, hcr, hp, hd⟩ := hrel
        have hrow := hp.2.1
        have hBD := hp.1
        have f4 := hrow.frozen 4
        have e4 : wr.cell? ⟨D, 4, none⟩ = some (.slice q loose.length c) := by rw [← Hvl.out]; exact hrow.cell 4
        by_cases h0 : gk = 0
        · obtain rfl : k = loose.length := by omega
          have hs' : s = allRows safe loose := by simpa [allRows] using hcr
          have hp1 := DiskP.setG hp (kv' := kv) (vl' := .slice none 0 0) (st' := ⟨false, m, keep, s, [], dn⟩) 4 (.slice none 0 0) rfl (World.ownsRow_nil _ _ _ _) hp.2.2.2.2.1 rfl (by simp) hp.2.2.2.2.2.2.2.2.1 hp.2.2.2.2.2.2.2.2.2
          have hd2 := hd.setD hBD 4 (.slice none 0 0)
          have Hs := Lib.hid hs'
          clear hs' hcr hp hd hP c4
          go_wp2_with fail
          go_ret
          refine ⟨rfl, ?_, hd2⟩
          rw [← Hs.out]
          exact ⟨kv, _, hp1⟩
        · have hkn : k < loose.length := by omega
          have hmax : loose.length ≤ maxLen := own_max hp.2.2.1
          have hwk : wrap64 ((k : Int) + 1) = ((k + 1 : Nat) : Int) := by unfold maxLen at hmax; unfold wrap64; omega
          have Hwk := Lib.hid hwk
          clear hwk hmax
          obtain ⟨p, hpk⟩ : ∃ p, loose[k]? = some p := ⟨_, List.getElem?_eq_getElem hkn⟩
          have hpos : 0 < loose.length := by omega
          obtain ⟨lb, c', hlv, hlb, hlbs, hown⟩ := own_pos hp.2.2.1 hpos
          have Hpk := Lib.hid hpk
          have Hhv := Hvl.out
          rw [hlv] at Hhv
          injection Hhv with hq1 hq2 hq3
          subst hq1
          clear hq2
          have hrng := loose_range hp.2.2.1 hown hpk
          have g0 : wr.cell? ⟨lb, k * 2, none⟩ = some (.int .i64 (p.1 : Int)) := hrng 0 _ rfl
          have g1 : wr.cell? ⟨lb, k * 2 + 1, none⟩ = some (S p.2) := hrng 1 _ rfl
          clear hrng
          have Hkg := Lib.hid hkg
          have hstep := allRows_step s loose k p hpk
          rw [hcr] at hstep
          have Hstep := Lib.hid hstep
          clear hstep hpk hkg hcr hlv
          clear e4 f4 hrow
          have hpp := hp.2.2.2.2.2.1 p (List.mem_of_getElem? Hpk.out)
          have hpl := hpp.1
          obtain ⟨sb, sc, hsv, hsb, hsbs, hsown⟩ := own_pos hp.2.2.2.1 (by simp only at hpl ⊢; omega)
          simp only at hpl hsv
          have hnp := hp.new (w1 := wr.alloc (.cells #[.int .i64 (p.1 : Int), S p.2] 198)) ((Below.refl _ _).alloc (Nat.le_refl _) _)
          have hdn := hd.alloc hBw (.cells #[.int .i64 (p.1 : Int), S p.2] 198)
          have hx0 : (wr.alloc (.cells #[.int .i64 (p.1 : Int), S p.2] 198)).cell? ⟨wr.heap.size, 0, none⟩ = some (.int .i64 (p.1 : Int)) := Lib.cell_of_heap (heap_alloc_new _ _) 0
          have hx1 : (wr.alloc (.cells #[.int .i64 (p.1 : Int), S p.2] 198)).cell? ⟨wr.heap.size, 1, none⟩ = some (S p.2) := Lib.cell_of_heap (heap_alloc_new _ _) 1
          have hsz : wr.heap.size ≤ (wr.alloc (.cells #[.int .i64 (p.1 : Int), S p.2] 198)).heap.size := by simp
          go_wp2_with fail
          generalize wr.alloc (.cells #[.int .i64 (p.1 : Int), S p.2] 198) = w2 at *
          have r1 := hnp.2.1
          have c3 : w2.cell? ⟨D, 3, none⟩ = some (.slice (some ⟨sb, 0, none⟩) s.length sc) := by rw [← hsv]; exact r1.cell 3
          have cs : w2.cell? ⟨sb, p.1, none⟩ = some (S (s.getD p.1 [])) := by
            have := hnp.2.2.2.1.cells hsown p.1 (S (s.getD p.1 [])) (getD_map_some p.1 [] hpl)
            simpa [Addr.add_mid] using this
          have fs := own_frozen hnp.2.2.2.1 hsown p.1
          clear r1
          clear g0 g1 hp
          go_region
          go_wp2_with fail
          obtain ⟨g, rfl⟩ : ∃ g, gk = g + 1 := ⟨gk - 1, by omega⟩
          go_roundg g
          case measure => omega
          case rel =>
            refine ⟨k + 1, s.set p.1 p.2, congrArg _ Hwk.out, by have := Hkg.out; omega, Hstep.out.symm, DiskP.setS hnp hsown hpl p.2 hpp.2, (hdn.setS hsown hsb _ _).drew⟩
end Go.Proofs.Ythppdlemchmipaa
