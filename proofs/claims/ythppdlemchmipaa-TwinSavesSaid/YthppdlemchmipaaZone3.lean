/- package zone: Fill of zeros. -/
import Derived.Test.YthppdlemchmipaaZone2
import Derived.Test.YthppdlemchmipaaDisk5
namespace Go.Proofs.Ythppdlemchmipaa
open Go.RowKit Go.Wd
theorem zsec_rep : (List.replicate 32 0 : List UInt8) = zsec := rfl
set_option maxRecDepth 100000 in
set_option maxHeartbeats 2000000 in
theorem ZFill_any (B D Z : Nat) (vs : Value) (from' size : Nat) (st : Dsk) (w : World) (h : Zk B D Z vs from' size st w) (hn : st.loose.length + size ≤ 1000000) :
    Calls Try.prog 144 #[.pointer (some ⟨Z, 0, none⟩), U8 0] w fun e w' => e = .returned (.int .i64 (st.fillZ zsec from' size).1) ∧ Zk B D Z vs from' size (st.fillZ zsec from' size).2 w' ∧ DKe B D vs w w' := by
  have hrow := h.row
  have hBw := dk_size h.disk
  have hsm := h.small
  have c2 : w.cell? ⟨Z, 2, none⟩ = some (.int .i64 (size : Int)) := hrow.cell 2
  have hz := hrow.lt
  have hcv : (convert 125 9 (.slice (some ⟨w.heap.size, 0, none⟩) 1 1)).run Try.prog (w.alloc (.cells #[U8 0] 5)) = .ok (S [0]) (w.alloc (.cells #[U8 0] 5)) :=
    run_string_of _ 125 9 5 w.heap.size 0 1 [0] Try.underlying125 Try.underlying5 Try.underlying9 (fun j hj => by
      have : j = 0 := by simpa using hj
      subst this
      exact Lib.cell_of_heap (heap_alloc_new _ _) 0)
  go_enter Try.func144, Try.ntmps144
  go_wp2_with fail
  refine (repeat_any 0 32 _ (by omega)).mono ?_
  rintro e w1 ⟨rfl, hb1⟩
  rw [zsec_rep]
  have hb1 : Below w.heap.size w w1 := ((Below.refl _ w).alloc (Nat.le_refl _) _).trans (hb1.mono (by simp))
  have h1 := h.new hb1
  have k1 : DKe B D vs w w1 := dke_new hBw hb1
  have c2' : w1.cell? ⟨Z, 2, none⟩ = some (.int .i64 (size : Int)) := h1.row.cell 2
  clear hcv hb1 c2 hrow
  go_wp2_with fail
  go_loopg [19] size (fun g s wr => ∃ (k : Nat) (st' : Dsk), k ≤ size ∧ g = size - k ∧ s = .int .i64 k ∧ st.fillZ zsec from' size = st'.fillZ zsec (from' + k) (size - k) ∧ Zk B D Z vs from' size st' wr ∧ DKe B D vs w wr ∧ st'.loose.length ≤ st.loose.length + k)
  case atStart => exact ⟨0, st, by omega, by omega, rfl, rfl, h1, k1, by omega⟩
  case round =>
    clear h1 c2' k1
    obtain ⟨k, st', hk, hg, rfl, hf, hZ, hK, hl⟩ := hrel
    have Hg := Lib.hid hg
    have Hf := Lib.hid hf
    clear hg hf
    by_cases hlt : k < size
    · have hfit := hZ.fit
      have hB2 := dk_size hZ.disk
      have hch : st'.chk ((from' + k : Nat) : Int) = st'.zreadE size (k : Int) := by
        have := chk_in (st := st') (from' := from') (size := size) (at' := (k : Int)) (by omega) (by omega) hfit
        rw [← this]; congr 1
      obtain ⟨q, hq⟩ : ∃ q, size - k = q + 1 := ⟨size - k - 1, by omega⟩
      have hstep : st.fillZ zsec from' size = st'.fillZ zsec (from' + k) (q + 1) := by rw [← hq]; exact Hf.out
      have hR := ZRead_any B D Z vs from' size st' (k : Int) wr hZ
      cases ha : st'.away with
      | true =>
        have hE : st'.zreadE size (k : Int) = 4 := by unfold Dsk.zreadE; rw [if_neg (by omega), ha]; rfl
        have hfin : st.fillZ zsec from' size = (4, st') := by rw [hstep]; unfold Dsk.fillZ; rw [if_pos (by rw [hch, hE]; decide), hch, hE]
        rw [hE] at hR
        have HR := Lib.hid hR
        have Hfin := Lib.hid hfin
        clear hR hfin hstep hch hE ha hq
        go_wp2_with fail
        refine HR.out.mono ?_
        rintro e w2 ⟨rfl, hb2⟩
        go_wp2_with fail
        go_ret
        rw [Hfin.out]
        exact ⟨rfl, hZ.new hb2, hK.trans (dke_new hB2 hb2)⟩
      | false =>
        have hE : st'.zreadE size (k : Int) = 0 := by unfold Dsk.zreadE; rw [if_neg (by omega), ha]; rfl
        have hV : st'.zreadV from' size (k : Int) = st'.now.getD (from' + k) [] := by unfold Dsk.zreadV; rw [if_pos hE]; rfl
        rw [hE, hV] at hR
        by_cases hz : st'.now.getD (from' + k) [] = zsec
        · have hfin : st.fillZ zsec from' size = st'.fillZ zsec (from' + (k + 1)) (size - (k + 1)) := by
            rw [hstep]; conv => lhs; unfold Dsk.fillZ
            rw [if_neg (by rw [hch, hE]; decide), if_pos hz, show from' + k + 1 = from' + (k + 1) by omega, show size - (k + 1) = q by omega]
          rw [hz] at hR
          have HR := Lib.hid hR
          have Hfin := Lib.hid hfin
          have hzz : (zsec == zsec) = true := by simp
          clear hR hfin hstep hch hE ha hq hV hz
          go_wp2_with fail
          refine HR.out.mono ?_
          rintro e w2 ⟨rfl, hb2⟩
          go_wp2_with fail
          go_roundg (size - (k + 1))
          case measure => have := Hg.out; omega
          case rel => exact ⟨k + 1, st', by omega, rfl, by go_num, Hfin.out, hZ.new hb2, hK.trans (dke_new hB2 hb2), by omega⟩
        · have hzz : (st'.now.getD (from' + k) [] == zsec) = false := by simpa using hz
          have hW : ∀ w2, Zk B D Z vs from' size st' w2 → Calls Try.prog 80 #[.pointer (some ⟨Z, 0, none⟩), .int .i64 (k : Int), S zsec] w2 fun e w' => e = .returned (.int .i64 (st'.writeE ((from' + k : Nat) : Int) zsec)) ∧ Dk B D vs (st'.wrote ((from' + k : Nat) : Int) zsec) w' ∧ DKe B D vs w2 w' := fun w2 h2 => by
            have hcast : ((from' + k : Nat) : Int) = (from' : Int) + (k : Int) := by omega
            have e1 : st'.zwriteE from' size (k : Int) zsec = st'.writeE ((from' + k : Nat) : Int) zsec := by unfold Dsk.zwriteE; rw [if_neg (by decide), if_neg (by omega), hcast]
            have e2 : st'.zwrote from' size (k : Int) zsec = st'.wrote ((from' + k : Nat) : Int) zsec := by unfold Dsk.zwrote; rw [if_neg (by have : zsec.length = 32 := rfl; omega), hcast]
            rw [← e1, ← e2]
            exact ZWrite_any B D Z vs from' size st' (k : Int) zsec w2 h2
          have hlen := wrote_len st' ((from' + k : Nat) : Int) zsec
          obtain ⟨we, hwe⟩ : ∃ we, we = st'.writeE ((from' + k : Nat) : Int) zsec := ⟨_, rfl⟩
          obtain ⟨st2, hst2⟩ : ∃ s, s = st'.wrote ((from' + k : Nat) : Int) zsec := ⟨_, rfl⟩
          rw [← hwe, ← hst2] at hW
          rw [← hst2] at hlen
          obtain ⟨hl1, hl2⟩ := hlen
          by_cases h0 : we = 0
          · have hfin : st.fillZ zsec from' size = st2.fillZ zsec (from' + (k + 1)) (size - (k + 1)) := by
              rw [hstep]; conv => lhs; unfold Dsk.fillZ
              rw [if_neg (by rw [hch, hE]; decide), if_neg hz, if_pos (by rw [← hwe]; exact h0), show from' + k + 1 = from' + (k + 1) by omega, show size - (k + 1) = q by omega, hst2]
            rw [h0] at hW
            have HR := Lib.hid hR
            have HW := Lib.hid hW
            have Hfin := Lib.hid hfin
            have Hl1 := Lib.hid hl1
            clear hR hW hfin hstep hch hE ha hq hV hz hwe hst2 h0 hl1
            generalize st'.now.getD (from' + k) [] = V at *
            go_wp2_with fail
            refine HR.out.mono ?_
            rintro e w2 ⟨rfl, hb2⟩
            have hZ2 := hZ.new hb2
            have hK2 := hK.trans (dke_new hB2 hb2)
            clear hb2 hB2 HR hK
            go_wp2_with fail
            refine (HW.out _ hZ2).mono ?_
            rintro e w3 ⟨rfl, h3, k3⟩
            have hZ3 := hZ2.step h3 k3 Hl1.out (by omega)
            have hK3 := hK2.trans k3
            clear HW h3 k3 hZ2 hK2 hZ
            go_wp2_with fail
            go_roundg (size - (k + 1))
            case measure => have := Hg.out; omega
            case rel => exact ⟨k + 1, st2, by omega, rfl, by go_num, Hfin.out, hZ3, hK3, by omega⟩
          · have hfin : st.fillZ zsec from' size = (we, st2) := by
              rw [hstep]; conv => lhs; unfold Dsk.fillZ
              rw [if_neg (by rw [hch, hE]; decide), if_neg hz, if_neg (by rw [← hwe]; exact h0), ← hwe, ← hst2]
            have hne : (we != 0) = true := by simpa using h0
            have HR := Lib.hid hR
            have HW := Lib.hid hW
            have Hfin := Lib.hid hfin
            have Hl1 := Lib.hid hl1
            clear hR hW hfin hstep hch hE ha hq hV hz hwe hst2 h0 hl1
            generalize st'.now.getD (from' + k) [] = V at *
            go_wp2_with fail
            refine HR.out.mono ?_
            rintro e w2 ⟨rfl, hb2⟩
            have hZ2 := hZ.new hb2
            have hK2 := hK.trans (dke_new hB2 hb2)
            clear hb2 hB2 HR hK
            go_wp2_with fail
            refine (HW.out _ hZ2).mono ?_
            rintro e w3 ⟨rfl, h3, k3⟩
            have hZ3 := hZ2.step h3 k3 Hl1.out (by omega)
            have hK3 := hK2.trans k3
            clear HW h3 k3 hZ2 hK2 hZ
            go_wp2_with fail
            go_ret
            rw [Hfin.out]
            exact ⟨rfl, hZ3, hK3⟩
    · obtain rfl : k = size := by omega
      have hfin : st.fillZ zsec from' k = (0, st') := by rw [Hf.out, Nat.sub_self]; rfl
      have Hfin := Lib.hid hfin
      clear hfin
      go_wp2_with fail
      go_ret
      rw [Hfin.out]
      exact ⟨rfl, hZ, hK⟩
end Go.Proofs.Ythppdlemchmipaa
