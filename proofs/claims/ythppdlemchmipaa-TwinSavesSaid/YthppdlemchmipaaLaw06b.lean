/- statements of layer 6: SealWhole. -/
import Derived.Test.YthppdlemchmipaaLaw06a
namespace Go.Proofs.Ythppdlemchmipaa
open Go.RowKit Go.Wd
theorem bools_new {w w1 : World} {v : Value} {l : List Bool} (h : Bools w v l) (hb : Below w.heap.size w w1) : Bools w1 v l := by
  rcases h with h | ⟨a, c, rfl, hc⟩
  · exact .inl h
  · refine .inr ⟨a, c, rfl, fun j b hj => ?_⟩
    have := hc j b hj
    rw [hb.cell (p := a.add j) (block_lt_of_cell this)]; exact this
/-- a disk newer than the world w: a slice of bools that w holds lies away from it -/
theorem away_new {B D : Nat} {vs kp : Value} {ks : List Bool} {st : Dsk} {w w1 : World} (h : Dk B D vs st w1) (hB : w.heap.size ≤ B) (hk : Bools w kp ks) : Away D vs kp := by
  intro a n c he hn
  rcases hk with ⟨h0, _⟩ | ⟨a', c', he', hc⟩
  · rw [h0] at he; cases he
  · rw [he'] at he
    injection he with h1 h2 h3
    injection h1 with h1
    subst h1
    have hlt : a'.block < w.heap.size := by
      have := hc 0 (ks.getD 0 false) (by rw [List.getElem?_eq_getElem (by omega)]; simp [List.getD, List.getElem?_eq_getElem (show 0 < ks.length by omega)])
      have := block_lt_of_cell this
      rwa [add_block] at this
    have hD := dk_lt h
    refine ⟨by omega, fun hv => ?_⟩
    obtain ⟨kv, vl, hP⟩ := h
    rcases hP.2.2.2.1.2 with ⟨rfl, _⟩ | ⟨g, _, cur, rfl, hg, _⟩
    · simp [Value.ownBlock] at hv
    · simp only [Value.ownBlock, Option.some.injEq] at hv
      omega
theorem tmod_bd (m : Int) : 0 ≤ (IntKind.u64.wrap m).tmod 1000 ∧ (IntKind.u64.wrap m).tmod 1000 ≤ 999 := by
  rw [wrap_u64]
  have h : 0 ≤ m % 18446744073709551616 := by omega
  rw [Int.tmod_eq_emod_of_nonneg h]
  omega
set_option maxRecDepth 100000 in
set_option maxHeartbeats 8000000 in
theorem SealWhole_main (a b : List UInt8) (m n : Int) (kp : Value) (ks : List Bool) (w : World) (hk : Bools w kp ks) (ha : a.length ≤ 200) (hb : b.length ≤ 200) (hks : ks.length ≤ 20)
    (p q : Int) (hp : (IntKind.u64.wrap m).tmod 1000 = p) (hq : (IntKind.u64.wrap n).tmod 1000 = q) (hpq : p ≠ q) :
    Calls Try.prog 5 #[S a, S b, .int .i64 m, .int .i64 n, kp] w fun e w' => e = .returned (.bool true) ∧ Below w.heap.size w w' := by
  obtain ⟨p0, p1⟩ := tmod_bd m
  obtain ⟨q0, q1⟩ := tmod_bd n
  rw [hp] at p0 p1
  rw [hq] at q0 q1
  have hst := whole_steps a b (1 + p) (1 + q) ks (isNum_of (by omega) (by omega)) (isNum_of (by omega) (by omega)) (by omega) ha hb
  obtain ⟨x1, y1, hk1⟩ := hk.at
  obtain ⟨rfl, hkat⟩ := hk1
  have d1 : decide (200 < (a.length : Int)) = false := by simp; omega
  have d2 : decide (200 < (b.length : Int)) = false := by simp; omega
  have d3 : decide (20 < (ks.length : Int)) = false := by simp; omega
  have d4 : ((1 + p) == (1 + q)) = false := by simp; omega
  have d5 : (p == q) = false := by simpa using hpq
  have hsb := secs_le b.length
  obtain ⟨g, hg⟩ : ∃ g, g = ((((((Dsk.of (List.replicate 12 zsec)).zput 0 12 2 (1 + p) a).2.synced.zput 0 12 2 (1 + q) b).2.cut ks).come).zget 0 12 2) := ⟨_, rfl⟩
  have hgc := hst.g g hg
  have P1 := Lib.hid hst.p1
  have L1 := Lib.hid hst.l1
  have E2 := Lib.hid hst.e2
  have P3 := Lib.hid hst.p3
  have Hk := Lib.hid hk
  have Hkat := Lib.hid hkat
  have Hg := Lib.hid hg
  have Hgc := Lib.hid hgc
  clear hst hg hgc hk hkat hpq
  have zl := zput_len (Dsk.of (List.replicate 12 zsec)) 0 12 2 (1 + p) a
  generalize hs1 : (Dsk.of (List.replicate 12 zsec)).zput 0 12 2 (1 + p) a = r1 at *
  have yl := synced_len r1.2
  have zl3 := zput_len r1.2.synced 0 12 2 (1 + q) b
  generalize hs3 : r1.2.synced.zput 0 12 2 (1 + q) b = r3 at *
  have cl := cut_len r3.2 ks
  have Hs1 := Lib.hid hs1
  have Hs3 := Lib.hid hs3
  have Hlen := Lib.hid (And.intro zl (And.intro yl (And.intro zl3 cl)))
  clear hs1 hs3 zl yl zl3 cl
  go_enter Try.func5, Try.ntmps5
  go_wp2_with fail
  refine (awake06 w).mono ?_
  rintro e w1 ⟨rfl, b1⟩
  go_wp2_with fail
  refine (New_n w.heap.size 12 12 rfl w1 b1.size (by omega)).mono ?_
  rintro e w2 ⟨D, vs, rfl, hD, h2, b2⟩
  clear hp hq d1 d2 d3 d4
  have b2 := b1.trans (b2.mono b1.size)
  clear b1
  go_wp2_with fail
  refine (ZNew_n w.heap.size D vs _ 0 12 0 12 rfl rfl w2 h2 (by omega) (by simp [Dsk.of]) (by simp [Dsk.of])).mono ?_
  rintro e w3 ⟨Z, rfl, hZ, z3, b3⟩
  have b3 := b2.trans (b3.mono b2.size)
  clear b2 h2
  go_wp2_with fail
  refine (Put_any w.heap.size D Z vs 0 12 _ 2 (1 + p) a w3 z3 (by omega) (by simp [Dsk.of])).mono ?_
  rintro e w4 ⟨rfl, z4, k4⟩
  have b4 := below_dke b3 k4
  rw [Hs1.out] at z4 ⊢
  rw [P1.out]
  clear k4 b3 z3
  have c4 : w4.cell? ⟨Z, 0, none⟩ = some (.pointer (some ⟨D, 0, none⟩)) := z4.row.cell 0
  go_wp2_with fail
  refine (DSync_any w.heap.size D vs _ w4 z4.disk b4.size).mono ?_
  rintro e w5 ⟨rfl, h5, k5⟩
  rw [E2.out]
  have z5 := z4.step h5 k5 Hlen.out.2.1.1 (by have := Hlen.out.2.1.2; have := L1.out; omega)
  have b5 := below_dke b4 k5
  clear k5 b4 z4 h5 c4
  go_wp2_with fail
  refine (Put_any w.heap.size D Z vs 0 12 _ 2 (1 + q) b w5 z5 (by omega) (by have := Hlen.out.2.1.2; have := L1.out; omega)).mono ?_
  rintro e w6 ⟨rfl, z6, k6⟩
  have b6 := below_dke b5 k6
  rw [Hs3.out] at z6 ⊢
  rw [P3.out]
  clear k6 b5 z5
  go_wp2_with fail
  go_loopg [16, 17, 18] (secs b.length) (fun gk v16 v17 v18 wr => ∃ j : Nat, j ≤ secs b.length ∧ gk = secs b.length - j ∧ v18 = .int .i64 j ∧ v16 = .bool (allOf ks j) ∧ v17 = .bool (noneOf ks j) ∧ wr = w6)
  case atStart => exact ⟨0, by omega, by omega, rfl, rfl, rfl, rfl⟩
  case round =>
    obtain ⟨j, hj, hgk, rfl, rfl, rfl, rfl⟩ := hrel
    have Hgk := Lib.hid hgk
    clear hgk
    by_cases hlt : j < secs b.length
    · have hA : allOf ks (j + 1) = (allOf ks j && ks.getD j false) := rfl
      have hN : noneOf ks (j + 1) = (noneOf ks j && !ks.getD j false) := rfl
      have HA := Lib.hid hA
      have HN := Lib.hid hN
      clear hA hN
      have dl : decide (j < secs b.length) = true := by simpa using hlt
      by_cases hjl : j < ks.length
      · obtain ⟨kb, hkb⟩ : ∃ kb, ks[j]? = some kb := ⟨_, List.getElem?_eq_getElem hjl⟩
        obtain ⟨ad, rfl, hca⟩ := Hkat.out j kb hkb
        have hc6 : wr.cell? (ad.add j) = some (.bool kb) := by rw [b6.cell (p := ad.add j) (block_lt_of_cell hca)]; exact hca
        have hgd : ks.getD j false = kb := by simp [List.getD, hkb]
        rw [hgd] at HA HN
        have e1 : decide (j < ks.length) = true := by simpa using hjl
        have e2 : decide (ks.length ≤ j) = false := by simpa using hjl
        clear hca hkb hgd
        cases hA : allOf ks j
        all_goals
          cases hN : noneOf ks j
          all_goals
            rw [hA] at HA
            rw [hN] at HN
            cases kb
            all_goals
              have HA' := Lib.hid HA
              have HN' := Lib.hid HN
              clear HA HN hA hN
              go_wp2_with fail
              refine (Size_any b _ (by omega)).mono ?_
              rintro e w' ⟨rfl, rfl⟩
              go_wp2_with fail
              go_roundg (secs b.length - (j + 1))
              case measure => have := Hgk.out; omega
              case rel => exact ⟨j + 1, by omega, rfl, by go_num, by rw [HA'.out]; rfl, by rw [HN'.out]; rfl, rfl⟩
      · have hgd : ks.getD j false = false := by simp only [List.getD]; rw [List.getElem?_eq_none (by omega)]; rfl
        rw [hgd] at HA HN
        have e1 : decide (j < ks.length) = false := by simpa using hjl
        have e2 : decide (ks.length ≤ j) = true := by simp; omega
        clear hgd
        cases hA : allOf ks j
        all_goals
          cases hN : noneOf ks j
          all_goals
            rw [hA] at HA
            rw [hN] at HN
            have HA' := Lib.hid HA
            have HN' := Lib.hid HN
            clear HA HN hA hN
            go_wp2_with fail
            refine (Size_any b _ (by omega)).mono ?_
            rintro e w' ⟨rfl, rfl⟩
            go_wp2_with fail
            go_roundg (secs b.length - (j + 1))
            case measure => have := Hgk.out; omega
            case rel => exact ⟨j + 1, by omega, rfl, by go_num, by rw [HA'.out]; rfl, by rw [HN'.out]; rfl, rfl⟩
    · obtain rfl : j = secs b.length := by omega
      have dl : decide (secs b.length < secs b.length) = false := by simp
      have c6 : wr.cell? ⟨Z, 0, none⟩ = some (.pointer (some ⟨D, 0, none⟩)) := z6.row.cell 0
      have hal : allOf ks (secs b.length) = true ∨ allOf ks (secs b.length) = false := by cases allOf ks (secs b.length) <;> simp
      go_wp2_with fail
      refine (Size_any b _ (by omega)).mono ?_
      rintro e w' ⟨rfl, rfl⟩
      go_wp2_with fail
      refine (Cut_any w.heap.size D vs _ _ ks wr z6.disk b6.size (bools_new Hk.out b6) (away_new z6.disk (Nat.le_refl _) Hk.out)).mono ?_
      rintro e w7 ⟨rfl, h7, k7⟩
      have z7 := z6.step h7 k7 Hlen.out.2.2.2.1 (by have := Hlen.out.2.2.2.2; have := Hlen.out.2.2.1.2; have := Hlen.out.2.1.2; have := L1.out; omega)
      have b7 := below_dke b6 k7
      clear k7 b6 z6 h7 c6
      have c7 : w7.cell? ⟨Z, 0, none⟩ = some (.pointer (some ⟨D, 0, none⟩)) := z7.row.cell 0
      go_wp2_with fail
      refine (Come_any w.heap.size D vs _ w7 z7.disk).mono ?_
      rintro e w8 ⟨rfl, h8, k8⟩
      have z8 := z7.step h8 k8 (by unfold Dsk.come; split <;> rfl) (by have := z7.loose; unfold Dsk.come; split <;> exact this)
      have b8 := below_dke b7 k8
      clear k8 b7 z7 h8 c7
      go_wp2_with fail
      refine (Get_any w.heap.size D Z vs 0 12 _ 2 w8 z8).mono ?_
      rintro e w9 ⟨rfl, b9⟩
      have b9 := b8.trans (b9.mono b8.size)
      rw [← Hg.out]
      clear b8 z8
      unfold getT
      rcases Hgc.out with ⟨hg, hA, hN⟩ | hg | ⟨hg, hA⟩
      · rw [hg, hA, hN]
        clear hg hA hN hal
        go_wp2_with fail
        go_ret
        exact ⟨rfl, b9⟩
      · rw [hg]
        clear hg hal
        have e1 : ((1 + q) == (1 + q)) = true := by simp
        have e2 : (b == b) = true := by simp
        go_wp2_with fail
        go_ret
        exact ⟨rfl, b9⟩
      · rw [hg, hA]
        clear hg hA hal
        have e1 : ((1 + p) == (1 + p)) = true := by simp
        have e2 : (a == a) = true := by simp
        have e3 : ((1 + p) == (1 + q)) = false := by simpa using d5
        go_wp2_with fail
        go_ret
        exact ⟨rfl, b9⟩
set_option maxRecDepth 100000 in
set_option maxHeartbeats 4000000 in
theorem SealWhole_any (a b : List UInt8) (m n : Int) (kp : Value) (ks : List Bool) (w : World) (hk : Bools w kp ks) (hla : a.length ≤ 9223372036854775807) (hlb : b.length ≤ 9223372036854775807) (hlk : ks.length ≤ 9223372036854775807) :
    Calls Try.prog 5 #[S a, S b, .int .i64 m, .int .i64 n, kp] w fun e w' => e = .returned (.bool true) ∧ Below w.heap.size w w' := by
  obtain ⟨p, hp⟩ : ∃ p, (IntKind.u64.wrap m).tmod 1000 = p := ⟨_, rfl⟩
  obtain ⟨q, hq⟩ : ∃ q, (IntKind.u64.wrap n).tmod 1000 = q := ⟨_, rfl⟩
  by_cases ha : a.length ≤ 200
  · by_cases hb : b.length ≤ 200
    · by_cases hks : ks.length ≤ 20
      · by_cases hpq : p = q
        · obtain ⟨p0, p1⟩ := tmod_bd m
          rw [hp] at p0 p1
          subst hpq
          obtain ⟨x1, y1, rfl, _⟩ := hk.at
          have d1 : decide (200 < (a.length : Int)) = false := by simp; omega
          have d2 : decide (200 < (b.length : Int)) = false := by simp; omega
          have d3 : decide (20 < (ks.length : Int)) = false := by simp; omega
          have d4 : ((1 + p) == (1 + p)) = true := by simp
          go_enter Try.func5, Try.ntmps5
          go_wp2_with fail
          refine (awake06 w).mono ?_
          rintro e w1 ⟨rfl, b1⟩
          go_wp2_with fail
          go_ret
          exact ⟨rfl, b1⟩
        · exact SealWhole_main a b m n kp ks w hk ha hb hks p q hp hq hpq
      · obtain ⟨x1, y1, rfl, _⟩ := hk.at
        have d1 : decide (200 < (a.length : Int)) = false := by simp; omega
        have d2 : decide (200 < (b.length : Int)) = false := by simp; omega
        have d3 : decide (20 < (ks.length : Int)) = true := by simp; omega
        go_enter Try.func5, Try.ntmps5
        go_wp2_with fail
        refine (awake06 w).mono ?_
        rintro e w1 ⟨rfl, b1⟩
        go_wp2_with fail
        go_ret
        exact ⟨rfl, b1⟩
    · have d1 : decide (200 < (a.length : Int)) = false := by simp; omega
      have d2 : decide (200 < (b.length : Int)) = true := by simp; omega
      go_enter Try.func5, Try.ntmps5
      go_wp2_with fail
      refine (awake06 w).mono ?_
      rintro e w1 ⟨rfl, b1⟩
      go_wp2_with fail
      go_ret
      exact ⟨rfl, b1⟩
  · have d1 : decide (200 < (a.length : Int)) = true := by simp; omega
    go_enter Try.func5, Try.ntmps5
    go_wp2_with fail
    refine (awake06 w).mono ?_
    rintro e w1 ⟨rfl, b1⟩
    go_wp2_with fail
    go_ret
    exact ⟨rfl, b1⟩
end Go.Proofs.Ythppdlemchmipaa
