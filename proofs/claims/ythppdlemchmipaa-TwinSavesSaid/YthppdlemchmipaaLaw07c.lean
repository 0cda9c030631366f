/- statements of layer 7: TwinSaves. -/
import Derived.Test.YthppdlemchmipaaLaw07a
import Derived.Test.YthppdlemchmipaaLaw06b
import Derived.Test.YthppdlemchmipaaDisk9
import Derived.Test.YthppdlemchmipaaModel8
import Derived.Test.YthppdlemchmipaaSlices
namespace Go.Proofs.Ythppdlemchmipaa
open Go.RowKit Go.Wd
theorem tmod20 (m : Int) : 0 ≤ (IntKind.u64.wrap m).tmod 20 ∧ (IntKind.u64.wrap m).tmod 20 ≤ 19 := by
  rw [wrap_u64]
  have h : 0 ≤ m % 18446744073709551616 := by omega
  rw [Int.tmod_eq_emod_of_nonneg h]
  omega
def beginT : List UInt8 := [98, 101, 103, 105, 110]
theorem f60' {x : List UInt8} (h : x.length ≤ 60) : x.length ≤ 1024 ∧ secs x.length ≤ 7 := by unfold secs; omega
theorem fit14 {x : List UInt8} (h : x.length ≤ 60) : fits (2 * 7) x = true := by
  have := f60' h
  unfold fits; simp; omega
theorem zok14 : zoneOK (2 * 7) = true := by decide
/-- at the head of a life -/
structure Hd (B D Z T : Nat) (vs : Value) (w0 : World) (st : Dsk) (sure : List UInt8) (gen : Int) (side : Nat) (w : World) : Prop where
  zk : Zk B D Z vs 2 (2 * 7) st w
  tw : Twn T Z ⟨sure, gen, side, false⟩ w
  inv : TwInv st.safe 2 7 ⟨sure, gen, side, false⟩
  on : st.On
  loose : st.loose = []
  len : st.safe.length = 20
  below : Below B w0 w
set_option maxRecDepth 100000 in
set_option maxHeartbeats 40000000 in
theorem TwinSaves_main (v0 v1 v2 : Value) (lss : List (List (List UInt8))) (ns : List Int) (ks : List Bool) (w : World) (h0 : SlR w v0 lss) (h1 : SlN w v1 ns) (h2 : Bools w v2 ks) (hl0 : lss.length ≤ 6) (hl1 : ns.length ≤ 9223372036854775807) (hl2 : ks.length ≤ 50)
    (hsz : ∀ l ∈ lss, l.length ≤ 9223372036854775807 ∧ ∀ x ∈ l, x.length ≤ 9223372036854775807) :
    Calls Try.prog 12 #[v0, v1, v2] w fun e w' => e = .returned (.bool true) ∧ Below w.heap.size w w' := by
  obtain ⟨a0, c0, rfl, hc0⟩ := h0
  obtain ⟨a1, c1, rfl, hc1⟩ := h1
  obtain ⟨a2, c2, hk2⟩ := h2.at
  obtain ⟨rfl, _⟩ := hk2
  obtain ⟨st0, r0, f0, l0, sl0, tw0, _, _⟩ := turn_start 20 2 7 beginT (f60' (by decide)) (by decide)
  have R0 := Lib.hid r0
  have H0 := Lib.hid hc0
  have H1 := Lib.hid hc1
  have H2 := Lib.hid h2
  have Hsz := Lib.hid hsz
  have d1 : decide (6 < (lss.length : Int)) = false := by simp; omega
  have d2 : decide (50 < (ks.length : Int)) = false := by simp; omega
  clear r0 hc0 hc1 h2 hsz
  go_enter Try.func12, Try.ntmps12
  go_wp2_with fail
  refine (awake07 w).mono ?_
  rintro e w1 ⟨rfl, b1⟩
  go_wp2_with fail
  refine (New_n w.heap.size 20 20 rfl w1 b1.size (by omega)).mono ?_
  rintro e w2 ⟨D, vs, rfl, hD, h2, b2⟩
  have b2 := b1.trans (b2.mono b1.size)
  clear b1 d1 d2
  go_wp2_with fail
  refine (ZNew_n w.heap.size D vs _ 2 (2 * 7) 2 14 rfl rfl w2 h2 (by omega) (by simp [Dsk.of]) (by simp [Dsk.of])).mono ?_
  rintro e w3 ⟨Z, rfl, hZ, z3, b3⟩
  have b3 := b2.trans (b3.mono b2.size)
  clear b2 h2
  go_wp2_with fail
  refine (Format_any w.heap.size D Z vs 2 (2 * 7) _ beginT w3 z3 zok14 (fit14 (by decide)) (by simp [Dsk.of])).mono ?_
  rintro e w4 ⟨T, rfl, z4, hT, t4, k4⟩
  have b4 := below_dke b3 k4
  have hTB := Nat.le_trans b3.size hT
  rw [R0.out] at z4 t4 ⊢
  have t4b := t4 rfl
  have e3 : tformV 0 T = .tuple #[.pointer (some ⟨T, 0, none⟩), .int .i64 0] := rfl
  simp only at z4
  rw [e3]
  have hd4 : Hd w.heap.size D Z T vs w st0 beginT 1 0 w4 := ⟨z4, t4b, tw0, f0.toOn, l0, sl0, b4⟩
  clear t4 e3 k4 b3 z3 hT z4 t4b tw0 f0 l0 sl0 b4
  go_wp2_with fail
  go_loopg [10, 11, 12, 13, 14, 15] (6 : Nat) (fun gk v10 v11 v12 v13 v14 v15 wr => ∃ (k T side : Nat) (st : Dsk) (sure : List UInt8) (gen : Int), k ≤ lss.length ∧ gk = 6 - k ∧ v14 = .int .i64 k ∧ v10 = .pointer (some ⟨T, 0, none⟩) ∧ v12 = S sure ∧ v13 = .int .i64 gen ∧
    w.heap.size ≤ T ∧ 1 ≤ gen ∧ gen ≤ 1 + 5 * k ∧ Hd w.heap.size D Z T vs w st sure gen side wr)
  case atStart => exact ⟨0, T, 0, st0, beginT, 1, by omega, by omega, rfl, rfl, rfl, rfl, hTB, by omega, by omega, hd4⟩
  case round =>
    clear hd4 hTB
    obtain ⟨k, T, side, st, sure, gen, hk, hgk, rfl, rfl, rfl, rfl, hTB, hg1, hg2, hd⟩ := hrel
    have Hgk := Lib.hid hgk
    clear hgk
    by_cases hlt : k < lss.length
    · have x1 : decide (k < lss.length) = true := by simpa using hlt
      go_upto_if 54 with (fail)
      go_cut [14] from 45 to 149 (fun v14 wx => v14 = .int .i64 k ∧ ∃ st1, Hd w.heap.size D Z T vs w st1 sure gen side wx)
      case first =>
        by_cases hf : k < ns.length
        · have x2 : decide (k < ns.length) = true := by simpa using hf
          obtain ⟨f, hfk⟩ : ∃ f, ns[k]? = some f := ⟨_, List.getElem?_eq_getElem hf⟩
          rcases H1.out with hnil | ⟨bk, o, hxa, hcell⟩
          · rw [hnil] at hf; simp at hf
          subst hxa
          have hc0 : w.cell? ⟨bk, o + k, none⟩ = some (.int .i64 f) := hcell k f hfk
          have hcr : wr.cell? ⟨bk, o + k, none⟩ = some (.int .i64 f) := by rw [hd.below.cell (p := ⟨bk, o + k, none⟩) (block_lt_of_cell hc0)]; exact hc0
          obtain ⟨n, hn⟩ : ∃ n, (IntKind.u64.wrap f).tmod 20 = n := ⟨_, rfl⟩
          obtain ⟨n0, n1⟩ := tmod20 f
          rw [hn] at n0 n1
          have hBw := hd.below.size
          clear hcell hc0 hfk
          go_wp2_with fail
          refine (Fuse_any w.heap.size D vs _ st n ks wr hd.zk.disk hd.on.on (bools_new H2.out hd.below) n0 (by omega) (by omega)).mono ?_
          rintro e w5 ⟨rfl, d5, k5⟩
          have hd5 : Hd w.heap.size D Z T vs w { st with fuse := n, keep := ks } sure gen side w5 :=
            ⟨hd.zk.step d5 k5 rfl hd.zk.loose, twn_dke hd.zk.disk k5 hd.tw, hd.inv, ⟨hd.on.on, by show -1 ≤ n; omega⟩, hd.loose, hd.len, below_dke hd.below k5⟩
          clear hn
          go_wp2_with fail
          go_meet
          case rel => exact ⟨rfl, _, hd5⟩
        · have x2 : decide (k < ns.length) = false := by simpa using hf
          go_wp2_with fail
          go_meet
          case rel => exact ⟨rfl, st, hd⟩
      case rest =>
        clear hd
        obtain ⟨rfl, st1, hd⟩ := hcut
        go_upto_block 2 with (fail)
        go_cut [12, 13, 14, 15, 16, 17, 18] from 45 to 149 (fun v12 v13 v14 v15 v16 v17 v18 wx => v14 = .int .i64 k ∧ ∃ (st2 : Dsk) (sure2 next2 : List UInt8) (gen2 : Int) (t2 : Tw), v12 = S sure2 ∧ v13 = .int .i64 gen2 ∧ v15 = S next2 ∧ gen ≤ gen2 ∧ gen2 ≤ gen + 4 ∧ Zk w.heap.size D Z vs 2 (2 * 7) st2 wx ∧ Life st2 sure2 next2 gen2 t2 ∧ Below w.heap.size w wx)
        case first =>
          obtain ⟨l, hlk⟩ : ∃ l, lss[k]? = some l := ⟨_, List.getElem?_eq_getElem hlt⟩
          rcases H0.out with hnil | ⟨bk0, o0, hxa, hcell0⟩
          · rw [hnil] at hlt; simp at hlt
          subst hxa
          obtain ⟨u, hu, hsl⟩ := hcell0 k l hlk
          obtain ⟨xa, xc, rfl, hxc, hcell⟩ := hsl
          obtain ⟨hll, hlx⟩ := Hsz.out l (List.mem_of_getElem? hlk)
          have Hu := Lib.hid hu
          have Hcell := Lib.hid hcell
          have Hlx := Lib.hid hlx
          clear hcell0 hu hcell hlx hlk
          go_wp2_with fail
          go_loopg [12, 13, 15, 16] (4 : Nat) (fun gk v12 v13 v15 v16 wr2 => ∃ (i side2 : Nat) (st2 : Dsk) (sure2 : List UInt8) (gen2 : Int), i ≤ 4 ∧ gk = 4 - i ∧ i ≤ l.length ∧ v16 = .int .i64 i ∧ v12 = S sure2 ∧ v15 = S sure2 ∧ v13 = .int .i64 gen2 ∧ gen ≤ gen2 ∧ gen2 ≤ gen + i ∧ Hd w.heap.size D Z T vs w st2 sure2 gen2 side2 wr2)
          case atStart => exact ⟨0, side, st1, sure, gen, by omega, by omega, by omega, rfl, rfl, rfl, rfl, by omega, by omega, hd⟩
          case round =>
            clear hd
            obtain ⟨i, side2, st2, sure2, gen2, hi, hgk2, hil, rfl, rfl, rfl, rfl, hga, hgb, hd⟩ := hrel
            have Hgk2 := Lib.hid hgk2
            clear hgk2
            have hB2 := hd.below.size
            have hcu : wr.cell? ⟨bk0, o0 + k, none⟩ = some (.slice xa l.length xc) := by rw [hd.below.cell (p := ⟨bk0, o0 + k, none⟩) (block_lt_of_cell Hu.out)]; exact Hu.out
            by_cases hil2 : i < l.length
            · have x3 : decide (i < l.length) = true := by simpa using hil2
              by_cases hi4 : i < 4
              · have x4 : decide ((i : Int) < 4) = true := by simp; omega
                obtain ⟨x, hx⟩ : ∃ x, l[i]? = some x := ⟨_, List.getElem?_eq_getElem hil2⟩
                rcases Hcell.out with hnil | ⟨bk, o, hxa, hcell⟩
                · rw [hnil] at hil2; simp at hil2
                subst hxa
                have hc0 : w.cell? ⟨bk, o + i, none⟩ = some (S x) := hcell i x hx
                have hcr : wr.cell? ⟨bk, o + i, none⟩ = some (S x) := by rw [hd.below.cell (p := ⟨bk, o + i, none⟩) (block_lt_of_cell hc0)]; exact hc0
                have hxl := Hlx.out x (List.mem_of_getElem? hx)
                clear hcell hc0 hx
                by_cases h60 : x.length ≤ 60
                · have x5 : decide (60 < (x.length : Int)) = false := by simp; omega
                  have hside := hd.inv.side
                  have hll2 : st2.loose.length ≤ 0 := by rw [hd.loose]; exact Nat.le_refl _
                  have hS := Save_any w.heap.size D Z T vs 2 (2 * 7) st2 ⟨sure2, gen2, side2, false⟩ x wr hd.zk hd.tw hTB hside (by decide) (show 0 ≤ gen2 by omega) (show gen2 ≤ 2147483647 by omega) (by omega) (by omega)
                  rcases hd.inv.save hd.on hd.loose x (f60' h60) (show gen2 ≤ 2147483645 by omega) with ⟨st', r', o', l', k', _, sl', tw', _, _⟩ | ⟨st', r', _, aw', l', htw⟩
                  · rw [r'] at hS
                    simp only at hS tw'
                    have HS := Lib.hid hS
                    have L' := Lib.hid l'
                    have Sl' := Lib.hid sl'
                    have hlen2 := hd.len
                    have Hlen2 := Lib.hid hlen2
                    have hbel := hd.below
                    clear hS r' l' k' sl' hlen2 hd
                    go_wp2_with fail
                    refine HS.out.mono ?_
                    rintro e w6 ⟨rfl, z6, t6, k6⟩
                    have b6 := tk_below hbel k6
                    go_wp2_with fail
                    go_roundg (4 - (i + 1))
                    case measure => have := Hgk2.out; omega
                    case rel => exact ⟨i + 1, 1 - side2, st', x, gen2 + 1, by omega, rfl, by omega, by go_num, rfl, rfl, rfl, by omega, by omega, ⟨z6, t6, tw', o', L'.out, by rw [Sl'.out]; exact Hlen2.out, b6⟩⟩
                  · rw [r'] at hS
                    simp only at hS
                    have hL : ∃ t2, Life st' sure2 x gen2 t2 := by
                      have hlen' : st'.safe.length = 20 := by
                        have := hS
                        rcases htw with h | h
                        · have q := tsave_safe_len st2 2 (2 * 7) ⟨sure2, gen2, side2, false⟩ x
                          rw [r'] at q; rw [← hd.len]; exact q
                        · have q := tsave_safe_len st2 2 (2 * 7) ⟨sure2, gen2, side2, false⟩ x
                          rw [r'] at q; rw [← hd.len]; exact q
                      rcases htw with h | h
                      · exact ⟨_, h, l', hlen', .inl ⟨rfl, rfl⟩⟩
                      · exact ⟨_, h, l', hlen', .inr ⟨rfl, rfl⟩⟩
                    have HS := Lib.hid hS
                    have HL := Lib.hid hL
                    have hll' : st'.loose.length ≤ 0 := by rw [l']; exact Nat.le_refl _
                    have hbel := hd.below
                    have hdn := save_down (st := st') (from' := 2) (t := ⟨sure2, gen2, side2, true⟩) (fit14 h60) (show ¬ 2147483647 ≤ gen2 by omega) rfl
                    have Hdn := Lib.hid hdn
                    clear hS r' l' hd aw' htw hL hdn
                    go_wp2_with fail
                    refine HS.out.mono ?_
                    rintro e w6 ⟨rfl, z6, t6, k6⟩
                    have b6 := tk_below hbel k6
                    clear hbel k6 HS
                    go_wp2_with fail
                    refine (Save_any w.heap.size D Z T vs 2 (2 * 7) st' ⟨sure2, gen2, side2, true⟩ x w6 z6 t6 hTB hside (by decide) (show 0 ≤ gen2 by omega) (show gen2 ≤ 2147483647 by omega) (by omega) (by omega)).mono ?_
                    rintro e w7 ⟨rfl, z7, t7, k7⟩
                    rw [Hdn.out] at z7 t7 ⊢
                    simp only at z7 t7
                    have b7 := tk_below b6 k7
                    clear z6 t6 k7 b6
                    go_wp2_with fail
                    go_meet
                    case rel =>
                      obtain ⟨t2, hL⟩ := HL.out
                      exact ⟨rfl, st', sure2, x, gen2, t2, rfl, rfl, rfl, by omega, by omega, z7, hL, b7⟩
                · have x5 : decide (60 < (x.length : Int)) = true := by simp; omega
                  have hbel := hd.below
                  clear hd
                  go_wp2_with fail
                  go_ret
                  exact ⟨rfl, hbel⟩
              · have x4 : decide ((i : Int) < 4) = false := by simp; omega
                go_wp2_with fail
                go_meet
                case rel => exact ⟨rfl, st2, sure2, sure2, gen2, _, rfl, rfl, rfl, by omega, by omega, hd.zk, ⟨hd.inv, hd.loose, hd.len, .inl ⟨rfl, rfl⟩⟩, hd.below⟩
            · have x3 : decide (i < l.length) = false := by simpa using hil2
              go_wp2_with fail
              go_meet
              case rel => exact ⟨rfl, st2, sure2, sure2, gen2, _, rfl, rfl, rfl, by omega, by omega, hd.zk, ⟨hd.inv, hd.loose, hd.len, .inl ⟨rfl, rfl⟩⟩, hd.below⟩
        case rest =>
          clear hd
          obtain ⟨rfl, st2, sure2, next2, gen2, t2, rfl, rfl, rfl, hg3, hg4, z2, hL, hB⟩ := hcut
          have hBw := hB.size
          obtain ⟨lb1, lb2, lb3, lb4⟩ := life_back hL
          have hcl := cut_len st2 []
          have Hcl := Lib.hid hcl.1
          have hcl2 := hcl.2
          have hlo2 := z2.loose
          have Lb2 := Lib.hid lb2
          have Lb3 := Lib.hid lb3
          have Lb4 := Lib.hid lb4
          clear hcl lb2 lb3 lb4
          go_wp2_with fail
          refine (Cut_any w.heap.size D vs _ st2 [] _ z2.disk hBw (.inl ⟨rfl, rfl⟩) (fun a n c he => by cases he)).mono ?_
          rintro e w6 ⟨rfl, d6, k6⟩
          have z6 := z2.step d6 k6 Hcl.out (by omega)
          have b6 := below_dke hB k6
          clear z2 d6 k6 hB hBw
          go_wp2_with fail
          refine (Come_any w.heap.size D vs _ w6 z6.disk).mono ?_
          rintro e w7 ⟨rfl, d7, k7⟩
          have z7 := z6.step d7 k7 (by unfold Dsk.come; split <;> rfl) (by have := z6.loose; unfold Dsk.come; split <;> exact this)
          have b7 := below_dke b6 k7
          clear z6 d7 k7 b6 hcl2 hlo2
          obtain ⟨st3, hst3⟩ : ∃ st3, st3 = (st2.cut []).come := ⟨_, rfl⟩
          rw [← hst3] at z7 lb1 Lb2 Lb3 Lb4 
          have Hst3 := Lib.hid hst3
          clear hst3
          have q1 : (st3.done != st3.done) = false := by simp
          go_wp2_with fail
          refine (Done_any w.heap.size D vs st3 w7 (by rw [Hst3.out]; rw [← Hst3.out]; exact z7.disk)).mono ?_
          rintro e w8 ⟨rfl, rfl⟩
          go_wp2_with fail
          refine (Open_any w.heap.size D Z vs 2 (2 * 7) st3 w7 z7 zok14).mono ?_
          rintro e w8 ⟨U, rfl, hU, u8, b8⟩
          rw [Lb4.out] at u8 ⊢
          have u8b := u8 rfl
          have e3 : topenV 0 U = .tuple #[.pointer (some ⟨U, 0, none⟩), .int .i64 0] := rfl
          rw [e3]
          have z8 := z7.new b8
          have hUB := Nat.le_trans b7.size hU
          have b8 := b7.trans (b8.mono b7.size)
          clear u8 e3 z7 b7 hU
          simp only at u8b
          obtain ⟨tx, tg, ts, td⟩ := t2
          have htd : td = false := hL.inv.down
          subst htd
          go_wp2_with fail
          refine (Done_any w.heap.size D vs st3 w8 z8.disk).mono ?_
          rintro e w9 ⟨rfl, rfl⟩
          go_wp2_with fail
          refine (TGen_any U Z _ w8 u8b).mono ?_
          rintro e w9 ⟨rfl, rfl⟩
          have hor := hL.or'
          have hinv := hL.inv
          have hlen := hL.len
          have Hinv := Lib.hid hinv
          have Hlen := Lib.hid hlen
          clear hL hinv hlen
          simp only at hor
          rcases hor with ⟨rfl, rfl⟩ | ⟨rfl, rfl⟩
          · have q2 : (tg == tg) = true := by simp
            have q3 : (tx == tx) = true := by simp
            go_wp2_with fail
            refine (TText_any U Z _ w8 u8b).mono ?_
            rintro e w9 ⟨rfl, rfl⟩
            go_wp2_with fail
            go_roundg (6 - (k + 1))
            case measure => have := Hgk.out; omega
            case rel => exact ⟨k + 1, U, ts, st3, tx, tg, by omega, rfl, by go_num, rfl, rfl, rfl, hUB, by omega, by omega, ⟨z8, u8b, by rw [Lb3.out]; exact Hinv.out, lb1.toOn, Lb2.out, by rw [Lb3.out]; exact Hlen.out, b8⟩⟩
          · have q2 : ((gen2 + 1) == gen2) = false := by simp; omega
            have q3 : ((gen2 + 1) != (gen2 + 1)) = false := by simp
            have q4 : (tx == tx) = true := by simp
            go_wp2_with fail
            refine (TGen_any U Z _ w8 u8b).mono ?_
            rintro e w9 ⟨rfl, rfl⟩
            go_wp2_with fail
            refine (TText_any U Z _ w8 u8b).mono ?_
            rintro e w9 ⟨rfl, rfl⟩
            go_wp2_with fail
            go_roundg (6 - (k + 1))
            case measure => have := Hgk.out; omega
            case rel => exact ⟨k + 1, U, ts, st3, tx, gen2 + 1, by omega, rfl, by go_num, rfl, rfl, rfl, hUB, by omega, by omega, ⟨z8, u8b, by rw [Lb3.out]; exact Hinv.out, lb1.toOn, Lb2.out, by rw [Lb3.out]; exact Hlen.out, b8⟩⟩
    · have x1 : decide (k < lss.length) = false := by simpa using hlt
      go_wp2_with fail
      go_ret
      exact ⟨rfl, hd.below⟩
set_option maxRecDepth 100000 in
set_option maxHeartbeats 4000000 in
theorem TwinSaves_any (v0 v1 v2 : Value) (lss : List (List (List UInt8))) (ns : List Int) (ks : List Bool) (w : World) (h0 : SlR w v0 lss) (h1 : SlN w v1 ns) (h2 : Bools w v2 ks) (hl0 : lss.length ≤ 9223372036854775807) (hl1 : ns.length ≤ 9223372036854775807) (hl2 : ks.length ≤ 9223372036854775807)
    (hsz : ∀ l ∈ lss, l.length ≤ 9223372036854775807 ∧ ∀ x ∈ l, x.length ≤ 9223372036854775807) :
    Calls Try.prog 12 #[v0, v1, v2] w fun e w' => e = .returned (.bool true) ∧ Below w.heap.size w w' := by
  by_cases h6 : lss.length ≤ 6
  · by_cases h50 : ks.length ≤ 50
    · exact TwinSaves_main v0 v1 v2 lss ns ks w h0 h1 h2 h6 hl1 h50 hsz
    · obtain ⟨a0, c0, rfl, _⟩ := h0
      obtain ⟨a2, c2, rfl, _⟩ := h2.at
      have d1 : decide (6 < (lss.length : Int)) = false := by simp; omega
      have d2 : decide (50 < (ks.length : Int)) = true := by simp; omega
      clear hsz h1
      go_enter Try.func12, Try.ntmps12
      go_wp2_with fail
      refine (awake07 w).mono ?_
      rintro e w1 ⟨rfl, b1⟩
      go_wp2_with fail
      go_ret
      exact ⟨rfl, b1⟩
  · obtain ⟨a0, c0, rfl, _⟩ := h0
    have d1 : decide (6 < (lss.length : Int)) = true := by simp; omega
    clear hsz h1 h2
    go_enter Try.func12, Try.ntmps12
    go_wp2_with fail
    refine (awake07 w).mono ?_
    rintro e w1 ⟨rfl, b1⟩
    go_wp2_with fail
    go_ret
    exact ⟨rfl, b1⟩
end Go.Proofs.Ythppdlemchmipaa
