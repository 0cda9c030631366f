/- statements of layer 7: TwinTurns. -/
import Derived.Test.YthppdlemchmipaaLaw07a
namespace Go.Proofs.Ythppdlemchmipaa
open Go.RowKit Go.Wd
def z32cells : Array Value := ((List.replicate 32 (0 : UInt8)).map U8).toArray
theorem run_make32 (w : World) : (Instr.makeSlice 125 (.int .i64 32) (.int .i64 32)).run Try.prog w = .ok (.slice (some ⟨w.heap.size, 0, none⟩) 32 32) (w.alloc (.cells z32cells 5)) := by
  obtain ⟨i, hi, hz, hs, hb⟩ := info_parts info8
  have hr := run_make (P := Try.prog) w 125 5 i _ Try.underlying125 hi hz .i64 .i64 32 32 (by omega) (by omega) (by rw [hb]; decide) (by decide)
  have hc : madeCells (Value.int .u8 0).cells ((32 : Int).toNat * i.size) = z32cells := by
    rw [hs, Nat.mul_one]
    apply Array.ext'
    rw [show (Value.int .u8 0).cells = #[Value.int .u8 0] from rfl, toList_madeCells_one]
    simp [U8, z32cells]
  rw [hc] at hr
  exact hr
theorem conv_make32 (w : World) : (convert 125 9 (.slice (some ⟨w.heap.size, 0, none⟩) 32 32)).run Try.prog (w.alloc (.cells z32cells 5)) = .ok (S zsec) (w.alloc (.cells z32cells 5)) :=
  run_string_of _ 125 9 5 w.heap.size 0 32 zsec Try.underlying125 Try.underlying5 Try.underlying9 (fun j hj => by
    rw [Nat.zero_add, Lib.cell_of_heap (heap_alloc_new _ _)]
    unfold z32cells
    rw [List.getElem?_toArray]
    exact getD_map_some j 0 hj)
theorem zk_drew {B D Z : Nat} {vs : Value} {from' size : Nat} {st : Dsk} {w : World} (h : Zk B D Z vs from' size st w) : Zk B D Z vs from' size st w.drew := ⟨h.disk, h.row, h.fit, h.loose⟩
theorem conv_make32d (w : World) : (convert 125 9 (.slice (some ⟨w.heap.size, 0, none⟩) 32 32)).run Try.prog (w.alloc (.cells z32cells 5)).drew = .ok (S zsec) (w.alloc (.cells z32cells 5)).drew :=
  conv_make32 w.drew
theorem chunk_flat : ∀ (n : Nat) (l : List (List UInt8)), (∀ s ∈ l, s.length = 32) → l.length ≤ n → chunk n l.flatten = l
  | n, [], _, _ => by cases n <;> simp [chunk]
  | 0, s :: l, _, h => by simp at h
  | n + 1, s :: l, h32, h => by
    have hs := h32 s (by simp)
    have ih := chunk_flat n l (fun x hx => h32 x (by simp [hx])) (by simpa using h)
    unfold chunk
    rw [if_pos (by simp; omega)]
    simp only [List.flatten_cons]
    rw [List.take_left' hs, List.drop_left' hs, ih]
theorem Of_n (B : Nat) (l : List (List UInt8)) (h32 : ∀ s ∈ l, s.length = 32) (hl : l.length ≤ 4096) (w : World) (hB : B ≤ w.heap.size) :
    Calls Try.prog 62 #[S l.flatten] w fun e w' => ∃ D vs, e = .returned (.pointer (some ⟨D, 0, none⟩)) ∧ w.heap.size ≤ D ∧ Dk B D vs (Dsk.of l) w' ∧ Below w.heap.size w w' := by
  refine (DiskOf_any B l.flatten w hB).mono ?_
  rintro e w' ⟨rfl, ⟨vs, hd⟩, hb⟩
  rw [chunk_flat 4096 l h32 hl] at hd
  exact ⟨_, vs, rfl, Nat.le_refl _, hd, hb⟩
theorem f60 {x : List UInt8} (h : x.length ≤ 60) : x.length ≤ 1024 ∧ secs x.length ≤ 6 := by unfold secs; omega
theorem zok12 : zoneOK (2 * 6) = true ∧ fits (2 * 6) [] = true := by decide
set_option maxRecDepth 100000 in
set_option maxHeartbeats 40000000 in
theorem TwinTurns_any (v : Value) (ls : List (List UInt8)) (w : World) (hv : SlS w v ls) (hl : ls.length ≤ 9223372036854775807) (hsz : ∀ x ∈ ls, x.length ≤ 9223372036854775807) :
    Calls Try.prog 9 #[v] w fun e w' => e = .returned (.bool true) ∧ Below w.heap.size w w' := by
  obtain ⟨xa, xc, rfl, hxc, hcells⟩ := hv
  obtain ⟨st0, r0, f0, l0, sl0, tw0, _, _⟩ := turn_start 12 0 6 [] (f60 (by simp)) (by decide)
  have R0 := Lib.hid r0
  have Hc := Lib.hid hcells
  have Hsz := Lib.hid hsz
  clear r0 hcells hsz
  go_enter Try.func9, Try.ntmps9
  go_wp2_with fail
  refine (awake07 w).mono ?_
  rintro e w1 ⟨rfl, b1⟩
  go_wp2_with fail
  refine (New_n w.heap.size 12 12 rfl w1 b1.size (by omega)).mono ?_
  rintro e w2 ⟨D, vs, rfl, hD, h2, b2⟩
  have b2 := b1.trans (b2.mono b1.size)
  clear b1
  go_wp2_with fail
  refine (ZNew_n w.heap.size D vs _ 0 (2 * 6) 0 12 rfl rfl w2 h2 (by omega) (by simp [Dsk.of]) (by simp [Dsk.of])).mono ?_
  rintro e w3 ⟨Z, rfl, hZ, z3, b3⟩
  have b3 := b2.trans (b3.mono b2.size)
  clear b2 h2
  go_wp2_with fail
  refine (Format_any w.heap.size D Z vs 0 (2 * 6) _ [] w3 z3 zok12.1 zok12.2 (by simp [Dsk.of])).mono ?_
  rintro e w4 ⟨T, rfl, z4, hT, t4, k4⟩
  have b4 := below_dke b3 k4
  have hTB := Nat.le_trans b3.size hT
  rw [R0.out] at z4 t4 ⊢
  have t4b := t4 rfl
  have e3 : tformV 0 T = .tuple #[.pointer (some ⟨T, 0, none⟩), .int .i64 0] := rfl
  simp only at z4
  rw [e3]
  clear t4 e3 k4 b3 z3 hT
  go_wp2_with fail
  go_loopg [8, 9] (20 : Nat) (fun gk v8 v9 wr => ∃ (i sd : Nat) (st : Dsk) (last : List UInt8), i ≤ 20 ∧ gk = 20 - i ∧ i ≤ ls.length ∧ v9 = .int .i64 i ∧ v8 = S last ∧ sd = i % 2 ∧ Zk w.heap.size D Z vs 0 (2 * 6) st wr ∧ Twn T Z ⟨last, (i : Int) + 1, sd, false⟩ wr ∧
    TwInv st.safe 0 6 ⟨last, (i : Int) + 1, sd, false⟩ ∧ st.Free ∧ st.loose = [] ∧ st.safe.length = 12 ∧ last.length ≤ 60 ∧ Below w.heap.size w wr)
  case atStart => exact ⟨0, 0, st0, [], by omega, by omega, by omega, rfl, rfl, rfl, z4, t4b, tw0, f0, l0, sl0, by simp, b4⟩
  case round =>
    clear z4 t4b tw0 f0 l0 sl0 b4
    obtain ⟨i, sd, st, last, hi, hgk, hil, rfl, rfl, hsd, zr, tr, twr, fr, lr, slr, hlast, br⟩ := hrel
    have Hgk := Lib.hid hgk
    have Hsd := Lib.hid hsd
    have Lr := Lib.hid lr
    have Slr := Lib.hid slr
    have hll : st.loose.length ≤ 0 := by rw [lr]; exact Nat.le_refl _
    have hBr := br.size
    clear hgk hsd lr slr
    by_cases hlt : i < ls.length
    · have x1 : decide (i < ls.length) = true := by simpa using hlt
      by_cases h20 : i < 20
      · have x2 : decide ((i : Int) < 20) = true := by simp; omega
        obtain ⟨x, hx⟩ : ∃ x, ls[i]? = some x := ⟨_, List.getElem?_eq_getElem hlt⟩
        rcases Hc.out with hnil | ⟨bk, o, hxa, hcell⟩
        · rw [hnil] at hlt; simp at hlt
        subst hxa
        have hc0 : w.cell? ⟨bk, o + i, none⟩ = some (S x) := hcell i x hx
        have hcr : wr.cell? ⟨bk, o + i, none⟩ = some (S x) := by rw [br.cell (p := ⟨bk, o + i, none⟩) (block_lt_of_cell hc0)]; exact hc0
        have hxl := Hsz.out x (List.mem_of_getElem? hx)
        have Hc0 := Lib.hid hc0
        clear hcell hc0 hx
        by_cases h60 : x.length ≤ 60
        · have x3 : decide (60 < (x.length : Int)) = false := by simp; omega
          obtain ⟨st', r', f', l', k', sl', tw', has', _⟩ := turn_save twr fr Lr.out x (f60 h60) (by show (i : Int) + 1 ≤ 2147483645; omega)
          simp only at r' tw' has'
          have hS := Save_any w.heap.size D Z T vs 0 (2 * 6) st _ x wr.drew (zk_drew zr) tr hTB (show sd ≤ 1 by have := Hsd.out; omega) (by decide) (show 0 ≤ (i : Int) + 1 by omega) (show (i : Int) + 1 ≤ 2147483647 by omega) (by omega) (by omega)
          rw [r'] at hS
          simp only at hS
          have HS := Lib.hid hS
          have s1 : IntKind.i64.wrap ((i : Int) + 2) = (i : Int) + 2 := IntWalk.i64_in _ (by omega)
          have s2 : IntKind.i64.wrap ((i : Int) + 1) = (i : Int) + 1 := IntWalk.i64_in _ (by omega)
          obtain ⟨sd', hsd'⟩ : ∃ sd' : Nat, sd' = 1 - sd := ⟨_, rfl⟩
          have s3 : ((i : Int) + 1).tmod 2 = (sd' : Int) := by rw [Int.tmod_eq_emod_of_nonneg (by omega), hsd', Hsd.out]; omega
          have s4 : IntKind.i64.wrap (sd' : Int) = (sd' : Int) := IntWalk.i64_in _ (by omega)
          have q1 : (((i : Int) + 1 + 1) != ((i : Int) + 2)) = false := by rw [bne_eq_false_iff_eq]; omega
          have q2 : ((sd' : Int) != (sd' : Int)) = false := by simp
          have q3 : (x == x) = true := by simp
          have hcd : wr.drew.cell? ⟨bk, o + i, none⟩ = some (S x) := hcr
          rw [← hsd'] at HS
          clear hS r' zr tr twr fr
          go_wp2_with fail
          go_cut [78] from 32 to 122 (fun v78 wx => v78 = .bool false ∧ Zk w.heap.size D Z vs 0 (2 * 6) st' wx ∧ Twn T Z ⟨x, (i : Int) + 1 + 1, sd', false⟩ wx ∧ Below w.heap.size w wx)
          case first =>
            go_region_with (first | (go_at_call 78; ((with_reducible refine HS.out.mono ?_); rintro e w5 ⟨rfl, z5, t5, k5⟩; have b5 := tk_below br.drew k5; have hc5 : w5.cell? ⟨bk, o + i, none⟩ = some (S x) := (by rw [b5.cell (p := ⟨bk, o + i, none⟩) (block_lt_of_cell Hc0.out)]; exact Hc0.out))) | (go_at_call 76; ((with_reducible refine (TGen_any T Z _ w5 t5).mono ?_); rintro e w6 ⟨rfl, rfl⟩)) | (go_at_call 77; ((with_reducible refine (TSide_any T Z _ w5 t5).mono ?_); rintro e w6 ⟨rfl, rfl⟩)) | (go_at_call 75; ((with_reducible refine (TText_any T Z _ w5 t5).mono ?_); rintro e w6 ⟨rfl, rfl⟩)))
            all_goals
              go_wp2_with fail
              go_meet
              exact ⟨rfl, z5, t5, b5⟩
          case rest =>
            obtain ⟨rfl, z5, t5, b5⟩ := hcut
            have hlen32 := dk_len z5.disk
            have hl12 : st'.safe.length = 12 := by rw [sl']; exact Slr.out
            have htb := turn_back tw' rfl (isNum_of (by omega) (by omega)) (f60 hlast) (by
              rw [show 1 - (1 - sd) = sd by have := Hsd.out; omega]; exact has')
            simp only at htb
            rw [← hsd', show ((6 : Nat) : Int) = 6 from rfl] at htb
            obtain ⟨tb1, tb2⟩ := htb
            have s5 : IntKind.i64.wrap (6 * (sd' : Int)) = 6 * (sd' : Int) := IntWalk.i64_in _ (by omega)
            have q4 : (last == last) = true := by simp
            have q5 : (((i : Int) + 1) != ((i : Int) + 1)) = false := by simp
            have Tb1 := Lib.hid tb1
            have Tb2 := Lib.hid tb2
            have Hlen := Lib.hid hlen32
            have hBc := b5.size
            have Hl12 := Lib.hid hl12
            have Htw := Lib.hid tw'
            have Hl' := Lib.hid l'
            have Hsd' := Lib.hid hsd'
            clear tb1 tb2 hlen32 has' tw' sl' hl12 l' k' hsd' s1 s3 s4 HS hcd q1 hcr
            go_wp2_with fail
            refine (Image_any w.heap.size D vs st' wc z5.disk).mono ?_
            rintro e w6 ⟨rfl, b6⟩
            go_wp2_with fail
            refine (Of_n w6.heap.size st'.safe Hlen.out (by rw [Hl12.out]; omega) w6 (Nat.le_refl _)).mono ?_
            rintro e w7 ⟨D2, vs2, rfl, hD2, h7, b7⟩
            have b7 := b6.trans (b7.mono b6.size)
            have hx6 := b6.size
            clear b6
            go_wp2_with fail
            refine (ZNew_n w6.heap.size D2 vs2 _ 0 (2 * 6) 0 12 rfl rfl w7 h7 (by omega) (by show 0 + 2 * 6 ≤ st'.safe.length; rw [Hl12.out]; omega) (by simp [Dsk.of])).mono ?_
            rintro e w8 ⟨Z2, rfl, hZ2, z8, b8⟩
            have b8 := b7.trans (b8.mono b7.size)
            clear b7 h7
            have t8 := twn_new t5 b8
            have hx8 := z8.disk
            go_wp2_with fail
            go_cut [98] from 32 to 122 (fun v98 wx => v98 = .bool false ∧ Zk w6.heap.size D2 Z2 vs2 0 (2 * 6) ((Dsk.of st'.safe).zwrote 0 (2 * 6) (6 * (sd' : Int)) zsec) wx ∧ Below wc.heap.size wc wx)
            case first =>
              have mk := run_make32
              have cv := conv_make32
              have cvd := conv_make32d
              have hB6 := dk_size z8.disk
              have hb8 : Below w8.heap.size w8 (w8.alloc (.cells z32cells 5)) := (Below.refl _ _).alloc (Nat.le_refl _) _
              have hW := ZWrite_any w6.heap.size D2 Z2 vs2 0 (2 * 6) (Dsk.of st'.safe) (6 * (sd' : Int)) zsec (w8.alloc (.cells z32cells 5)).drew (zk_drew (z8.new hb8))
              rw [Tb1.out] at hW
              have t8a := twn_new t8 hb8
              have HW := Lib.hid hW
              clear hW
              go_region_with (first | (go_at_call 77; ((first | (with_reducible refine (TSide_any T Z _ w8.drew t8).mono ?_) | (with_reducible refine (TSide_any T Z _ (w8.alloc (.cells z32cells 5)).drew t8a).mono ?_)); rintro e w9 ⟨rfl, rfl⟩)) | (go_at_call 80; ((with_reducible refine HW.out.mono ?_); rintro e w9 ⟨rfl, d9, k9⟩)))
              all_goals
                go_wp2_with fail
                go_meet
                exact ⟨rfl, (zk_drew (z8.new hb8)).step d9 k9 (zwrote_len _ _ _ _ _).1 (Nat.le_trans (zwrote_len (Dsk.of st'.safe) 0 (2 * 6) (6 * (sd' : Int)) zsec).2 (by show 0 + 1 ≤ 1000000; omega)), b8.trans (((hb8.drew.mono hB6).trans k9.below).mono hx6)⟩
            case rest =>
              clear z8 t8 hx8 s5
              obtain ⟨rfl, z9, b9⟩ := hcut
              have z9d := z5.new b9
              have t9d := twn_new t5 b9
              have b9w := b5.trans (b9.mono hBc)
              go_wp2_with fail
              refine (Open_any w6.heap.size D2 Z2 vs2 0 (2 * 6) _ _ z9 zok12.1).mono ?_
              rintro e w10 ⟨U, rfl, hU, u10, b10⟩
              rw [Tb2.out] at u10 ⊢
              have u10b := u10 rfl
              have e3 : topenV 0 U = .tuple #[.pointer (some ⟨U, 0, none⟩), .int .i64 0] := rfl
              rw [e3]
              have z10 := z9d.new b10
              have t10 := twn_new t9d b10
              have b10 := b9w.trans (b10.mono b9w.size)
              have hc10 : w10.cell? ⟨bk, o + i, none⟩ = some (S x) := by rw [b10.cell (p := ⟨bk, o + i, none⟩) (block_lt_of_cell Hc0.out)]; exact Hc0.out
              clear u10 e3 z9 z9d t9d b9 b9w
              go_wp2_with fail
              refine (TText_any U Z2 _ w10 u10b).mono ?_
              rintro e w11 ⟨rfl, rfl⟩
              go_wp2_with fail
              refine (TGen_any U Z2 _ w10 u10b).mono ?_
              rintro e w11 ⟨rfl, rfl⟩
              go_wp2_with fail
              go_roundg (20 - (i + 1))
              case measure => have := Hgk.out; omega
              case rel =>
                refine ⟨i + 1, sd', st', x, by omega, rfl, by omega, by go_num, rfl, by have := Hsd.out; have := Hsd'.out; omega, z10, ?_, ?_, f', Hl'.out, Hl12.out, h60, b10⟩
                · rw [show ((i + 1 : Nat) : Int) + 1 = (i : Int) + 1 + 1 by omega]; exact t10
                · rw [show ((i + 1 : Nat) : Int) + 1 = (i : Int) + 1 + 1 by omega, Hsd'.out]; exact Htw.out
        · have x3 : decide (60 < (x.length : Int)) = true := by simp; omega
          go_wp2_with fail
          go_ret
          exact ⟨rfl, br⟩
      · have x2 : decide ((i : Int) < 20) = false := by simp; omega
        go_wp2_with fail
        go_ret
        exact ⟨rfl, br⟩
    · have x1 : decide (i < ls.length) = false := by simpa using hlt
      go_wp2_with fail
      go_ret
      exact ⟨rfl, br⟩
end Go.Proofs.Ythppdlemchmipaa
