/- sha.Of, sha.Pair, sha.Tree. -/
import Derived.Test.YthppdlemchmipaaSha3
import Derived.Test.YthppdlemchmipaaWords2
namespace Go.Proofs.Ythppdlemchmipaa
open Go.RowKit Go.Wd Go.Sha

theorem zeroSum : (Try.prog.info? 239).map (·.zero.map (·.cells)) = some (some ((List.replicate 8 0).map U32).toArray) := by kernel_rfl
theorem infoSum : (Try.prog.info? 239).map (·.size) = some 8 := by kernel_rfl
theorem zeroD : (Try.prog.info? 24).map (·.zero.map (·.cells)) = some (some ((List.replicate 32 0).map U8).toArray) := by kernel_rfl
theorem infoD : (Try.prog.info? 24).map (·.size) = some 32 := by kernel_rfl
theorem pad_length (l : List UInt8) : (pad l).length = 64 * ((pad l).length / 64) := by
  have : (pad l).length = l.length + 1 + zeros l.length + 8 := by simp [pad, be64_length]; omega
  rw [this]; unfold zeros; omega
theorem blocks0 (s : St) (t : List UInt8) : blocks 0 t s = s := chunkFold_zero _ _ _
theorem blocks1 (g : Nat) (s : St) (t : List UInt8) : blocks (g + 1) t s = blocks g (t.drop 64) (addBlk s (t.take 64)) := chunkFold_succ _ _ _ _
theorem Hid_mk {p : Prop} (h : p) : Hid p := h
theorem out_snoc (s : St) (i : Nat) : ((List.range i).map (outAt s) ++ List.replicate (32 - i) 0).length = i + (32 - i) := by simp
theorem outAt_eq (s : St) (i : Nat) : (s.list[i / 4]?.getD 0 >>> UInt32.ofNat (24 - 8 * (i % 4))).toUInt8 = outAt s i := by unfold outAt; rfl
theorem out_set (s : St) (i : Nat) (h : i < 32) : ((List.range i).map (outAt s) ++ List.replicate (32 - i) 0).set i (outAt s i) = (List.range (i + 1)).map (outAt s) ++ List.replicate (32 - (i + 1)) 0 := by
  have e : 32 - i = (32 - (i + 1)) + 1 := by omega
  rw [List.set_append_right _ _ (by simp)]
  simp only [List.length_map, List.length_range, Nat.sub_self]
  rw [e, List.replicate_succ, List.set_cons_zero, List.range_succ, List.map_append, List.append_assoc]
  rfl

set_option maxRecDepth 100000 in
set_option maxHeartbeats 2000000 in
theorem Of_any (v : Value) (ls : List (List UInt8)) (w : World) (h : SlS w v ls) (hN : ls.length ≤ 140737488355328) (hl : ls.flatten.length ≤ 140737488355000) :
    Calls Try.prog 99 #[v] w fun e w' => e = .returned (D (sha ls.flatten)) ∧ Below w.heap.size w w' := by
  go_enter Try.func99, Try.ntmps99
  go_wp2_with (with_reducible refine wpl_alloc rfl 24 rfl _ zeroD ?_)
  intro w1 r1 s1 k1
  go_wp2_with fail
  refine (start_any _).mono ?_
  rintro e w2 ⟨rfl, hb2⟩
  go_wp2_with (with_reducible refine wpl_alloc rfl 239 rfl _ zeroSum ?_)
  intro w3 r3 s3 k3
  refine wpl_store rfl 239 (.tmp 3) (.tmp 7) rfl w2.heap.size _ _ (init.list.map U32) rfl rfl r3 (by rw [infoSum, List.length_map, list_len]) (by simp [list_len]) oneCell_32 ?_
  intro w4 r4 s4 k4
  have hs2 := hb2.size
  have q : Keeps (fun _ => False) w w4 := ((k1.then (Keeps.of_new hb2)).then k3).trans k4 (fun x hx h => by omega)
  have r1' : Row w4 w.heap.size 24 ((List.replicate 32 0).map U8) := (r1.mono hb2 (by omega)).keeps k3 id |>.keeps k4 (by omega)
  have hlt : w.heap.size < w2.heap.size := by omega
  generalize w2.heap.size = sb at *
  clear k1 k3 k4 r1 r3 s1 s3 s4 hb2 hs2
  have hq : Below w.heap.size w w4 := q.below (Nat.le_refl _) (fun _ _ h => h)
  go_wp2_with fail
  refine (Join_any _ _ _ (h.below hq) hN (by omega)).mono ?_
  rintro e w5 ⟨rfl, hb5⟩
  go_wp2_with fail
  refine (padded_any _ _ hl).mono ?_
  rintro e w6 ⟨rfl, hb6⟩
  have r6 : Row w6 sb 239 (init.list.map U32) := (r4.mono hb5 r4.lt).mono hb6 (Nat.lt_of_lt_of_le r4.lt hb5.size)
  have t6 : Row w6 w.heap.size 24 ((List.replicate 32 0).map U8) := (r1'.mono hb5 r1'.lt).mono hb6 (Nat.lt_of_lt_of_le r1'.lt hb5.size)
  have q6 : Below w.heap.size w w6 := (hq.trans (hb5.mono hq.size)).trans (hb6.mono (Nat.le_trans hq.size hb5.size))
  clear r4 r1' hb5 hb6 hq q h
  have hpl := pad_length ls.flatten
  have hsha : sha ls.flatten = out (blocks ((pad ls.flatten).length / 64) (pad ls.flatten) init) := rfl
  have Hsha := Lib.hid hsha
  clear hsha hl hN
  generalize (pad ls.flatten).length / 64 = N at *
  generalize pad ls.flatten = T at *
  go_wp2_with fail
  go_loopg [4] N (fun g v wr => ∃ (t : List UInt8) (s : St), t.length = 64 * g ∧ v = S t ∧ blocks N T init = blocks g t s ∧ Row wr sb 239 (s.list.map U32) ∧ Row wr w.heap.size 24 ((List.replicate 32 0).map U8) ∧ Below w.heap.size w wr)
  case atStart => exact ⟨T, init, hpl, rfl, rfl, r6, t6, q6⟩
  case round =>
    clear hpl r6 t6 q6
    obtain ⟨t, s, ht, rfl, hbl, hr, hd, hq⟩ := hrel
    have Hbl := Lib.hid hbl
    clear hbl
    by_cases h0 : gk = 0
    · subst h0
      obtain rfl : t = [] := List.length_eq_zero_iff.1 (by omega)
      have Hf : Hid (sha ls.flatten = out s) := Hid_mk ((Hsha.out).trans (congrArg out (Hbl.out.trans (blocks0 s []))))
      clear Hsha Hbl ht
      have hnil : (([] : List UInt8) == []) = true := rfl
      go_wp2_with (with_reducible refine wpl_alloc rfl 24 rfl _ zeroD ?_)
      intro w7 r7 s7 k7
      have hr7 := hr.keeps k7 id
      have hd7 := hd.keeps k7 id
      have hq7 : Below w.heap.size w w7 := hq.trans (k7.below hq.size (fun _ _ h => h))
      have hob : sb ≠ wr.heap.size := Nat.ne_of_lt hr.lt
      have hod : w.heap.size < wr.heap.size := hd.lt
      clear hr hd hq k7 s7
      generalize wr.heap.size = ob at *
      go_wp2_with fail
      go_loopg [18] 32 (fun g v wr => ∃ i : Nat, i ≤ 32 ∧ g = 32 - i ∧ v = .int .i64 i ∧ Row wr ob 24 (((List.range i).map (outAt s) ++ List.replicate (32 - i) 0).map U8) ∧ Row wr sb 239 (s.list.map U32) ∧ Row wr w.heap.size 24 ((List.replicate 32 0).map U8) ∧ Below w.heap.size w wr)
      case atStart => exact ⟨0, by omega, rfl, rfl, r7, hr7, hd7, hq7⟩
      case round =>
        clear r7 hr7 hd7 hq7
        obtain ⟨i, hi, hg, rfl, ro, hr, hd, hq⟩ := hrel
        have Hg := Lib.hid hg
        clear hg
        by_cases hlt2 : i < 32
        · have cq : wr.cell? ⟨sb, i / 4, none⟩ = some (U32 (s.list.getD (i / 4) 0)) := hr.cell32 _ (by rw [list_len]; omega)
          have co := ro.cell8 i (by rw [out_snoc]; omega)
          have fo := ro.frozen i
          have hsh : ∀ T x, binOp .shr T (U32 x) (.int .i64 (24 - 8 * ((i : Int) % 4))) = pure (U32 (x >>> (24 - 8 * (i % 4)).toUInt32)) := fun T x => by
            have := shr32 T x .i64 (24 - 8 * (i % 4)) (by omega)
            rw [← this]; congr 2; omega
          have hset := out_set s i hlt2
          have Hset := Lib.hid hset
          have hnn : ((24 : Int) - 8 * ((i : Int) % 4)) ≤ 24 := by omega
          clear hset
          go_wp2_with fail
          go_roundg (32 - (i + 1))
          case measure => have := Hg.out; omega
          case rel =>
            refine ⟨i + 1, by omega, rfl, by go_num, Row.set8 ro i _ ?_, hr.keeps (F := (· = ob)) ((Keeps.refl (· = ob) wr).setCell (fun _ => rfl) _) (by omega), hd.keeps (F := (· = ob)) ((Keeps.refl (· = ob) wr).setCell (fun _ => rfl) _) (by omega), hq.setCell (p := ⟨ob, i, none⟩) (Nat.le_of_lt hod) _⟩
            rw [outAt_eq]; exact Hset.out
        · have e32 : i = 32 := by omega
          rw [e32] at ro
          have ro' : Row wr ob 24 ((out s).map U8) := by simpa [out] using ro
          clear ro Hg e32
          go_upto_region 12 with (fail)
          apply wp_region_lit
          refine wpl_load rfl 24 (.tmp 5) rfl ob _ _ rfl ro' Try.underlying24 rfl (by rw [infoD]; simp [out]) ?_
          refine wpl_store rfl 24 (.tmp 2) (.tmp 34) rfl w.heap.size _ _ ((out s).map U8) rfl rfl hd (by rw [infoD]; simp [out]) (by simp [out]) oneCell_8 ?_
          intro w8 r8 s8 k8
          go_wp2_with fail
          have hfin : Below w.heap.size w w8 := hq.trans (k8.below hq.size (fun x hx (e : x = _) => by omega))
          refine bodyPost_ret (results_cell_row rfl _ _ w.heap.size 24 ((out s).map U8).toArray (0, 0) _ rfl r8 Try.underlying24 rfl (by rw [infoD]; simp [out])) rfl ⟨congrArg (fun l => Ending.returned (D l)) Hf.out.symm, hfin⟩
    · obtain ⟨g, rfl⟩ : ∃ g, gk = g + 1 := ⟨gk - 1, by omega⟩
      have hne : (t == []) = false := by cases t with | nil => simp at ht | cons => rfl
      have hge : (64 : Int) ≤ (t.length : Int) := by omega
      have htk : (t.take 64).length = 64 := by simp; omega
      have htd : (t.drop 64).length = 64 * g := by simp; omega
      have Htk := Lib.hid htk
      have Htd := Lib.hid htd
      clear htk htd ht
      go_wp2_with fail
      refine (add_any s sb (t.take 64) _ Htk.out hr).mono ?_
      rintro e w7 ⟨rfl, hr7, hk7⟩
      have hd7 := hd.keeps hk7 (by omega)
      have hq7 : Below w.heap.size w w7 := hq.trans (hk7.below hq.size (fun x hx (e : x = _) => by omega))
      go_wp2_with fail
      go_roundg g
      case measure => omega
      case rel => exact ⟨t.drop 64, addBlk s (t.take 64), Htd.out, rfl, Hbl.out.trans (blocks1 g s t), hr7, hd7, hq7⟩
end Go.Proofs.Ythppdlemchmipaa
