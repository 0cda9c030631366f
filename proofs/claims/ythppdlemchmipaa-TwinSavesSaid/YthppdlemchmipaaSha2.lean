/- sha.start, sha.constants, (*sha.sum).add: a block of bytes is added as addBlk says. -/
import Derived.Test.YthppdlemchmipaaProg
import Derived.Test.YthppdlemchmipaaWords
import Derived.Test.YthppdlemchmipaaSha1
namespace Go.Proofs.Ythppdlemchmipaa
open Go.RowKit Go.Wd Go.Sha
def A32 (l : List UInt32) : Value := .agg (l.map U32).toArray

set_option maxRecDepth 100000 in
set_option maxHeartbeats 1000000 in
theorem start_any (w : World) :
    Calls Try.prog 166 #[] w fun e w' => e = .returned (A32 init.list) ∧ Below w.heap.size w w' := by
  go_enter Try.func166, Try.ntmps166
  go_wp2
  refine bodyPost_ret (results_cell_row rfl _ _ w.heap.size 239 (init.list.map U32).toArray (0, 0) _ rfl ?_ Try.underlying239 rfl (by kernel_rfl)) rfl ⟨rfl, ?_⟩
  · exact heap_alloc_new _ _
  · exact (Below.refl _ _).alloc (Nat.le_refl _) _
theorem K64 : (K.map U32).toArray.size = 64 := by decide
set_option maxRecDepth 100000 in
set_option maxHeartbeats 1000000 in
theorem constants_any (w : World) :
    Calls Try.prog 208 #[] w fun e w' => e = .returned (A32 K) ∧ Below w.heap.size w w' := by
  go_enter Try.func208, Try.ntmps208
  go_upto_region 1 with (fail)
  apply wp_region_lit
  refine wpList_build rfl 278 _ rfl (by kernel_rfl) ?_
  have hr : (w.alloc (.cells (List.replicate 64 (Value.int .u32 0)).toArray 278)).heap[w.heap.size]? = some (.cells (List.replicate 64 (Value.int .u32 0)).toArray 278 (0, 0)) := heap_alloc_new _ _
  refine wpList_store_row rfl 278 (.tmp 0) (.tmp 1) rfl w.heap.size (K.map U32).toArray rfl ?hy 278 _ hr (by kernel_rfl) rfl (by simp [U32, Value.oneCell']) ?_
  case hy => kernel_rfl
  go_wp2_with fail
  refine bodyPost_ret (results_cell_row rfl _ _ w.heap.size 278 (K.map U32).toArray (0, 0) _ rfl ?_ Try.underlying278 rfl (by kernel_rfl)) rfl ⟨rfl, ?_⟩
  · exact setRow_heap _ _ _ _ _ _ hr
  · exact ((Below.refl _ _).alloc (Nat.le_refl _) _).trans ⟨rfl, rfl, rfl, by simp, fun k hk => setRow_other _ _ _ _ (by omega)⟩

theorem list_len (s : St) : s.list.length = 8 := rfl
theorem plus_at (s t : St) (j : Nat) (h : j < 8) : (s.plus t).list.getD j 0 = s.list.getD j 0 + t.list.getD j 0 := by
  match j, h with
  | 0, _ | 1, _ | 2, _ | 3, _ | 4, _ | 5, _ | 6, _ | 7, _ => rfl
theorem step_set {α : Type} (p l : List α) (j : Nat) (h : p.length = l.length) (hj : j < l.length) (x : α) (d : α) (hx : x = p.getD j d) :
    (p.take j ++ l.drop j).set j x = p.take (j + 1) ++ l.drop (j + 1) := by
  have hp : j < p.length := by omega
  rw [List.set_append_right _ _ (by simp; omega)]
  have e : j - (p.take j).length = 0 := by simp; omega
  have hg : p.getD j d = p[j] := by simp [List.getD, hp]
  rw [e, List.drop_eq_getElem_cons hj, List.set_cons_zero, List.take_succ_eq_append_getElem hp, hx, hg, List.append_assoc]
  rfl
theorem step_old {α : Type} (p l : List α) (j : Nat) (h : p.length = l.length) (hj : j < l.length) (d : α) : (p.take j ++ l.drop j).getD j d = l.getD j d := by
  have hp : j < p.length := by omega
  have hg : l.getD j d = l[j] := by simp [List.getD, hj]
  rw [hg]
  simp [List.getD, List.getElem?_append, show min j p.length = j by omega, hj]

theorem built8 (a b c d e f g h : UInt32) : Try.prog.built 238 [(0, U32 a), (1, U32 b), (2, U32 c), (3, U32 d), (4, U32 e), (5, U32 f), (6, U32 g), (7, U32 h)] = some #[U32 a, U32 b, U32 c, U32 d, U32 e, U32 f, U32 g, U32 h] := by kernel_rfl
theorem infoU32 : (Try.prog.info? 237).map (·.size) = some 1 := by kernel_rfl
theorem zeroW64 : (Try.prog.info? 278).map (·.zero.map (·.cells)) = some (some ((List.replicate 64 0).map U32).toArray) := by kernel_rfl
set_option maxRecDepth 100000 in
set_option maxHeartbeats 1000000 in
theorem add_any (s : St) (b : Nat) (blk : List UInt8) (w : World) (hl : blk.length = 64) (hr : Row w b 239 (s.list.map U32)) :
    Calls Try.prog 168 #[.pointer (some ⟨b, 0, none⟩), S blk] w fun e w' => e = .returned (.tuple #[]) ∧ Row w' b 239 ((addBlk s blk).list.map U32) ∧ Keeps (· = b) w w' := by
  have hblt := hr.lt
  go_enter Try.func168, Try.ntmps168
  go_wp2_with fail
  refine (sched_any _ _ hl).mono ?_
  rintro e w1 ⟨rfl, hb1⟩
  go_wp2_with fail
  refine (constants_any _).mono ?_
  rintro e w2 ⟨rfl, hb2⟩
  go_wp2_with (with_reducible refine wpl_alloc rfl 278 rfl _ zeroW64 ?_)
  intro w3 r3 s3 k3
  refine wpl_alloc rfl 278 rfl _ zeroW64 ?_
  intro w4 r4 s4 k4
  refine wpl_store rfl 278 (.tmp 4) (.tmp 22) rfl w2.heap.size _ _ ((sched blk 64).map U32) rfl rfl (r3.keeps k4 id) (by rw [infoW64]; simp [sched_length]) (by simp [sched_length]) oneCell_32 ?_
  intro w5 r5 s5 k5
  refine wpl_store rfl 278 (.tmp 5) (.tmp 23) rfl w3.heap.size _ _ (K.map U32) rfl rfl (r4.keeps k5 (by simp only [s3]; omega)) (by rw [infoW64]; rfl) rfl oneCell_32 ?_
  intro w6 r6 s6 k6
  have q : Keeps (fun _ => False) w w6 := by
    have q1 : Keeps (fun _ => False) w w2 := (Keeps.of_new hb1).then (Keeps.of_new hb2)
    have h1 := hb1.size
    have h2 := hb2.size
    exact (((q1.then k3).then k4).trans k5 (fun x hx h => by omega)).trans k6 (fun x hx h => by omega)
  have rw6 : Row w6 w2.heap.size 278 ((sched blk 64).map U32) := r5.keeps k6 (by omega)
  have rb6 : Row w6 b 239 (s.list.map U32) := hr.keeps q id
  have hsz : b < w6.heap.size := rb6.lt
  have hbw : b < w2.heap.size := by have h1 := hb1.size; have h2 := hb2.size; omega
  have hbk : b < w3.heap.size := by omega
  have hwk : w2.heap.size < w3.heap.size := by omega
  generalize w2.heap.size = bw at *
  generalize w3.heap.size = bk at *
  clear k3 k4 k5 k6 r3 r4 r5 s3 s4 s5 s6 hb1 hb2 hr
  have c0 : w6.cell? ⟨b, 0, none⟩ = some (U32 s.a) := rb6.cell 0
  have c1 : w6.cell? ⟨b, 1, none⟩ = some (U32 s.b) := rb6.cell 1
  have c2 : w6.cell? ⟨b, 2, none⟩ = some (U32 s.c) := rb6.cell 2
  have c3 : w6.cell? ⟨b, 3, none⟩ = some (U32 s.d) := rb6.cell 3
  have c4 : w6.cell? ⟨b, 4, none⟩ = some (U32 s.e) := rb6.cell 4
  have c5 : w6.cell? ⟨b, 5, none⟩ = some (U32 s.f) := rb6.cell 5
  have c6 : w6.cell? ⟨b, 6, none⟩ = some (U32 s.g) := rb6.cell 6
  have c7 : w6.cell? ⟨b, 7, none⟩ = some (U32 s.h) := rb6.cell 7
  go_wp2_with fail
  go_quiet (fail)
  go_wp2_with fail
  clear c0 c1 c2 c3 c4 c5 c6 c7
  go_loopw [6, 7, 8, 9, 10, 11, 12, 13, 56] (fun v6 v7 v8 v9 v10 v11 v12 v13 v wr => ∃ k : Nat, k ≤ 64 ∧ v = .int .i64 k ∧ v6 = U32 (rnds (sched blk 64) s k).a ∧ v7 = U32 (rnds (sched blk 64) s k).b ∧ v8 = U32 (rnds (sched blk 64) s k).c ∧ v9 = U32 (rnds (sched blk 64) s k).d ∧ v10 = U32 (rnds (sched blk 64) s k).e ∧ v11 = U32 (rnds (sched blk 64) s k).f ∧ v12 = U32 (rnds (sched blk 64) s k).g ∧ v13 = U32 (rnds (sched blk 64) s k).h ∧ Keeps (fun _ => False) w6 wr) (fun _ _ _ _ _ _ _ _ v _ => (64 - (intOf v).toNat))
  case atStart => exact ⟨0, by omega, rfl, rfl, rfl, rfl, rfl, rfl, rfl, rfl, rfl, (Keeps.refl _ _).drewN _⟩
  case round =>
    obtain ⟨k, hk, rfl, rfl, rfl, rfl, rfl, rfl, rfl, rfl, rfl, hq⟩ := hrel
    have hst : rnds (sched blk 64) s (k + 1) = rnd (rnds (sched blk 64) s k) (K.getD k 0) ((sched blk 64).getD k 0) := rfl
    have hsE : k = 64 → rnds (sched blk 64) s k = rnds (sched blk 64) s 64 := fun e => by rw [e]
    have Hst := Lib.hid hst
    have HsE := Lib.hid hsE
    clear hst hsE
    generalize rnds (sched blk 64) s k = st at *
    by_cases hlt : k < 64
    · have ck : wr.cell? ⟨bk, k, none⟩ = some (U32 (K.getD k 0)) := (r6.keeps hq id).cell32 k (by simpa [K] using hlt)
      have cw : wr.cell? ⟨bw, k, none⟩ = some (U32 ((sched blk 64).getD k 0)) := (rw6.keeps hq id).cell32 k (by simpa [sched_length] using hlt)
      generalize K.getD k 0 = kk at *
      generalize (sched blk 64).getD k 0 = ww at *
      have e0 : (0 : Int) ≤ (k : Int) := by omega
      have e1 : (k : Int) < 64 := by omega
      go_wp2_with (go_at_call 209; ((with_reducible refine (rot_n _ _ (by omega) _).mono ?_); rintro e w' ⟨rfl, rfl⟩))
      go_quiet (fail)
      go_wp2_with (go_at_call 209; ((with_reducible refine (rot_n _ _ (by omega) _).mono ?_); rintro e w' ⟨rfl, rfl⟩))
      go_roundw
      case rel =>
        refine ⟨k + 1, by omega, by go_num, ?_, ?_, ?_, ?_, ?_, ?_, ?_, ?_, ?_⟩
        all_goals (try rw [Hst.out])
        all_goals (first | rfl | exact hq.drewN _)
      case measure => simp [intOf]; omega
    · have hk64 : k = 64 := by omega
      have hst64 := HsE.out hk64
      subst hst64
      have HkE := Lib.hid hk64
      clear hk64 HsE Hst
      generalize hst : rnds (sched blk 64) s 64 = st at *
      have Hst := Lib.hid hst
      clear hst
      go_wp2_with fail
      have rb : Row wr b 239 (s.list.map U32) := rb6.keeps hq id
      have qq : Keeps (fun _ => False) w wr := q.then hq
      clear rw6 r6 q hq rb6 hlt hsz
      go_loopw [130] (fun v wt => ∃ j : Nat, j ≤ 8 ∧ v = .int .i64 j ∧ Row wt b 239 (((s.plus st).list.take j ++ s.list.drop j).map U32) ∧ Keeps (· = b) w wt) (fun v _ => (8 - (intOf v).toNat))
      case atStart => exact ⟨0, by omega, rfl, by simpa using rb, qq.weak (fun _ _ h => h.elim)⟩
      case round =>
        clear rb qq
        obtain ⟨j, hj, rfl, hrow, hkp⟩ := hrel
        have hplen : (s.plus st).list.length = s.list.length := (list_len _).trans (list_len _).symm
        have hlen : s.list.length = 8 := list_len s
        by_cases hlt : j < 8
        · have cj := hrow.cell32 j (by rw [List.length_append, List.length_take, List.length_drop]; omega)
          rw [step_old _ _ _ hplen (by omega)] at cj
          have fj := hrow.frozen j
          have hidx : ∀ w, (Instr.index 238 (.agg #[U32 st.a, U32 st.b, U32 st.c, U32 st.d, U32 st.e, U32 st.f, U32 st.g, U32 st.h]) (.int .i64 (j : Int))).run Try.prog w = .ok (U32 (st.list.getD j 0)) w := fun w =>
            index_arr (P := Try.prog) w U32 st.list 0 238 237 Try.underlying238 infoU32 Try.underlying237 rfl .i64 (j : Int) (by omega) (by show (j : Int) < 8; omega)
          have hset := step_set (s.plus st).list s.list j hplen (by omega) (s.list.getD j 0 + st.list.getD j 0) 0 (plus_at s st j hlt).symm
          have Hset := Lib.hid hset
          clear hset hplen hlen
          generalize s.list.getD j 0 = x at *
          generalize st.list.getD j 0 = y at *
          go_wp2_with fail
          go_region
          go_wp2_with fail
          go_roundw
          case rel => exact ⟨j + 1, by omega, by go_num, Row.set32 (w := wr.drew) hrow j _ Hset.out, (hkp.drew).setCell (fun _ => rfl) _⟩
          case measure => simp [intOf]; omega
        · have e8 : j = 8 := by omega
          rw [e8] at hrow
          go_wp2_with fail
          refine bodyPost_end (results_none rfl _ _ _) rfl ⟨rfl, ?_, hkp⟩
          have : (s.plus st).list.take 8 ++ s.list.drop 8 = (addBlk s blk).list := by rw [addBlk, Hst.out]; rfl
          rw [← this]; exact hrow
end Go.Proofs.Ythppdlemchmipaa
