/- (math/bits).RotateLeft32 and sha.schedule compute rotr and sched. -/
import Derived.Test.YthppdlemchmipaaProg
import Derived.Test.YthppdlemchmipaaWords
namespace Go.Proofs.Ythppdlemchmipaa
open Go.RowKit Go.Wd Go.Sha
abbrev Row32 (w : World) (b : Nat) (l : List UInt32) : Prop := Row w b 278 (l.map U32)
def Fill (l : List UInt32) : List UInt32 := l ++ List.replicate (64 - l.length) 0

theorem Fill_length (s : List UInt8) (k : Nat) (h : k ≤ 64) : (Fill (sched s k)).length = 64 := by simp [Fill, sched_length]; omega
theorem Fill_old (s : List UInt8) (k j : Nat) (h : j < k) : (Fill (sched s k)).getD j 0 = (sched s k).getD j 0 := by
  simp [Fill, List.getD, List.getElem?_append, sched_length, h]
theorem Fill_new (s : List UInt8) (k : Nat) (h : k < 64) : (Fill (sched s k)).getD k 0 = 0 := by
  have e : 64 - k = (64 - (k + 1)) + 1 := by omega
  simp [Fill, List.getD, sched_length, e, List.replicate_succ]
theorem Fill_set (s : List UInt8) (k : Nat) (h : k < 64) (x : UInt32) (hx : x = next s (sched s k) k) : (Fill (sched s k)).set k x = Fill (sched s (k + 1)) := by
  have e : 64 - k = (64 - (k + 1)) + 1 := by omega
  simp only [Fill, sched_length, sched, List.length_append, List.length_cons, List.length_nil]
  rw [List.set_append_right _ _ (by simp [sched_length]), sched_length, Nat.sub_self, e, List.replicate_succ, List.set_cons_zero, hx]
  simp

set_option maxHeartbeats 400000 in
theorem rot_any (x : UInt32) (k : Nat) (h0 : 0 < k) (h1 : k < 32) (n : Int) (hn : n = -(k : Int)) (w : World) :
    Calls Try.prog 209 #[U32 x, .int .i64 n] w fun e w' => e = .returned (U32 (rotr x k)) ∧ w = w' := by
  have hm : bits .and .u64 (IntKind.u64.wrap n) 31 = ((32 - k : Nat) : Int) := by
    have := rotmask ⟨k - 1, by omega⟩
    simp only [show k - 1 + 1 = k by omega] at this
    rw [hn, this]; congr 1; omega
  have hs : ∀ K, binOp .sub K (.int .u64 32) (.int .u64 ((32 - k : Nat) : Int)) = pure (.int .u64 (k : Int)) := by
    intro K
    rw [binOp_sub]
    show pure (Value.int .u64 (IntKind.u64.wrap _)) = _
    rw [wrap_u64]; congr 2; omega
  have hk : 32 - k < 32 := by omega
  clear hn
  go_enter Try.func209, Try.ntmps209
  go_wp2
  go_ret
  exact ⟨rfl, rfl⟩
theorem infoW64 : (Try.prog.info? 278).map (·.size) = some 64 := by kernel_rfl
theorem rot_n (x : UInt32) (n : Int) (h : -31 ≤ n ∧ n ≤ -1) (w : World) :
    Calls Try.prog 209 #[U32 x, .int .i64 n] w fun e w' => e = .returned (U32 (rotr x (-n).toNat)) ∧ w = w' :=
  rot_any x (-n).toNat (by omega) (by omega) n (by omega) w
set_option maxRecDepth 100000 in
set_option maxHeartbeats 1000000 in
theorem sched_any (s : List UInt8) (w : World) (hs : s.length = 64) :
    Calls Try.prog 207 #[S s] w fun e w' => e = .returned (.agg ((sched s 64).map U32).toArray) ∧ Below w.heap.size w w' := by
  go_enter Try.func207, Try.ntmps207
  go_wp2
  go_loopw [11] (fun v wr => ∃ k : Nat, k ≤ 16 ∧ v = .int .i64 k ∧ Row32 wr w.heap.size (Fill (sched s k)) ∧ Below w.heap.size w wr) (fun v _ => (16 - (intOf v).toNat))
  case atStart =>
    refine ⟨0, by omega, rfl, ?_, (Below.refl _ _).alloc (Nat.le_refl _) _⟩
    exact heap_alloc_new _ _
  case round =>
    obtain ⟨k, hk, rfl, hr, hb⟩ := hrel
    by_cases hlt : k < 16
    · have Hs := Lib.hid hs
      have hb4 : (4 * (k : Int) + 4) ≤ (s.length : Int) := by omega
      clear hs
      go_wp2_with (refine wpList_bytes_of rfl 9 125 5 (.tmp 20) rfl _ rfl Try.underlying9 Try.underlying125 Try.underlying5 ?_)
      intro c w1 hc hrow hsz hb1
      have hr1 : Row32 w1 w.heap.size (Fill (sched s k)) := hr.mono hb1 hr.lt
      have f0 := hr1.cell32 k (by rw [Fill_length _ _ (by omega)]; omega)
      rw [Fill_new _ _ (by omega)] at f0
      have f1 := hr1.frozen k
      have hl4 : min 4 (s.length - 4 * k) = 4 := by have := Hs.out; omega
      have hl4' : ((s.drop (4*k)).take 4).length = 4 := by have := Hs.out; simp; omega
      rw [hl4] at hc ⊢
      have e0 : w1.cell? ⟨wr.heap.size, 0, none⟩ = some (U8 (s.getD (4*k) 0)) := by
        rw [Lib.cell_of_heap hrow, byteRow_at _ _ _ (by omega)]; simp [List.getD, List.getElem?_drop]
      have e1 : w1.cell? ⟨wr.heap.size, 1, none⟩ = some (U8 (s.getD (4*k+1) 0)) := by
        rw [Lib.cell_of_heap hrow, byteRow_at _ _ _ (by omega)]; simp [List.getD, List.getElem?_drop]
      have e2 : w1.cell? ⟨wr.heap.size, 2, none⟩ = some (U8 (s.getD (4*k+2) 0)) := by
        rw [Lib.cell_of_heap hrow, byteRow_at _ _ _ (by omega)]; simp [List.getD, List.getElem?_drop]
      have e3 : w1.cell? ⟨wr.heap.size, 3, none⟩ = some (U8 (s.getD (4*k+3) 0)) := by
        rw [Lib.cell_of_heap hrow, byteRow_at _ _ _ (by omega)]; simp [List.getD, List.getElem?_drop]
      have hwlt : w.heap.size < wr.heap.size := hr.lt
      clear hrow hc hl4 hl4' hsz
      go_wp2
      refine wp_loop_rounds 5 ?_
      repeat (rw [rounds_succ]; go_wp2)
      go_roundw
      case rel =>
        refine ⟨k + 1, by omega, by go_num, hr1.set32 k _ (Fill_set s k (by omega) _ ?_), (hb.trans (hb1.mono (Nat.le_of_lt hwlt))).setCell (Nat.le_refl _) _⟩
        simp [next, hlt, beN, List.getD]
      case measure => simp [intOf]; omega
    · have e16 : k = 16 := by omega
      rw [e16] at hr
      have K16 := Lib.hid e16
      clear e16
      go_wp2
      go_loopw [6] (fun v wr => ∃ k : Nat, 16 ≤ k ∧ k ≤ 64 ∧ v = .int .i64 k ∧ Row32 wr w.heap.size (Fill (sched s k)) ∧ Below w.heap.size w wr) (fun v _ => (64 - (intOf v).toNat))
      case atStart => exact ⟨16, by omega, by omega, rfl, hr, hb⟩
      case round =>
        clear hr hb
        obtain ⟨k, hk1, hk2, rfl, hr, hb⟩ := hrel
        by_cases hk : k < 64
        · have hlen := Fill_length s k hk2
          have c15 : wr.cell? ⟨w.heap.size, k - 15, none⟩ = some (U32 ((sched s k).getD (k - 15) 0)) := by
            rw [hr.cell32 _ (by omega), Fill_old _ _ _ (by omega)]
          have c2 : wr.cell? ⟨w.heap.size, k - 2, none⟩ = some (U32 ((sched s k).getD (k - 2) 0)) := by
            rw [hr.cell32 _ (by omega), Fill_old _ _ _ (by omega)]
          have c16 : wr.cell? ⟨w.heap.size, k - 16, none⟩ = some (U32 ((sched s k).getD (k - 16) 0)) := by
            rw [hr.cell32 _ (by omega), Fill_old _ _ _ (by omega)]
          have c7 : wr.cell? ⟨w.heap.size, k - 7, none⟩ = some (U32 ((sched s k).getD (k - 7) 0)) := by
            rw [hr.cell32 _ (by omega), Fill_old _ _ _ (by omega)]
          have ck := hr.cell32 k (by omega)
          have fk := hr.frozen k
          have Hl := Lib.hid hlen
          clear hlen hlt
          generalize hx15 : (sched s k).getD (k - 15) 0 = x15 at *
          generalize hx2 : (sched s k).getD (k - 2) 0 = x2 at *
          generalize hx16 : (sched s k).getD (k - 16) 0 = x16 at *
          generalize hx7 : (sched s k).getD (k - 7) 0 = x7 at *
          have H15 := Lib.hid hx15
          have H2 := Lib.hid hx2
          have H16 := Lib.hid hx16
          have H7 := Lib.hid hx7
          clear hx15 hx2 hx16 hx7
          go_wp2_with fail
          go_region
          go_wp2_with (go_at_call 209; ((with_reducible refine (rot_n _ _ (by omega) _).mono ?_); rintro e w' ⟨rfl, rfl⟩))
          go_region
          go_wp2
          go_roundw
          case rel =>
            refine ⟨k + 1, by omega, by omega, by go_num, (Row.set32 (w := wr) hr k _ (Fill_set s k (by omega) _ ?_)), ?_⟩
            · unfold next
              rw [if_neg (by omega), H15.out, H2.out, H16.out, H7.out]
              simp [sig0, sig1]
            · exact ((hb.drew).drew).setCell (Nat.le_refl _) _
          case measure => simp [intOf]; omega
        · have e64 : k = 64 := by omega
          subst e64
          have hF : Fill (sched s 64) = sched s 64 := by simp [Fill, sched_length]
          rw [hF] at hr
          go_upto_region 17 with (fail)
          apply wp_region_lit
          refine wpList_load_row rfl 278 (.tmp 2) rfl w.heap.size rfl 278 _ (0, 0) _ hr Try.underlying278 rfl (by rw [infoW64]; simp [sched_length]) ?_
          refine wpList_store_row rfl 278 (.tmp 2) (.tmp 81) rfl w.heap.size _ rfl rfl 278 _ hr (by rw [infoW64]; simp [sched_length]) rfl (by simp [U32, Value.oneCell']) ?_
          rw [setRow_self _ _ _ _ _ hr]
          go_wp2_with fail
          exact bodyPost_ret (results_cell_row rfl _ _ _ _ _ _ _ rfl hr Try.underlying278 rfl (by rw [infoW64]; simp [sched_length])) rfl ⟨rfl, hb⟩
end Go.Proofs.Ythppdlemchmipaa
