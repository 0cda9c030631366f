/- seal.Get. -/
import Derived.Test.YthppdlemchmipaaSeal4
namespace Go.Proofs.Ythppdlemchmipaa
open Go.RowKit Go.Wd
theorem rowOf_len {ss : List (List UInt8)} {n : Nat} {x : List UInt8 × Int} (h32 : ∀ s ∈ ss, s.length = 32) (h : rowOf ss n = some x) : x.1.length = 28 * n := by
  obtain ⟨h1, _, rfl⟩ := rowOf_inv h
  have : ∀ (l : List (List UInt8)), (∀ s ∈ l, s.length = 32) → (l.flatMap (·.take 28)).length = 28 * l.length := by
    intro l
    induction l with
    | nil => intro _; rfl
    | cons s l ih =>
      intro hl
      have := ih (fun x hx => hl x (by simp [hx]))
      have := hl s (by simp)
      simp only [List.flatMap_cons, List.length_append, List.length_take, List.length_cons]
      omega
  rw [this _ (fun s hs => h32 s (List.mem_of_mem_take hs))]
  simp; omega
theorem rowOf_num {ss : List (List UInt8)} {n : Nat} {x : List UInt8 × Int} (h : rowOf ss n = some x) : x.2 = headNum ss := by
  obtain ⟨_, _, rfl⟩ := rowOf_inv h; rfl
theorem zone_mem32 {B D : Nat} {vs : Value} {st : Dsk} {w : World} (h : Dk B D vs st w) (from' size a : Nat) : ∀ s ∈ st.zone from' size a, s.length = 32 := by
  intro s hs
  unfold Dsk.zone at hs
  exact now32 h s (List.mem_of_mem_drop (List.mem_of_mem_take hs))
def getT (g : List UInt8 × Int × Int) : Value := .tuple #[S g.1, .int .i64 g.2.1, .int .i64 g.2.2]
set_option maxRecDepth 100000 in
set_option maxHeartbeats 4000000 in
theorem Get_nil (at' : Int) (w : World) :
    Calls Try.prog 57 #[.pointer none, .int .i64 at'] w fun e w' => e = .returned (.tuple #[S [], .int .i64 0, .int .i64 2]) ∧ w = w' := by
  go_enter Try.func57, Try.ntmps57
  go_wp2_with fail
  go_ret3
  exact ⟨rfl, rfl⟩
set_option maxRecDepth 100000 in
set_option maxHeartbeats 4000000 in
theorem Get_not (B D Z : Nat) (vs : Value) (from' size : Nat) (st : Dsk) (at' : Int) (w : World) (h : Zk B D Z vs from' size st w) (hE : st.zreadE size at' ≠ 0) :
    Calls Try.prog 57 #[.pointer (some ⟨Z, 0, none⟩), .int .i64 at'] w fun e w' => e = .returned (.tuple #[S [], .int .i64 0, .int .i64 (st.zreadE size at')]) ∧ Below w.heap.size w w' := by
  have hR := ZRead_any B D Z vs from' size st at' w h
  generalize st.zreadE size at' = E at *
  have hne : (E != 0) = true := by simpa using hE
  have HR := Lib.hid hR
  clear hR hE
  go_enter Try.func57, Try.ntmps57
  go_wp2_with fail
  refine HR.out.mono ?_
  rintro e w2 ⟨rfl, hb2⟩
  go_wp2_with fail
  go_ret3
  exact ⟨rfl, hb2⟩
set_option maxRecDepth 100000 in
set_option maxHeartbeats 4000000 in
theorem Get_in (B D Z : Nat) (vs : Value) (from' size : Nat) (st : Dsk) (a : Nat) (w : World) (h : Zk B D Z vs from' size st w) (ha : a < size) (hon : st.away = false) :
    Calls Try.prog 57 #[.pointer (some ⟨Z, 0, none⟩), .int .i64 (a : Int)] w fun e w' => e = .returned (getT (getOf (st.zone from' size a))) ∧ Below w.heap.size w w' := by
  have hR := ZRead_any B D Z vs from' size st (a : Int) w h
  have hE : st.zreadE size (a : Int) = 0 := by unfold Dsk.zreadE; rw [if_neg (by omega), hon]; rfl
  rw [hE] at hR
  have h32 := zone_mem32 h.disk from' size a
  have hrow : ∀ n w1, n ≤ 1000 → 1 ≤ n → Below w.heap.size w w1 → _ := fun n w1 hn hn1 hb => row_any B D Z vs from' size st a n w1 (h.new hb) ha hon hn hn1
  generalize hss : st.zone from' size a = ss at *
  clear hss
  have HR := Lib.hid hR
  have Hrow := Lib.hid hrow
  clear hR hrow hE
  have hrow2 := Hrow.out 2 
  obtain ⟨g, hg⟩ : ∃ g, g = getOf ss := ⟨_, rfl⟩
  rw [← hg]
  unfold getOf at hg
  cases hr2 : rowOf ss 2 with
  | none =>
    rw [hr2] at hg
    simp only at hg
    obtain ⟨q1, q2, q3⟩ := row_none hr2
    rw [q1, q2, q3] at hrow2
    have Hrow2 := Lib.hid hrow2
    have Hg := Lib.hid hg
    clear hrow2 hg q1 q2 q3 hr2
    go_enter Try.func57, Try.ntmps57
    go_wp2_with fail
    refine HR.out.mono ?_
    rintro e w2 ⟨rfl, hb2⟩
    go_wp2_with fail
    refine (Hrow2.out w2 (by omega) (by omega) hb2).mono ?_
    rintro e w3 ⟨rfl, hb3⟩
    go_wp2_with fail
    go_ret3
    rw [Hg.out]
    exact ⟨rfl, hb2.trans (hb3.mono hb2.size)⟩
  | some x =>
    rw [hr2] at hg
    obtain ⟨q1, q2, q3⟩ := row_some hr2
    have hxl := rowOf_len h32 hr2
    obtain ⟨f, nn⟩ := x
    simp only at hg q1 q2 hxl
    rw [q1, q2, q3] at hrow2
    have h32' : (32 : Int) ≤ (f.length : Int) := by omega
    have hf4 : 4 ≤ (f.drop 32).length := by simp; omega
    have hbd := le32_bd (f.drop 32)
    have Hrow2 := Lib.hid hrow2
    clear hrow2 q1 q2 q3
    by_cases hle : le32 (f.drop 32) ≤ 1024
    · rw [if_pos hle] at hg
      obtain ⟨e1, e2, e3⟩ := eye_yes hle
      obtain ⟨sz, hsz⟩ : ∃ sz : Nat, (sz : Int) = le32 (f.drop 32) := ⟨(le32 (f.drop 32)).toNat, by omega⟩
      rw [← hsz] at hg e1 hle
      simp only [Int.toNat_natCast] at hg
      have hs1 := secs_le sz
      have hs2 := secs_two sz
      have hrow3 := Hrow.out (secs sz)
      cases hrm : rowOf ss (secs sz) with
      | none =>
        rw [hrm] at hg
        simp only at hg
        obtain ⟨p1, p2, p3⟩ := row_none hrm
        rw [p1, p2, p3] at hrow3
        have Hrow3 := Lib.hid hrow3
        have Hg := Lib.hid hg
        have He := Lib.hid (And.intro e1 (And.intro e2 e3))
        clear hrow3 hg p1 p2 p3 hrm hr2 e1 e2 e3 hsz hxl hbd
        go_enter Try.func57, Try.ntmps57
        go_wp2_with fail
        refine HR.out.mono ?_
        rintro e w2 ⟨rfl, hb2⟩
        go_wp2_with fail
        refine (Hrow2.out w2 (by omega) (by omega) hb2).mono ?_
        rintro e w3 ⟨rfl, hb3⟩
        have hb3 := hb2.trans (hb3.mono hb2.size)
        go_wp2_with fail
        refine (eye_Of (f.drop 32) w3).mono ?_
        rintro e w4 ⟨rfl, hy, hs4, k4⟩
        have hb4 := hb3.trans (k4.below hb3.size (fun _ _ h => h))
        go_wp2_with fail
        refine (eye_Num w3.heap.size (f.drop 32) 1024 w4 hy hf4).mono ?_
        rintro e w5 ⟨rfl, hy5, k5⟩
        rw [He.out.1]
        rw [He.out.2.1, He.out.2.2] at hy5
        have hb5 := hb4.trans (k5.below hb4.size (fun x hx h => by have := hb3.size; omega))
        go_wp2_with fail
        refine (eye_Err w3.heap.size _ false w5 hy5).mono ?_
        rintro e w6 ⟨rfl, rfl⟩
        go_wp2_with fail
        refine (sectors_any sz w5 (by omega)).mono ?_
        rintro e w6 ⟨rfl, rfl⟩
        go_wp2_with fail
        refine (Hrow3.out w5 (by omega) (by omega) hb5).mono ?_
        rintro e w6 ⟨rfl, hb6⟩
        go_wp2_with fail
        go_ret3
        rw [Hg.out]
        exact ⟨rfl, hb5.trans (hb6.mono hb5.size)⟩
      | some y =>
        rw [hrm] at hg
        have hyl := rowOf_len h32 hrm
        obtain ⟨all, n⟩ := y
        simp only at hg hyl
        obtain ⟨p1, p2, p3⟩ := row_some hrm
        simp only at p1 p2
        rw [p1, p2, p3] at hrow3
        have hal : (36 : Int) + (sz : Int) ≤ (all.length : Int) := by omega
        have hle2 : ((all.drop 36).take sz).length ≤ 1024 := by simp; omega
        have hbytes := fun w1 => bytes_any ((all.drop 36).take sz) w1 hle2
        have hsub : 36 + sz - 36 = sz := by omega
        have Hrow3 := Lib.hid hrow3
        have He := Lib.hid (And.intro e1 (And.intro e2 e3))
        have Hb := Lib.hid hbytes
        clear hrow3 p1 p2 p3 hrm hr2 e1 e2 e3 hsz hxl hbd hbytes hyl
        by_cases hq : sealed ((all.drop 36).take sz) = all
        · rw [if_pos hq] at hg
          have hqq : (sealed ((all.drop 36).take sz) == all) = true := by simpa using hq
          have Hg := Lib.hid hg
          clear hg hq
          go_enter Try.func57, Try.ntmps57
          go_wp2_with fail
          refine HR.out.mono ?_
          rintro e w2 ⟨rfl, hb2⟩
          go_wp2_with fail
          refine (Hrow2.out w2 (by omega) (by omega) hb2).mono ?_
          rintro e w3 ⟨rfl, hb3⟩
          have hb3 := hb2.trans (hb3.mono hb2.size)
          go_wp2_with fail
          refine (eye_Of (f.drop 32) w3).mono ?_
          rintro e w4 ⟨rfl, hy, hs4, k4⟩
          have hb4 := hb3.trans (k4.below hb3.size (fun _ _ h => h))
          go_wp2_with fail
          refine (eye_Num w3.heap.size (f.drop 32) 1024 w4 hy hf4).mono ?_
          rintro e w5 ⟨rfl, hy5, k5⟩
          rw [He.out.1]
          rw [He.out.2.1, He.out.2.2] at hy5
          have hb5 := hb4.trans (k5.below hb4.size (fun x hx h => by have := hb3.size; omega))
          go_wp2_with fail
          refine (eye_Err w3.heap.size _ false w5 hy5).mono ?_
          rintro e w6 ⟨rfl, rfl⟩
          go_wp2_with fail
          refine (sectors_any sz w5 (by omega)).mono ?_
          rintro e w6 ⟨rfl, rfl⟩
          go_wp2_with fail
          refine (Hrow3.out w5 (by omega) (by omega) hb5).mono ?_
          rintro e w6 ⟨rfl, hb6⟩
          have hb6 := hb5.trans (hb6.mono hb5.size)
          go_wp2_with fail
          refine (Hb.out w6).mono ?_
          rintro e w7 ⟨rfl, hb7⟩
          go_wp2_with fail
          go_ret3
          rw [Hg.out]
          exact ⟨rfl, hb6.trans (hb7.mono hb6.size)⟩
        · rw [if_neg hq] at hg
          have hqq : (sealed ((all.drop 36).take sz) == all) = false := by simpa using hq
          have Hg := Lib.hid hg
          clear hg hq
          go_enter Try.func57, Try.ntmps57
          go_wp2_with fail
          refine HR.out.mono ?_
          rintro e w2 ⟨rfl, hb2⟩
          go_wp2_with fail
          refine (Hrow2.out w2 (by omega) (by omega) hb2).mono ?_
          rintro e w3 ⟨rfl, hb3⟩
          have hb3 := hb2.trans (hb3.mono hb2.size)
          go_wp2_with fail
          refine (eye_Of (f.drop 32) w3).mono ?_
          rintro e w4 ⟨rfl, hy, hs4, k4⟩
          have hb4 := hb3.trans (k4.below hb3.size (fun _ _ h => h))
          go_wp2_with fail
          refine (eye_Num w3.heap.size (f.drop 32) 1024 w4 hy hf4).mono ?_
          rintro e w5 ⟨rfl, hy5, k5⟩
          rw [He.out.1]
          rw [He.out.2.1, He.out.2.2] at hy5
          have hb5 := hb4.trans (k5.below hb4.size (fun x hx h => by have := hb3.size; omega))
          go_wp2_with fail
          refine (eye_Err w3.heap.size _ false w5 hy5).mono ?_
          rintro e w6 ⟨rfl, rfl⟩
          go_wp2_with fail
          refine (sectors_any sz w5 (by omega)).mono ?_
          rintro e w6 ⟨rfl, rfl⟩
          go_wp2_with fail
          refine (Hrow3.out w5 (by omega) (by omega) hb5).mono ?_
          rintro e w6 ⟨rfl, hb6⟩
          have hb6 := hb5.trans (hb6.mono hb5.size)
          go_wp2_with fail
          refine (Hb.out w6).mono ?_
          rintro e w7 ⟨rfl, hb7⟩
          go_wp2_with fail
          go_ret3
          rw [Hg.out]
          exact ⟨rfl, hb6.trans (hb7.mono hb6.size)⟩
    · rw [if_neg hle] at hg
      obtain ⟨e1, e2, e3⟩ := eye_no hle
      have Hg := Lib.hid hg
      have He := Lib.hid (And.intro e1 (And.intro e2 e3))
      clear hg hr2 e1 e2 e3 hxl hbd hle
      go_enter Try.func57, Try.ntmps57
      go_wp2_with fail
      refine HR.out.mono ?_
      rintro e w2 ⟨rfl, hb2⟩
      go_wp2_with fail
      refine (Hrow2.out w2 (by omega) (by omega) hb2).mono ?_
      rintro e w3 ⟨rfl, hb3⟩
      have hb3 := hb2.trans (hb3.mono hb2.size)
      go_wp2_with fail
      refine (eye_Of (f.drop 32) w3).mono ?_
      rintro e w4 ⟨rfl, hy, hs4, k4⟩
      have hb4 := hb3.trans (k4.below hb3.size (fun _ _ h => h))
      go_wp2_with fail
      refine (eye_Num w3.heap.size (f.drop 32) 1024 w4 hy hf4).mono ?_
      rintro e w5 ⟨rfl, hy5, k5⟩
      rw [He.out.1]
      rw [He.out.2.1, He.out.2.2] at hy5
      have hb5 := hb4.trans (k5.below hb4.size (fun x hx h => by have := hb3.size; omega))
      go_wp2_with fail
      refine (eye_Err w3.heap.size _ true w5 hy5).mono ?_
      rintro e w6 ⟨rfl, rfl⟩
      go_wp2_with fail
      go_ret3
      rw [Hg.out]
      exact ⟨rfl, hb5⟩
theorem Get_any (B D Z : Nat) (vs : Value) (from' size : Nat) (st : Dsk) (at' : Int) (w : World) (h : Zk B D Z vs from' size st w) :
    Calls Try.prog 57 #[.pointer (some ⟨Z, 0, none⟩), .int .i64 at'] w fun e w' => e = .returned (getT (st.zget from' size at')) ∧ Below w.heap.size w w' := by
  by_cases hE : st.zreadE size at' = 0
  · have h0 : 0 ≤ at' ∧ at' < size ∧ st.away = false := by
      unfold Dsk.zreadE at hE
      split at hE
      · cases hE
      · split at hE
        · cases hE
        · rename_i h1 h2; exact ⟨by omega, by omega, by simpa using h2⟩
    obtain ⟨a, rfl⟩ := Int.eq_ofNat_of_zero_le h0.1
    have e : st.zget from' size (a : Int) = getOf (st.zone from' size a) := by unfold Dsk.zget; rw [if_neg (by omega), if_neg (by simp [h0.2.2])]; rfl
    rw [e]
    exact Get_in B D Z vs from' size st a w h (by omega) h0.2.2
  · have e : st.zget from' size at' = ([], 0, st.zreadE size at') := by
      unfold Dsk.zget Dsk.zreadE at *
      split
      · rfl
      · rename_i hc
        rw [if_neg hc] at hE
        split
        · rfl
        · rename_i hc2; rw [if_neg hc2] at hE; exact absurd rfl hE
    rw [e]
    exact Get_not B D Z vs from' size st at' w h hE
end Go.Proofs.Ythppdlemchmipaa
