/- seal.row. -/
import Derived.Test.YthppdlemchmipaaSeal3
import Derived.Test.YthppdlemchmipaaEye
import Derived.Test.YthppdlemchmipaaModel4
namespace Go.Proofs.Ythppdlemchmipaa
open Go.RowKit Go.Wd
def rowT (ss : List (List UInt8)) (n : Nat) : List UInt8 := match rowOf ss n with | none => [] | some x => x.1
def rowN (ss : List (List UInt8)) (n : Nat) : Int := match rowOf ss n with | none => 0 | some x => x.2
def rowE (ss : List (List UInt8)) (n : Nat) : Int := match rowOf ss n with | none => 5 | some _ => 0
theorem row_none {ss : List (List UInt8)} {n : Nat} (h : rowOf ss n = none) : rowT ss n = [] ∧ rowN ss n = 0 ∧ rowE ss n = 5 := by simp [rowT, rowN, rowE, h]
theorem row_some {ss : List (List UInt8)} {n : Nat} {x : List UInt8 × Int} (h : rowOf ss n = some x) : rowT ss n = x.1 ∧ rowN ss n = x.2 ∧ rowE ss n = 0 := by simp [rowT, rowN, rowE, h]
theorem now32 {B D : Nat} {vs : Value} {st : Dsk} {w : World} (h : Dk B D vs st w) : ∀ s ∈ st.now, s.length = 32 := by
  have hs := dk_len h
  have hl := dk_loose h
  have : ∀ (l : List (Nat × List UInt8)) (s : List (List UInt8)), (∀ x ∈ s, x.length = 32) → (∀ p ∈ l, p.2.length = 32) → ∀ x ∈ allRows s l, x.length = 32 := by
    intro l
    induction l with
    | nil => intro s h1 _; exact h1
    | cons p l ih =>
      intro s h1 h2
      refine ih (s.set p.1 p.2) (fun x hx => ?_) (fun q hq => h2 q (by simp [hq]))
      rcases List.mem_or_eq_of_mem_set hx with h | rfl
      · exact h1 x h
      · exact h2 p (by simp)
  exact this st.loose st.safe hs (fun p hp => (hl p hp).2)
theorem zone_len (st : Dsk) (from' size a : Nat) (hf : from' + size ≤ st.safe.length) : (st.zone from' size a).length = size - a := by
  unfold Dsk.zone; simp [now_length]; omega
theorem zone_get (st : Dsk) (from' size a k : Nat) (hf : from' + size ≤ st.safe.length) (hk : a + k < size) : (st.zone from' size a)[k]? = some (st.now.getD (from' + (a + k)) []) := by
  rw [zone_at st from' size a k (by omega), Nat.add_assoc]
  simp only [List.getD]
  rw [List.getElem?_eq_getElem (by rw [now_length]; omega)]; rfl
theorem flat28 : ∀ (l : List (List UInt8)), (l.flatMap (·.take 28)).length ≤ 28 * l.length
  | [] => by simp
  | x :: l => by have := flat28 l; simp only [List.flatMap_cons, List.length_append, List.length_take, List.length_cons]; omega
theorem take_snoc_flat (ss : List (List UInt8)) (k : Nat) (s : List UInt8) (h : ss[k]? = some s) : (ss.take (k + 1)).flatMap (·.take 28) = (ss.take k).flatMap (·.take 28) ++ s.take 28 := by
  rw [List.take_add_one, h]; simp
def headNum (ss : List (List UInt8)) : Int := numOf (ss.headD [])
def numAt (ss : List (List UInt8)) (k : Nat) : Int := if k = 0 then 0 else headNum ss
theorem numAt_zero (ss : List (List UInt8)) : numAt ss 0 = 0 := rfl
theorem numAt_pos (ss : List (List UInt8)) {k : Nat} (h : k ≠ 0) : numAt ss k = headNum ss := if_neg h
set_option maxRecDepth 100000 in
set_option maxHeartbeats 4000000 in
theorem row_any (B D Z : Nat) (vs : Value) (from' size : Nat) (st : Dsk) (a n : Nat) (w : World) (h : Zk B D Z vs from' size st w) (ha : a < size) (hon : st.away = false) (hn : n ≤ 1000) (hn1 : 1 ≤ n) :
    Calls Try.prog 124 #[.pointer (some ⟨Z, 0, none⟩), .int .i64 (a : Int), .int .i64 (n : Int)] w fun e w' => e = .returned (.tuple #[S (rowT (st.zone from' size a) n), .int .i64 (rowN (st.zone from' size a) n), .int .i64 (rowE (st.zone from' size a) n)]) ∧ Below w.heap.size w w' := by
  have hsm := h.small
  have hzl := zone_len st from' size a h.fit
  have hzg := fun k hk => zone_get st from' size a k h.fit hk
  have hn32 := now32 h.disk
  generalize hss : st.zone from' size a = ss at *
  have Hzl := Lib.hid hzl
  have Hzg := Lib.hid hzg
  have Hn32 := Lib.hid hn32
  have Hon := Lib.hid hon
  clear hzl hzg hn32 hss hon
  go_enter Try.func124, Try.ntmps124
  go_wp2_with (with_reducible refine wpl_alloc rfl 176 rfl _ zeroBld ?_)
  intro w1 r1 s1 k1
  have h1 : Bl 176 [] w.heap.size w.heap.size [] w1 := BldP.fresh (Nat.le_refl _) (by decide) r1
  have b1 : Below w.heap.size w w1 := k1.below (Nat.le_refl _) (fun _ _ h => h)
  clear s1 r1 k1
  go_wp2_with fail
  go_loopg [10, 16] n (fun gk v10 v16 wr => ∃ k : Nat, k ≤ n ∧ gk = n - k ∧ a + k ≤ size ∧ v16 = .int .i64 k ∧ v10 = .int .i64 (numAt ss k) ∧ (∀ j s, j < k → ss[j]? = some s → isNum (numOf s) = true ∧ numOf s = headNum ss) ∧ Bl 176 [] w.heap.size w.heap.size ((ss.take k).flatMap (·.take 28)) wr ∧ Below w.heap.size w wr)
  case atStart => exact ⟨0, by omega, by omega, by omega, rfl, rfl, fun j s hj => by omega, by simpa using h1, b1⟩
  case round =>
    clear h1 b1
    obtain ⟨k, hk, hg, hak, rfl, rfl, hall, hb, hB⟩ := hrel
    have Hg := Lib.hid hg
    have Hall := Lib.hid hall
    have hsz := hB.size
    have hZ := h.new hB
    have hbl : ((ss.take k).flatMap (·.take 28)).length ≤ 28000 := by
      have := flat28 (ss.take k)
      have : (ss.take k).length ≤ k := by simp; omega
      omega
    clear hg hall
    by_cases hlt : k < n
    · have hR := ZRead_any B D Z vs from' size st ((a : Int) + (k : Int)) wr hZ
      by_cases hin : a + k < size
      · have hE : st.zreadE size ((a : Int) + (k : Int)) = 0 := by unfold Dsk.zreadE; rw [if_neg (by omega), Hon.out]; rfl
        have hV : st.zreadV from' size ((a : Int) + (k : Int)) = st.now.getD (from' + (a + k)) [] := by unfold Dsk.zreadV; rw [if_pos hE]; congr 1
        rw [hE, hV] at hR
        have hg := Hzg.out k hin
        have hs32 : (st.now.getD (from' + (a + k)) []).length = 32 := by
          have : from' + (a + k) < st.now.length := by rw [now_length]; have := h.fit; omega
          simp only [List.getD, List.getElem?_eq_getElem this, Option.getD_some]
          exact Hn32.out _ (List.getElem_mem this)
        generalize st.now.getD (from' + (a + k)) [] = s at *
        have hnum : eyeN (s.drop 28) 2147483647 = numOf s := by unfold numOf; rfl
        have hd4 : 4 ≤ (s.drop 28).length := by simp; omega
        have h28 : (28 : Int) ≤ (s.length : Int) := by omega
        have hrange := numOf_range s
        have HR := Lib.hid hR
        have Hnum := Lib.hid hnum
        have Hs := Lib.hid hg
        have hk28 : (s.take 28).length ≤ 28 := by simp; omega
        clear hR hE hV hg hnum hs32
        go_wp2_with fail
        (with_reducible refine HR.out.mono ?_)
        rintro e w2 ⟨rfl, hb2⟩
        have hp2 := hb.keeps (Keeps.of_new hb2)
        have hB2 := hB.trans (hb2.mono hsz)
        clear HR hb2 hb hB
        go_wp2_with fail
        (with_reducible refine (eye_Of (s.drop 28) w2).mono ?_)
        rintro e w3 ⟨rfl, hy, hs3, k3⟩
        have hp3 := hp2.keeps k3
        have hB3 := hB2.trans (k3.below hB2.size (fun _ _ h => h))
        have hylt : w.heap.size ≤ w2.heap.size := hB2.size
        go_wp2_with fail
        refine (eye_Num w2.heap.size (s.drop 28) 2147483647 w3 hy hd4).mono ?_
        rintro e w4 ⟨rfl, hy4, k4⟩
        rw [Hnum.out]
        have hne : w.heap.size ≠ w2.heap.size := by have := hp2.lt; omega
        have k34 : Keeps (fun _ => False) w2 w4 := k3.trans k4 (fun x hx h => by omega)
        have hp4 := hp2.keeps k34
        have hB4 := hB2.trans (k34.below hylt (fun _ _ h => h))
        clear hp3 hB3 hy hs3 k3 k4 k34 hy4 hp2 hB2
        have hbad : ∀ m : Int, (isNum m = false ∨ (k ≠ 0 ∧ m ≠ headNum ss)) → numOf s = m → rowOf ss n = none := by
          intro m hm he
          refine rowOf_none_bad k s hlt Hs.out ?_
          show isNum (numOf s) = false ∨ numOf s ≠ headNum ss
          rw [he]
          rcases hm with hm | hm
          · exact .inl hm
          · exact .inr hm.2
        have Hbad := Lib.hid hbad
        clear hbad
        by_cases hk0 : k = 0
        · subst hk0
          have hhead : ss.headD [] = s := by rw [headD_at, Hs.out]; rfl
          have hhead : headNum ss = numOf s := by unfold headNum; rw [hhead]
          have Hhead := Lib.hid hhead
          clear hhead
          rw [numAt_zero]
          go_wp2_with fail
          refine (isNumber_any (numOf s) w4).mono ?_
          rintro e w5 ⟨rfl, rfl⟩
          cases hi : isNum (numOf s) with
          | false =>
            have hfin := row_none (Hbad.out (numOf s) (.inl hi) rfl)
            have Hfin := Lib.hid hfin
            clear hfin
            go_wp2_with fail
            go_ret3
            rw [Hfin.out.1, Hfin.out.2.1, Hfin.out.2.2]
            exact ⟨rfl, hB4⟩
          | true =>
            have hqq : (numOf s != numOf s) = false := by simp
            have hst := take_snoc_flat ss 0 s Hs.out
            have Hst := Lib.hid hst
            have hi' := Lib.hid hi
            clear hst hi
            go_wp2_with fail
            refine (WriteString_any 176 [] w.heap.size w.heap.size _ (s.take 28) w4 bldT_alone hp4 (by omega) hB4.size).mono ?_
            rintro e w5 ⟨rfl, hp5, k5⟩
            have hB5 := hB4.trans k5.below
            rw [← Hst.out] at hp5
            clear hp4 hB4 k5
            go_wp2_with fail
            go_roundg (n - (0 + 1))
            case measure => have := Hg.out; omega
            case rel =>
              refine ⟨0 + 1, by omega, rfl, by omega, rfl, ?_, fun j x hj hx => ?_, hp5, hB5⟩
              · rw [numAt_pos ss (by omega), Hhead.out]
              · obtain rfl : j = 0 := by omega
                rw [Hs.out] at hx; injection hx with hx; subst hx
                rw [Hhead.out]; exact ⟨hi'.out, rfl⟩
        · have hk0' : ((k : Int) == 0) = false := by simp; omega
          rw [numAt_pos ss hk0]
          go_wp2_with fail
          refine (isNumber_any (numOf s) w4).mono ?_
          rintro e w5 ⟨rfl, rfl⟩
          cases hi : isNum (numOf s) with
          | false =>
            have hfin := row_none (Hbad.out (numOf s) (.inl hi) rfl)
            have Hfin := Lib.hid hfin
            clear hfin
            go_wp2_with fail
            go_ret3
            rw [Hfin.out.1, Hfin.out.2.1, Hfin.out.2.2]
            exact ⟨rfl, hB4⟩
          | true =>
            by_cases he : numOf s = headNum ss
            · have hqq : (numOf s != headNum ss) = false := by simp [he]
              have hst := take_snoc_flat ss k s Hs.out
              have Hst := Lib.hid hst
              have hi' := Lib.hid hi
              have He := Lib.hid he
              clear hst hi he
              go_wp2_with fail
              refine (WriteString_any 176 [] w.heap.size w.heap.size _ (s.take 28) w4 bldT_alone hp4 (by omega) hB4.size).mono ?_
              rintro e w5 ⟨rfl, hp5, k5⟩
              have hB5 := hB4.trans k5.below
              rw [← Hst.out] at hp5
              clear hp4 hB4 k5
              go_wp2_with fail
              go_roundg (n - (k + 1))
              case measure => have := Hg.out; omega
              case rel =>
                refine ⟨k + 1, by omega, rfl, by omega, by go_num, by rw [numAt_pos ss (by omega)], fun j x hj hx => ?_, hp5, hB5⟩
                by_cases hjk : j < k
                · exact Hall.out j x hjk hx
                · obtain rfl : j = k := by omega
                  rw [Hs.out] at hx; injection hx with hx; subst hx
                  exact ⟨hi'.out, He.out⟩
            · have hqq : (numOf s != headNum ss) = true := by simpa using he
              have hfin := row_none (Hbad.out (numOf s) (.inr ⟨hk0, he⟩) rfl)
              have Hfin := Lib.hid hfin
              clear hfin he
              go_wp2_with fail
              go_ret3
              rw [Hfin.out.1, Hfin.out.2.1, Hfin.out.2.2]
              exact ⟨rfl, hB4⟩
      · have hE : st.zreadE size ((a : Int) + (k : Int)) = 3 := by unfold Dsk.zreadE; rw [if_pos (by omega)]
        have hV : st.zreadV from' size ((a : Int) + (k : Int)) = [] := by unfold Dsk.zreadV; rw [if_neg (by rw [hE]; decide)]
        rw [hE, hV] at hR
        have hfin := row_none (rowOf_none_len (ss := ss) (n := n) (by rw [Hzl.out]; omega))
        have HR := Lib.hid hR
        have Hfin := Lib.hid hfin
        clear hR hE hV hfin
        go_wp2_with fail
        refine HR.out.mono ?_
        rintro e w2 ⟨rfl, hb2⟩
        go_wp2_with fail
        go_ret3
        rw [Hfin.out.1, Hfin.out.2.1, Hfin.out.2.2]
        exact ⟨rfl, hB.trans (hb2.mono hsz)⟩
    · obtain rfl : k = n := by omega
      have hfin := row_some (rowOf_some (ss := ss) (n := k) (by rw [Hzl.out]; omega) (fun j s hj hs => Hall.out j s hj hs))
      have Hfin := Lib.hid hfin
      clear hfin
      rw [numAt_pos ss (by omega)]
      go_wp2_with fail
      refine (String_any 176 [] w.heap.size w.heap.size _ wr hb hsz).mono ?_
      rintro e w2 ⟨rfl, hp2, k2⟩
      go_wp2_with fail
      go_ret3
      rw [Hfin.out.1, Hfin.out.2.1, Hfin.out.2.2]
      exact ⟨rfl, hB.trans k2.below⟩
end Go.Proofs.Ythppdlemchmipaa
