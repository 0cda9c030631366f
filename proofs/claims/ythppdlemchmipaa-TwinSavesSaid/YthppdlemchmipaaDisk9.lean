/- package disk: Done, Fuse (and slices.Clone of bools). -/
import Derived.Test.YthppdlemchmipaaZone1
import Derived.WalkSpells
namespace Go.Proofs.Ythppdlemchmipaa
open Go.RowKit Go.Wd
set_option maxHeartbeats 400000 in
theorem Done_any (B D : Nat) (vs : Value) (st : Dsk) (w : World) (h : Dk B D vs st w) :
    Calls Try.prog 91 #[.pointer (some ⟨D, 0, none⟩)] w fun e w' => e = .returned (.int .i64 st.done) ∧ w = w' := by
  obtain ⟨kv, vl, hP⟩ := h
  have c : w.cell? ⟨D, 5, none⟩ = some (.int .i64 st.done) := hP.2.1.cell 5
  clear hP
  go_enter Try.func91, Try.ntmps91
  go_wp2
  go_ret
  exact ⟨rfl, rfl⟩
theorem infoBool : (Try.prog.info? 4).map (fun i => (i.zero, i.size, i.bytes)) = some (some (.bool false), 1, 1) := by kernel_rfl
theorem oneCell_B {l : List Bool} : ∀ v ∈ l.map Value.bool, v.oneCell' = true := by
  intro v hv; obtain ⟨x, _, rfl⟩ := List.mem_map.1 hv; rfl
set_option maxRecDepth 100000 in
set_option maxHeartbeats 2000000 in
theorem Clone_any (kp : Value) (ks : List Bool) (w : World) (hk : Bools w kp ks) (hn : ks.length ≤ 1000000) :
    Calls Try.prog 158 #[kp] w fun e w' => ∃ kv, e = .returned kv ∧ BoolsIn 4 w.heap.size w' kv ks ∧ Below w.heap.size w w' := by
  obtain ⟨i0, hi, hz0, hz1, hz2⟩ := info_parts infoBool
  have heq : ∀ (w : World) (a : Option Addr) (n c : Nat), (binOp .eql 88 (.slice a n c) (.slice none 0 0)).run Try.prog w = .ok (.bool a.isNone) w := fun w a n c => Lib.run_eql_slice_nil w _ _ a n c 0 0 Try.underlying88
  rcases hk with ⟨rfl, rfl⟩ | ⟨a, c, rfl, hc⟩
  · have h0 := heq w none 0 0
    clear heq
    go_enter Try.func158, Try.ntmps158
    go_wp2_with fail
    go_ret
    exact ⟨_, rfl, .inl ⟨rfl, rfl⟩, Below.refl _ _⟩
  · have h0 := heq w (some a) ks.length c
    have H := Lib.hid hc
    clear hc heq
    go_enter Try.func158, Try.ntmps158
    have hown : (w.alloc (.cells #[] 4)).ownsRow w.heap.size 4 1 (.slice (some ⟨w.heap.size, 0, none⟩) 0 0) 0 [] :=
      ⟨rfl, .inr ⟨w.heap.size, 0, #[], rfl, Nat.le_refl _, heap_alloc_new _ _, Nat.le_refl _, Nat.zero_le _, rfl, rfl⟩⟩
    go_wp2_with (at_builtin; refine wpList_append_own _ rfl _ _ 88 rfl w.heap.size 4 i0 (.bool false) 1 1 Try.underlying88 hi hz0 hz1 hz2 rfl (by decide) _ _ _ rfl hown a ks.length c (ks.map Value.bool) rfl ?c0 ?c1 oneCell_B ?c3 ?c4 ?c5 ?_)
    case c0 => simp
    case c1 =>
      intro j u hj
      obtain ⟨b, hb, rfl⟩ : ∃ b, ks[j]? = some b ∧ Value.bool b = u := by simpa using hj
      exact cell_keeps ((Keeps.refl (fun _ => False) w).alloc _) (H.out j b hb) id
    case c3 => unfold maxLen; omega
    case c4 => omega
    case c5 => simp
    intro v' w2 hown2 hgr _
    have hb : Below w.heap.size w w2 := (((Below.refl _ w).alloc (Nat.le_refl _) _).grown hgr (by simp) (fun k hk => by simp [Value.ownBlock] at hk; omega))
    have hown3 : w2.ownsRow w.heap.size 4 1 v' ks.length (ks.map Value.bool) := by simpa using hown2
    clear hgr hown H h0 hown2
    go_wp2_with fail
    go_ret
    refine ⟨v', rfl, ?_, hb⟩
    rcases hown3.2 with ⟨rfl, hn0⟩ | ⟨g, cap, cur, rfl, hg, hh, h1, h2, h3, h4⟩
    · exact .inl ⟨rfl, List.length_eq_zero_iff.1 hn0⟩
    · refine .inr ⟨g, cap, cur, (0, 0), rfl, hg, hh, fun j b hj => ?_⟩
      have hjl : j < ks.length := (List.getElem?_eq_some_iff.1 hj).1
      have : (cur.toList.take (ks.length * 1))[j]? = some (.bool b) := by rw [h4]; simp [hj]
      rw [List.getElem?_take_of_lt (by omega)] at this
      simpa using this
set_option maxRecDepth 100000 in
set_option maxHeartbeats 4000000 in
theorem Fuse_any (B D : Nat) (vs kp : Value) (st : Dsk) (n : Int) (ks : List Bool) (w : World) (h : Dk B D vs st w) (hon : st.away = false) (hk : Bools w kp ks) (h0 : 0 ≤ n) (h1 : n ≤ 9223372036854775807) (hn : ks.length ≤ 1000000) :
    Calls Try.prog 90 #[.pointer (some ⟨D, 0, none⟩), .int .i64 n, kp] w fun e w' => e = .returned (.tuple #[]) ∧ Dk B D vs { st with fuse := n, keep := ks } w' ∧ DKe B D vs w w' := by
  have hBw := dk_size h
  have d1 : ¬ (n < -1) := by omega
  have d2 : ¬ (n ≤ -1) := by omega
  have H0 := h
  go_enter Try.func90, Try.ntmps90
  go_wp2_with fail
  refine (IsOn_any B D vs _ _ H0).mono ?_
  rintro e w' ⟨rfl, rfl⟩
  rw [hon]
  go_wp2_with fail
  refine (Clone_any kp ks w hk hn).mono ?_
  rintro e w1 ⟨kv', rfl, hkv, hb1⟩
  obtain ⟨kv, vl, hP⟩ := dk_new H0 hb1
  have k1 : DKe B D vs w w1 := dke_new hBw hb1
  have hBD := hP.1
  have hkB : BoolsIn dt.bool B w1 kv' ks := by
    rcases hkv with h | ⟨g, cap, cs, fz, rfl, hg, r⟩
    · exact .inl h
    · exact .inr ⟨g, cap, cs, fz, rfl, by omega, r⟩
  have hp1 := DiskP.setD hP (st' := { st with fuse := n }) 1 (.int .i64 n) rfl rfl rfl rfl (by show -1 ≤ n; omega) h1
  have hkB1 : BoolsIn dt.bool B (w1.setCell ⟨D, 1, none⟩ (.int .i64 n)) kv' ks := by
    rcases hkB with h | ⟨g, cap, cs, fz, rfl, hg, hgg, r⟩
    · exact .inl h
    · refine .inr ⟨g, cap, cs, fz, rfl, hg, ?_, r⟩
      rw [Below.heap_setCell _ _ _ _ (fun e => ?_)]
      · exact hgg
      · subst e
        have hr := hP.2.1
        unfold Row at hr
        rw [hgg] at hr
        injection hr with hr
        injection hr with _ hr _
        exact absurd hr (by decide)
  have hp2 := DiskP.setG hp1 (kv' := kv') (vl' := vl) (st' := { st with fuse := n, keep := ks }) 2 kv' rfl hp1.2.2.1 hkB1 rfl hp1.2.2.2.2.2.1 (by show -1 ≤ n; omega) h1
  have hd2 := (k1.setD hBD 1 (.int .i64 n)).setD hBD 2 kv'
  have c1 : w1.cell? ⟨D, 1, none⟩ = some (.int .i64 st.fuse) := hP.2.1.cell 1
  have c2 : w1.cell? ⟨D, 2, none⟩ = some kv := hP.2.1.cell 2
  have f1 := hP.2.1.frozen 1
  have f2 := hP.2.1.frozen 2
  obtain ⟨q, cc, hkve⟩ : ∃ q cc, kv' = .slice q ks.length cc := by
    rcases hkv with ⟨rfl, rfl⟩ | ⟨g, cap, cs, fz, rfl, _⟩
    · exact ⟨_, _, rfl⟩
    · exact ⟨_, _, rfl⟩
  subst hkve
  clear hkv hkB hkB1 hp1 hP hb1 k1 hon hk H0 h
  go_wp2_with fail
  go_end0
  exact ⟨rfl, ⟨_, _, hp2⟩, hd2⟩
end Go.Proofs.Ythppdlemchmipaa
