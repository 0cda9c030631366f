/- package twin: Save, Format. -/
import Derived.Test.YthppdlemchmipaaTwin1
namespace Go.Proofs.Ythppdlemchmipaa
open Go.RowKit Go.Wd
/-- what a twin's methods leave alone -/
structure TK (B D T : Nat) (vs : Value) (w w' : World) : Prop where
  below : Below B w w'
  others : ∀ k o, k ≠ D → k ≠ T → vs.ownBlock ≠ some k → w.heap[k]? = some o → (∀ c fz, o ≠ .cells c 198 fz) → w'.heap[k]? = some o
theorem TK.of {B D T : Nat} {vs : Value} {w w' : World} (h : DKe B D vs w w') : TK B D T vs w w' := ⟨h.below, fun k o h1 _ h2 h3 h4 => h.others k o h1 h2 h3 h4⟩
theorem TK.refl (B D T : Nat) (vs : Value) (w : World) : TK B D T vs w w := TK.of (DK.refl _ _ _ _ _)
theorem TK.trans {B D T : Nat} {vs : Value} {w w1 w2 : World} (h : TK B D T vs w w1) (k : TK B D T vs w1 w2) : TK B D T vs w w2 :=
  ⟨h.below.trans k.below, fun i o h1 h2 h3 h4 h5 => k.others i o h1 h2 h3 (h.others i o h1 h2 h3 h4 h5) h5⟩
theorem TK.setT {B D T : Nat} {vs : Value} {w w1 : World} (h : TK B D T vs w w1) (hB : B ≤ T) (i : Nat) (v : Value) : TK B D T vs w (w1.setCell ⟨T, i, none⟩ v) :=
  ⟨h.below.setCell (p := ⟨T, i, none⟩) hB v, fun k o h1 h2 h3 h4 h5 => by rw [Below.heap_setCell _ _ _ _ h2]; exact h.others k o h1 h2 h3 h4 h5⟩
theorem TK.row {B D T n : Nat} {vs : Value} {st : Dsk} {w w1 : World} {U : TypeId} {cs : List Value} (hd : Dk B D vs st w) (h : TK B D T vs w w1) (hr : Row w n U cs) (h0 : n ≠ T) (h1 : U ≠ 196) (h2 : U ≠ 9) (h3 : U ≠ 198) : Row w1 n U cs :=
  h.others n _ (dk_ne hd hr h1 h2).1 h0 (dk_ne hd hr h1 h2).2 hr (fun c fz hh => by injection hh with _ hh _; exact h3 hh)
/-- a store into a block of another type leaves a disk -/
theorem dk_setT {B D T i : Nat} {vs v : Value} {st : Dsk} {w : World} {U : TypeId} {cs : List Value} (h : Dk B D vs st w) (hr : Row w T U cs) (h1 : U ≠ 196) (h2 : U ≠ 9) (h3 : U ≠ 198) (h4 : U ≠ 4) : Dk B D vs st (w.setCell ⟨T, i, none⟩ v) := by
  obtain ⟨hD, hV⟩ := dk_ne h hr h1 h2
  obtain ⟨kv, vl, hB, hd, hl, hs, hk, r⟩ := h
  have hne : ∀ g o, w.heap[g]? = some o → g ≠ T → (w.setCell ⟨T, i, none⟩ v).heap[g]? = some o := fun g o hg hd => by rw [Below.heap_setCell _ _ _ _ hd]; exact hg
  have hty : ∀ g (e : TypeId) cur fz, w.heap[g]? = some (.cells cur e fz) → U ≠ e → g ≠ T := by
    rintro g e cur fz hg he rfl
    unfold Row at hr
    rw [hg] at hr
    injection hr with hr
    injection hr with _ hr _
    exact he hr.symm
  refine ⟨kv, vl, hB, hne _ _ hd (fun e => hD e.symm), own_keep hl (fun g o hg ho => ?_), own_keep hs (fun g o hg ho => ?_), ?_, r⟩
  · obtain ⟨cur, hcur⟩ := own_typed hl hg
    exact hne g o ho (hty g _ _ _ hcur h3)
  · obtain ⟨cur, hcur⟩ := own_typed hs hg
    exact hne g o ho (hty g _ _ _ hcur h2)
  · rcases hk with hk | ⟨g, cap, cs', fz, rfl, hb, hgg, hc⟩
    · exact .inl hk
    · exact .inr ⟨g, cap, cs', fz, rfl, hb, hne g _ hgg (hty g _ _ _ hgg h4), hc⟩
theorem row_setT {n T i : Nat} {v : Value} {w : World} {U : TypeId} {cs : List Value} (hr : Row w n U cs) (h : n ≠ T) : Row (w.setCell ⟨T, i, none⟩ v) n U cs := by
  unfold Row at *; rw [Below.heap_setCell _ _ _ _ h]; exact hr
theorem row_apart {n m : Nat} {w : World} {U V : TypeId} {cs ds : List Value} (h1 : Row w n U cs) (h2 : Row w m V ds) (h : U ≠ V) : n ≠ m := by
  rintro rfl
  unfold Row at h1 h2
  rw [h1] at h2
  injection h2 with h2
  injection h2 with _ h2 _
  exact h h2
theorem zk_setT {B D Z T i : Nat} {vs v : Value} {from' size : Nat} {st : Dsk} {t : Tw} {Z' : Nat} {w : World} (h : Zk B D Z vs from' size st w) (ht : Twn T Z' t w) : Zk B D Z vs from' size st (w.setCell ⟨T, i, none⟩ v) :=
  ⟨dk_setT h.disk ht (by decide) (by decide) (by decide) (by decide), row_setT h.row (row_apart h.row ht (by decide)), h.fit, h.loose⟩
theorem lay_n (B D Z T : Nat) (vs : Value) (from' size : Nat) (st : Dsk) (t : Tw) (side : Nat) (i : Int) (hi : ((side : Nat) : Int) = i) (s : List UInt8) (w : World) (h : Zk B D Z vs from' size st w) (ht : Twn T Z t w) (hsd : side ≤ 1) (hsz : 2 ≤ size) (hg0 : 0 ≤ t.gen) (hg1 : t.gen ≤ 2147483646) (hs : s.length ≤ 9223372036854775807) (hn : st.loose.length ≤ 900000) :
    Calls Try.prog 145 #[.pointer (some ⟨T, 0, none⟩), .int .i64 i, S s] w fun e w' => e = .returned (.int .i64 (st.tlay from' size side t.gen s).1) ∧ Zk B D Z vs from' size (st.tlay from' size side t.gen s).2 w' ∧ Twn T Z t w' ∧ DKe B D vs w w' := by
  subst hi; exact lay_any B D Z T vs from' size st t side s w h ht hsd hsz hg0 hg1 hs hn
set_option maxRecDepth 100000 in
set_option maxHeartbeats 4000000 in
theorem Save_any (B D Z T : Nat) (vs : Value) (from' size : Nat) (st : Dsk) (t : Tw) (s : List UInt8) (w : World) (h : Zk B D Z vs from' size st w) (ht : Twn T Z t w) (hBT : B ≤ T) (hsd : t.side ≤ 1) (hsz : 2 ≤ size) (hg0 : 0 ≤ t.gen) (hg1 : t.gen ≤ 2147483647) (hs : s.length ≤ 9223372036854775000) (hn : st.loose.length ≤ 900000) :
    Calls Try.prog 78 #[.pointer (some ⟨T, 0, none⟩), S s] w fun e w' => e = .returned (.int .i64 (st.tsave from' size t s).1) ∧ Zk B D Z vs from' size (st.tsave from' size t s).2.1 w' ∧ Twn T Z (st.tsave from' size t s).2.2 w' ∧ TK B D T vs w w' := by
  have c0 : w.cell? ⟨T, 0, none⟩ = some (.pointer (some ⟨Z, 0, none⟩)) := ht.cell 0
  obtain ⟨r, hr⟩ : ∃ r, r = st.tsave from' size t s := ⟨_, rfl⟩
  rw [← hr]
  unfold Dsk.tsave at hr
  cases hf : fits size s with
  | false =>
    rw [if_pos hf] at hr
    have Hr := Lib.hid hr
    have Hf := Lib.hid hf
    clear hr hf
    go_enter Try.func78, Try.ntmps78
    go_wp2_with fail
    refine (isText_any Z D from' size s w h.row hs (by have := h.small; omega)).mono ?_
    rintro e w' ⟨rfl, rfl⟩
    rw [Hf.out]
    go_wp2_with fail
    go_ret
    rw [Hr.out]
    exact ⟨rfl, h, ht, TK.refl _ _ _ _ _⟩
  | true =>
    rw [if_neg (by simp [hf])] at hr
    have c2 : w.cell? ⟨T, 2, none⟩ = some (.int .i64 t.gen) := ht.cell 2
    by_cases hg : 2147483647 ≤ t.gen
    · rw [if_pos hg] at hr
      have d2 : decide (2147483647 ≤ t.gen) = true := by simpa using hg
      have Hr := Lib.hid hr
      have Hf := Lib.hid hf
      clear hr hf
      go_enter Try.func78, Try.ntmps78
      go_wp2_with fail
      refine (isText_any Z D from' size s w h.row hs (by have := h.small; omega)).mono ?_
      rintro e w' ⟨rfl, rfl⟩
      rw [Hf.out]
      go_wp2_with fail
      go_ret
      rw [Hr.out]
      exact ⟨rfl, h, ht, TK.refl _ _ _ _ _⟩
    · rw [if_neg hg] at hr
      have d2 : decide (2147483647 ≤ t.gen) = false := by simpa using hg
      have c4 : w.cell? ⟨T, 4, none⟩ = some (.bool t.down) := ht.cell 4
      cases hdn : t.down with
      | true =>
        rw [hdn] at c4
        rw [if_pos (by rw [hdn])] at hr
        have Hr := Lib.hid hr
        have Hf := Lib.hid hf
        clear hr hf hdn
        go_enter Try.func78, Try.ntmps78
        go_wp2_with fail
        refine (isText_any Z D from' size s w h.row hs (by have := h.small; omega)).mono ?_
        rintro e w' ⟨rfl, rfl⟩
        rw [Hf.out]
        go_wp2_with fail
        go_ret
        rw [Hr.out]
        exact ⟨rfl, h, ht, TK.refl _ _ _ _ _⟩
      | false =>
        rw [hdn] at c4
        rw [if_neg (by rw [hdn]; decide)] at hr
        have c3 : w.cell? ⟨T, 3, none⟩ = some (.int .i64 (t.side : Int)) := ht.cell 3
        have hcast : ((1 - t.side : Nat) : Int) = 1 - (t.side : Int) := by omega
        have hL := lay_n B D Z T vs from' size st t (1 - t.side) (1 - (t.side : Int)) hcast s w h ht (by omega) hsz hg0 (by omega) (by omega) hn
        generalize st.tlay from' size (1 - t.side) t.gen s = L at *
        obtain ⟨le, ls⟩ := L
        simp only at hr hL
        have HL := Lib.hid hL
        have Hr := Lib.hid hr
        have Hf := Lib.hid hf
        have Hc := Lib.hid hcast
        have Hdn := Lib.hid hdn
        clear hr hf hdn hL hcast
        by_cases h0 : le = 0
        · subst h0
          go_enter Try.func78, Try.ntmps78
          go_wp2_with fail
          refine (isText_any Z D from' size s w h.row hs (by have := h.small; omega)).mono ?_
          rintro e w' ⟨rfl, rfl⟩
          rw [Hf.out]
          go_wp2_with fail
          refine HL.out.mono ?_
          rintro e w1 ⟨rfl, z1, t1, k1⟩
          have q1 : w1.cell? ⟨T, 1, none⟩ = some (S t.text) := t1.cell 1
          have q2 : w1.cell? ⟨T, 2, none⟩ = some (.int .i64 t.gen) := t1.cell 2
          have q3 : w1.cell? ⟨T, 3, none⟩ = some (.int .i64 (t.side : Int)) := t1.cell 3
          have f1 := t1.frozen 1
          have f2 := t1.frozen 2
          have f3 := t1.frozen 3
          clear c0 c2 c3 c4
          go_wp2_with fail
          go_ret
          have hfin : r = (0, ls, { t with text := s, gen := t.gen + 1, side := 1 - t.side }) := by rw [Hr.out]; simp
          rw [hfin]
          refine ⟨rfl, zk_setT (zk_setT (zk_setT z1 t1) (t1.set 1 (S s) rfl : Twn T Z { t with text := s } _)) ((t1.set 1 (S s) rfl).set 2 (.int .i64 (t.gen + 1)) rfl : Twn T Z { t with text := s, gen := t.gen + 1 } _), ?_, (((TK.of k1).setT hBT _ _).setT hBT _ _).setT hBT _ _⟩
          have e := ((t1.set 1 (S s) rfl).set 2 (.int .i64 (t.gen + 1)) rfl).set 3 (.int .i64 (1 - (t.side : Int))) rfl
          show Row _ T _ [_, _, _, .int .i64 ((1 - t.side : Nat) : Int), _]
          rw [Hc.out]
          exact e
        · have hne : (le != 0) = true := by simpa using h0
          have H0 := Lib.hid h0
          clear h0
          go_enter Try.func78, Try.ntmps78
          go_wp2_with fail
          refine (isText_any Z D from' size s w h.row hs (by have := h.small; omega)).mono ?_
          rintro e w' ⟨rfl, rfl⟩
          rw [Hf.out]
          go_wp2_with fail
          refine HL.out.mono ?_
          rintro e w1 ⟨rfl, z1, t1, k1⟩
          have q4 : w1.cell? ⟨T, 4, none⟩ = some (.bool t.down) := t1.cell 4
          have f4 := t1.frozen 4
          clear c0 c2 c3 c4
          go_wp2_with fail
          go_ret
          have hfin : r = (le, ls, { t with down := le == 4 }) := by rw [Hr.out, if_pos H0.out]
          rw [hfin]
          exact ⟨rfl, zk_setT z1 t1, t1.set 4 (.bool (le == 4)) rfl, (TK.of k1).setT hBT _ _⟩
theorem zeroTwn (Z : Nat) : Try.prog.built 165 [(0, Value.pointer (some ⟨Z, 0, none⟩))] = some #[.pointer (some ⟨Z, 0, none⟩), .string ⟨#[]⟩, .int .i64 0, .int .i64 0, .bool false] := by kernel_rfl
theorem tformat_len (st : Dsk) (from' size : Nat) (s : List UInt8) (hs : s.length ≤ 1024) : (st.tformat from' size s).2.safe.length = st.safe.length ∧ (st.tformat from' size s).2.loose.length ≤ st.loose.length + size + 39 := by
  have hf := fillZ_len zsec size st from'
  unfold Dsk.tformat
  simp only
  split
  · exact ⟨hf.1, by omega⟩
  · have hp := zput_len (st.fillZ zsec from' size).2 from' size 0 1 s
    have hq := secs_le s.length
    split
    · exact ⟨hp.1.trans hf.1, by omega⟩
    · have hy := synced_len ((st.fillZ zsec from' size).2.zput from' size 0 1 s).2
      exact ⟨hy.1.trans (hp.1.trans hf.1), by simp only; omega⟩
set_option maxRecDepth 100000 in
set_option maxHeartbeats 4000000 in
theorem Format_not (B D Z : Nat) (vs : Value) (from' size : Nat) (st : Dsk) (s : List UInt8) (w : World) (h : Zk B D Z vs from' size st w) (hs : s.length ≤ 9223372036854775000) (hno : zoneOK size = false ∨ fits size s = false) :
    Calls Try.prog 73 #[.pointer (some ⟨Z, 0, none⟩), S s] w fun e w' => e = .returned (.tuple #[.pointer none, .int .i64 1]) ∧ w = w' := by
  have hsm := h.small
  cases hz : zoneOK size with
  | false =>
    have Hz := Lib.hid hz
    clear hz hno
    go_enter Try.func73, Try.ntmps73
    go_wp2_with fail
    refine (isZone_any Z D from' size w h.row).mono ?_
    rintro e w' ⟨rfl, rfl⟩
    rw [Hz.out]
    go_wp2_with fail
    go_ret2
    exact ⟨rfl, rfl⟩
  | true =>
    have hf : fits size s = false := by rcases hno with h | h; rw [hz] at h; cases h; exact h
    have Hz := Lib.hid hz
    have Hf := Lib.hid hf
    clear hz hno hf
    go_enter Try.func73, Try.ntmps73
    go_wp2_with fail
    refine (isZone_any Z D from' size w h.row).mono ?_
    rintro e w' ⟨rfl, rfl⟩
    rw [Hz.out]
    go_wp2_with fail
    refine (isText_any Z D from' size s w h.row hs (by omega)).mono ?_
    rintro e w' ⟨rfl, rfl⟩
    rw [Hf.out]
    go_wp2_with fail
    go_ret2
    exact ⟨rfl, rfl⟩
def tformV (e : Int) (T : Nat) : Value := if e = 0 then .tuple #[.pointer (some ⟨T, 0, none⟩), .int .i64 0] else .tuple #[.pointer none, .int .i64 e]
set_option maxRecDepth 100000 in
set_option maxHeartbeats 4000000 in
theorem Format_any (B D Z : Nat) (vs : Value) (from' size : Nat) (st : Dsk) (s : List UInt8) (w : World) (h : Zk B D Z vs from' size st w) (hz : zoneOK size = true) (hf : fits size s = true) (hn : st.loose.length ≤ 900000) :
    Calls Try.prog 73 #[.pointer (some ⟨Z, 0, none⟩), S s] w fun e w' => ∃ T, e = .returned (tformV (st.tformat from' size s).1 T) ∧ Zk B D Z vs from' size (st.tformat from' size s).2 w' ∧ w.heap.size ≤ T ∧ ((st.tformat from' size s).1 = 0 → Twn T Z ⟨s, 1, 0, false⟩ w') ∧ DKe B D vs w w' := by
  have hsm := h.small
  have hBw := dk_size h.disk
  have hfs : s.length ≤ 1024 ∧ secs s.length ≤ size / 2 := by simpa [fits] using hf
  have hl := fillZ_len zsec size st from'
  have hF := ZFill_any B D Z vs from' size st w h (by omega)
  obtain ⟨r, hr⟩ : ∃ r, r = st.tformat from' size s := ⟨_, rfl⟩
  rw [← hr]
  unfold Dsk.tformat at hr
  simp only at hr
  generalize st.fillZ zsec from' size = f at *
  obtain ⟨fe, fs⟩ := f
  simp only at hl hF hr
  have hs1 := hfs.1
  have hfl := hl.2
  have HF := Lib.hid hF
  have Hr := Lib.hid hr
  have Hz := Lib.hid hz
  have Hf := Lib.hid hf
  clear hr hz hf hF hfs hl
  by_cases f0 : fe = 0
  · subst f0
    obtain ⟨pp, hp⟩ : ∃ pp, pp = fs.zput from' size 0 1 s := ⟨_, rfl⟩
    have hpl := zput_len fs from' size 0 1 s
    have hq := secs_le s.length
    rw [← hp] at hpl
    obtain ⟨pe, ps⟩ := pp
    simp only at hpl
    have hpl2 := hpl.2
    have Hpl := Lib.hid hpl.1
    have Hp := Lib.hid hp
    clear hp hpl
    by_cases p0 : pe = 0
    · subst p0
      have hsl := synced_len ps
      have hsl2 := hsl.2
      have Hsl := Lib.hid hsl.1
      clear hsl
      by_cases e0 : ps.syncE = 0
      · have E0 := Lib.hid e0
        clear e0
        go_enter Try.func73, Try.ntmps73
        go_wp2_with fail
        refine (isZone_any Z D from' size w h.row).mono ?_
        rintro e w' ⟨rfl, rfl⟩
        rw [Hz.out]
        go_wp2_with fail
        refine (isText_any Z D from' size s w h.row (by omega) (by omega)).mono ?_
        rintro e w' ⟨rfl, rfl⟩
        rw [Hf.out]
        go_wp2_with fail
        refine HF.out.mono ?_
        rintro e w1 ⟨rfl, z1, k1⟩
        go_wp2_with fail
        refine (Put_any B D Z vs from' size fs 0 1 s w1 z1 (by omega) (by omega)).mono ?_
        rintro e w2 ⟨rfl, z2, k2⟩
        rw [← Hp.out] at z2 ⊢
        have c2 : w2.cell? ⟨Z, 0, none⟩ = some (.pointer (some ⟨D, 0, none⟩)) := z2.row.cell 0
        have hB2 := dk_size z2.disk
        have k2 := k1.trans k2
        clear z1 k1
        go_wp2_with fail
        refine (DSync_any B D vs ps w2 z2.disk hB2).mono ?_
        rintro e w3 ⟨rfl, d3, k3⟩
        rw [E0.out]
        have z3 := z2.step d3 k3 Hsl.out (by omega)
        have k3 := k2.trans k3
        have hB3 := dk_size z3.disk
        clear z2 k2 c2 d3
        go_wp2_with (refine wpl_build rfl 165 _ rfl [.pointer (some ⟨Z, 0, none⟩), S s, .int .i64 1, .int .i64 0, .bool false] (by kernel_rfl) ?_)
        go_wp2_with fail
        go_ret2
        have hfin : r = (0, ps.synced) := by rw [Hr.out, if_neg (by simp), ← Hp.out, if_neg (by simp), E0.out]
        rw [hfin]
        have hbn : Below w3.heap.size w3 (w3.alloc (.cells #[.pointer (some ⟨Z, 0, none⟩), S s, .int .i64 1, .int .i64 0, .bool false] 165)) := (Below.refl _ _).alloc (Nat.le_refl _) _
        exact ⟨w3.heap.size, rfl, z3.new hbn, k3.size, fun _ => Row.alloc _ _ [.pointer (some ⟨Z, 0, none⟩), S s, .int .i64 1, .int .i64 0, .bool false], k3.trans (dke_new hB3 hbn)⟩
      · have hne : (ps.syncE != 0) = true := by simpa using e0
        have E0 := Lib.hid e0
        clear e0
        go_enter Try.func73, Try.ntmps73
        go_wp2_with fail
        refine (isZone_any Z D from' size w h.row).mono ?_
        rintro e w' ⟨rfl, rfl⟩
        rw [Hz.out]
        go_wp2_with fail
        refine (isText_any Z D from' size s w h.row (by omega) (by omega)).mono ?_
        rintro e w' ⟨rfl, rfl⟩
        rw [Hf.out]
        go_wp2_with fail
        refine HF.out.mono ?_
        rintro e w1 ⟨rfl, z1, k1⟩
        go_wp2_with fail
        refine (Put_any B D Z vs from' size fs 0 1 s w1 z1 (by omega) (by omega)).mono ?_
        rintro e w2 ⟨rfl, z2, k2⟩
        rw [← Hp.out] at z2 ⊢
        have c2 : w2.cell? ⟨Z, 0, none⟩ = some (.pointer (some ⟨D, 0, none⟩)) := z2.row.cell 0
        have hB2 := dk_size z2.disk
        have k2 := k1.trans k2
        clear z1 k1
        go_wp2_with fail
        refine (DSync_any B D vs ps w2 z2.disk hB2).mono ?_
        rintro e w3 ⟨rfl, d3, k3⟩
        have z3 := z2.step d3 k3 Hsl.out (by omega)
        have k3 := k2.trans k3
        clear z2 k2 c2 d3
        go_wp2_with fail
        go_ret2
        have hfin : r = (ps.syncE, ps.synced) := by rw [Hr.out, if_neg (by simp), ← Hp.out, if_neg (by simp)]
        rw [hfin]
        refine ⟨w.heap.size, ?_, z3, Nat.le_refl _, fun he => absurd he E0.out, k3⟩
        unfold tformV; rw [if_neg E0.out]; rfl
    · have hne : (pe != 0) = true := by simpa using p0
      have P0 := Lib.hid p0
      clear p0
      go_enter Try.func73, Try.ntmps73
      go_wp2_with fail
      refine (isZone_any Z D from' size w h.row).mono ?_
      rintro e w' ⟨rfl, rfl⟩
      rw [Hz.out]
      go_wp2_with fail
      refine (isText_any Z D from' size s w h.row (by omega) (by omega)).mono ?_
      rintro e w' ⟨rfl, rfl⟩
      rw [Hf.out]
      go_wp2_with fail
      refine HF.out.mono ?_
      rintro e w1 ⟨rfl, z1, k1⟩
      go_wp2_with fail
      refine (Put_any B D Z vs from' size fs 0 1 s w1 z1 (by omega) (by omega)).mono ?_
      rintro e w2 ⟨rfl, z2, k2⟩
      rw [← Hp.out] at z2 ⊢
      have k2 := k1.trans k2
      clear z1 k1
      go_wp2_with fail
      go_ret2
      have hfin : r = (pe, ps) := by rw [Hr.out, if_neg (by simp), ← Hp.out, if_pos P0.out]
      rw [hfin]
      refine ⟨w.heap.size, ?_, z2, Nat.le_refl _, fun he => absurd he P0.out, k2⟩
      unfold tformV; rw [if_neg P0.out]; rfl
  · have hne : (fe != 0) = true := by simpa using f0
    have F0 := Lib.hid f0
    clear f0
    go_enter Try.func73, Try.ntmps73
    go_wp2_with fail
    refine (isZone_any Z D from' size w h.row).mono ?_
    rintro e w' ⟨rfl, rfl⟩
    rw [Hz.out]
    go_wp2_with fail
    refine (isText_any Z D from' size s w h.row (by omega) (by omega)).mono ?_
    rintro e w' ⟨rfl, rfl⟩
    rw [Hf.out]
    go_wp2_with fail
    refine HF.out.mono ?_
    rintro e w1 ⟨rfl, z1, k1⟩
    go_wp2_with fail
    go_ret2
    have hfin : r = (fe, fs) := by rw [Hr.out, if_pos F0.out]
    rw [hfin]
    refine ⟨w.heap.size, ?_, z1, Nat.le_refl _, fun he => absurd he F0.out, k1⟩
    unfold tformV; rw [if_neg F0.out]; rfl
end Go.Proofs.Ythppdlemchmipaa
