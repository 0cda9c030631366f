/- Lives of a twin: what a life leaves, in plain Lean. No program. -/
import Derived.Test.YthppdlemchmipaaModel7
namespace Go.Wd
open Go.RowKit Go.Sha
/-- behind a life: the text that was, or the one that was being saved -/
structure Life (st : Dsk) (sure next : List UInt8) (gen : Int) (t : Tw) : Prop where
  inv : TwInv st.safe 2 7 t
  loose : st.loose = []
  len : st.safe.length = 20
  or' : (t.text = sure ∧ t.gen = gen) ∨ (t.text = next ∧ t.gen = gen + 1)
theorem cut_nil {st : Dsk} (hl : st.loose = []) : (st.cut []).safe = st.safe ∧ (st.cut []).loose = [] ∧ (st.cut []).away = true ∧ (st.cut []).keep = st.keep := by
  unfold Dsk.cut
  split
  · rename_i h; exact ⟨rfl, hl, h, rfl⟩
  · refine ⟨?_, rfl, rfl, rfl⟩
    simp only
    rw [hl]; rfl
theorem life_back {st : Dsk} {sure next : List UInt8} {gen : Int} {t : Tw} (h : Life st sure next gen t) :
    (st.cut []).come.Free ∧ (st.cut []).come.loose = [] ∧ (st.cut []).come.safe = st.safe ∧ (st.cut []).come.topen 2 (2 * 7) = (0, t) := by
  obtain ⟨c1, c2, c3, c4⟩ := cut_nil h.loose
  have e : (st.cut []).come = { st.cut [] with away := false, fuse := -1 } := by unfold Dsk.come; rw [if_pos c3]
  have hs : (st.cut []).come.safe = st.safe := by rw [e]; exact c1
  have hl : (st.cut []).come.loose = [] := by rw [e]; exact c2
  have hon : (st.cut []).come.away = false := by rw [e]
  refine ⟨by rw [e]; exact ⟨rfl, rfl⟩, hl, hs, ?_⟩
  exact TwInv.open (by rw [Dsk.now_nil hl, hs]; exact h.inv) hon
theorem save_down {st : Dsk} {from' size : Nat} {t : Tw} {s : List UInt8} (hf : fits size s = true) (hg : ¬ 2147483647 ≤ t.gen) (hd : t.down = true) : st.tsave from' size t s = (4, st, t) := by
  unfold Dsk.tsave; rw [if_neg (by simp [hf]), if_neg hg, if_pos hd]
theorem putRows_safe : ∀ (ts : List (List UInt8)) (st : Dsk) (a : Nat), (st.putRows a ts).2.safe.length = st.safe.length
  | [], _, _ => rfl
  | t :: ts, st, a => by
    have h := wrote_len st (a : Int) t
    unfold Dsk.putRows
    split
    · exact (putRows_safe ts _ (a + 1)).trans h.1
    · exact h.1
theorem zput_safe (st : Dsk) (from' size : Nat) (at' n : Int) (s : List UInt8) : (st.zput from' size at' n s).2.safe.length = st.safe.length := by
  unfold Dsk.zput
  split
  · rfl
  · split
    · rfl
    · exact putRows_safe _ _ _
theorem tlay_safe (st : Dsk) (A H : Nat) (gen : Int) (s : List UInt8) : (st.tlayAt A H gen s).2.safe.length = st.safe.length := by
  have h1 := (fillZ_len zsec H st A).1
  unfold Dsk.tlayAt
  split
  · exact h1
  · split
    · exact (synced_len _).1.trans h1
    · split
      · exact (zput_safe _ _ _ _ _ _).trans ((synced_len _).1.trans h1)
      · exact (synced_len _).1.trans ((zput_safe _ _ _ _ _ _).trans ((synced_len _).1.trans h1))
theorem tsave_safe_len (st : Dsk) (from' size : Nat) (t : Tw) (s : List UInt8) : (st.tsave from' size t s).2.1.safe.length = st.safe.length := by
  unfold Dsk.tsave
  split
  · rfl
  · split
    · rfl
    · split
      · rfl
      · simp only
        split
        · exact tlay_safe _ _ _ _ _
        · exact tlay_safe _ _ _ _ _
theorem tsave_len (st : Dsk) (from' size : Nat) (t : Tw) (s : List UInt8) (hl : (st.tsave from' size t s).2.1.loose = []) : (st.tsave from' size t s).2.1.loose.length ≤ 0 := by rw [hl]; exact Nat.le_refl _
end Go.Wd
