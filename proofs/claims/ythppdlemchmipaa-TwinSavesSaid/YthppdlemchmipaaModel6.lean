/- What puts and gets come to on a disk without a fuse; the whole of 'SealWhole' in plain Lean. No program. -/
import Derived.Test.YthppdlemchmipaaModel4
namespace Go.Wd
open Go.RowKit Go.Sha
theorem Dsk.Free.zput {st : Dsk} (h : st.Free) {from' size a : Nat} {n : Int} {s : List UInt8} (hn : isNum n = true) (hs : s.length ≤ 1024) (hr : a + secs s.length ≤ size) (hf : from' + size ≤ st.safe.length) :
    ∃ st', st.zput from' size (a : Int) n s = (0, st') ∧ st'.Free ∧ st'.safe = st.safe ∧ st'.loose = st.loose ++ placed (from' + a) (layOf n s) ∧ st'.keep = st.keep ∧
      ∀ x, st'.now[x]? = if from' + a ≤ x ∧ x < from' + a + secs s.length then (layOf n s)[x - (from' + a)]? else st.now[x]? := by
  have hrl := layOf_length n s
  have hs2 := secs_two s.length
  have hz : st.zput from' size (a : Int) n s = st.putRows (from' + a) (layOf n s) := by
    unfold Dsk.zput
    rw [if_neg (by rw [hn]; simp; omega), if_neg (by omega)]
    simp
  rw [hz]
  obtain ⟨st', r, f, s', l, k⟩ := h.put (layOf n s) st (from' + a) (by rw [hrl]; omega) (layOf_len _ _)
  refine ⟨st', r, f, s', l, k, fun x => ?_⟩
  have : st'.now = allRows st.now (placed (from' + a) (layOf n s)) := by unfold Dsk.now; rw [s', l, allRows_append]
  rw [this, allRows_placed _ _ _ (by rw [now_length, hrl]; omega), hrl]
theorem zget_in {st : Dsk} {from' size a : Nat} (ha : a < size) (hon : st.away = false) : st.zget from' size (a : Int) = getOf (st.zone from' size a) := by
  unfold Dsk.zget; rw [if_neg (by omega), if_neg (by simp [hon])]; rfl
theorem zget_lay {st : Dsk} {from' size a : Nat} {n : Int} {s : List UInt8} (hon : st.away = false) (hn : isNum n = true) (hs : s.length ≤ 1024) (hr : a + secs s.length ≤ size)
    (h : ∀ j, j < secs s.length → st.now[from' + a + j]? = (layOf n s)[j]?) : st.zget from' size (a : Int) = (s, n, 0) := by
  have hs2 := secs_two s.length
  rw [zget_in (by omega) hon]
  exact getOf_lay n s _ hn hs (fun j hj => by rw [zone_at st from' size a j (by omega)]; exact h j hj)
theorem zget_zero {st : Dsk} {from' size a : Nat} (hon : st.away = false) (ha : a < size) (h : st.now[from' + a]? = some zsec) : st.zget from' size (a : Int) = ([], 0, 5) := by
  rw [zget_in ha hon]
  refine getOf_zero _ ?_
  rw [headD_at, zone_at st from' size a 0 (by omega), Nat.add_zero, h]
  exact (congrArg isNum numOf_zsec).trans isNum_zero
theorem Dsk.of_free (l : List (List UInt8)) : (Dsk.of l).Free := ⟨rfl, rfl⟩
theorem of_now (l : List (List UInt8)) : (Dsk.of l).now = l := rfl
theorem rep_at {n x : Nat} (h : x < n) : (List.replicate n zsec)[x]? = some zsec := by rw [List.getElem?_replicate, if_pos h]

/-- 'all' and 'none' of the first m flags -/
def allOf (ks : List Bool) : Nat → Bool
  | 0 => true
  | m + 1 => allOf ks m && ks.getD m false
def noneOf (ks : List Bool) : Nat → Bool
  | 0 => true
  | m + 1 => noneOf ks m && !ks.getD m false
theorem getD_true {ks : List Bool} {j : Nat} : ks.getD j false = true ↔ ks[j]? = some true := by
  simp only [List.getD]
  cases h : ks[j]? with
  | none => simp
  | some b => simp
theorem allOf_iff (ks : List Bool) : ∀ m, allOf ks m = true ↔ ∀ j, j < m → ks[j]? = some true
  | 0 => by simp [allOf]
  | m + 1 => by
    simp only [allOf, Bool.and_eq_true, allOf_iff ks m, getD_true]
    constructor
    · rintro ⟨h1, h2⟩ j hj
      by_cases e : j = m
      · subst e; exact h2
      · exact h1 j (by omega)
    · intro h; exact ⟨fun j hj => h j (by omega), h m (by omega)⟩
theorem noneOf_iff (ks : List Bool) : ∀ m, noneOf ks m = true ↔ ∀ j, j < m → ks[j]? ≠ some true
  | 0 => by simp [noneOf]
  | m + 1 => by
    have hq : (!ks.getD m false) = true ↔ ks[m]? ≠ some true := by
      constructor
      · intro h1 h2
        rw [getD_true.2 h2] at h1
        cases h1
      · intro h
        cases hb : ks.getD m false with
        | false => rfl
        | true => exact absurd (getD_true.1 hb) h
    simp only [noneOf, Bool.and_eq_true, noneOf_iff ks m, hq]
    constructor
    · rintro ⟨h1, h2⟩ j hj
      by_cases e : j = m
      · subst e; exact h2
      · exact h1 j (by omega)
    · intro h; exact ⟨fun j hj => h j (by omega), h m (by omega)⟩
/-- the whole of it: what each step answers, and what is got in the end -/
structure WholeSteps (a b : List UInt8) (i k : Int) (ks : List Bool) (st0 : Dsk) : Prop where
  p1 : (st0.zput 0 12 2 i a).1 = 0
  l1 : (st0.zput 0 12 2 i a).2.loose.length ≤ 100
  e2 : (st0.zput 0 12 2 i a).2.syncE = 0
  p3 : ((st0.zput 0 12 2 i a).2.synced.zput 0 12 2 k b).1 = 0
  g : ∀ g, g = ((((st0.zput 0 12 2 i a).2.synced.zput 0 12 2 k b).2.cut ks).come.zget 0 12 2) →
    (g = ([], 0, 5) ∧ allOf ks (secs b.length) = false ∧ noneOf ks (secs b.length) = false) ∨ g = (b, k, 0) ∨ (g = (a, i, 0) ∧ allOf ks (secs b.length) = false)
theorem whole_steps (a b : List UInt8) (i k : Int) (ks : List Bool) (hi : isNum i = true) (hk : isNum k = true) (hik : i ≠ k) (ha : a.length ≤ 200) (hb : b.length ≤ 200) : WholeSteps a b i k ks (Dsk.of (List.replicate 12 zsec)) := by
  have sa := secs_le a.length
  have sb := secs_le b.length
  have sa2 := secs_two a.length
  have sb2 := secs_two b.length
  obtain ⟨s1, r1, f1, sf1, l1, _, n1⟩ := (Dsk.of_free (List.replicate 12 zsec)).zput (from' := 0) (size := 12) (a := 2) hi (by omega) (by omega) (by simp [Dsk.of]) (s := a)
  obtain ⟨e2, f2, sf2, l2, _⟩ := f1.sync
  have hlen1 : s1.safe.length = 12 := by rw [sf1]; simp [Dsk.of]
  obtain ⟨s3, r3, f3, sf3, l3, _, n3⟩ := f2.zput (from' := 0) (size := 12) (a := 2) hk (by omega) (by omega) (by rw [sf2, now_length, hlen1]; decide) (s := b)
  have r1' : (Dsk.of (List.replicate 12 zsec)).zput 0 12 2 i a = (0, s1) := r1
  have r3' : s1.synced.zput 0 12 2 k b = (0, s3) := r3
  refine ⟨by rw [r1'], by rw [r1', l1]; simp [Dsk.of, placed_length, layOf_length]; omega, by rw [r1']; exact e2, by rw [r1', r3'], ?_⟩
  intro g hg
  rw [r1', r3'] at hg
  have hcut : s3.cut ks = { s3 with safe := cutRows s3.safe s3.loose ks, loose := [], away := true } := by unfold Dsk.cut; rw [if_neg (by simp [f3.on])]
  have hcome : (s3.cut ks).come = { s3 with safe := cutRows s3.safe s3.loose ks, loose := [], away := false, fuse := -1 } := by rw [hcut]; rfl
  rw [hcome] at hg
  generalize hst : ({ s3 with safe := cutRows s3.safe s3.loose ks, loose := [], away := false, fuse := -1 } : Dsk) = st at hg
  have hon : st.away = false := by rw [← hst]
  have hnow : st.now = cutRows s3.safe s3.loose ks := by rw [← hst]; rfl
  have hss : ∀ j, j < 10 → (st.zone 0 12 2)[j]? = if j < secs b.length ∧ ks[j]? = some true then (layOf k b)[j]? else if j < secs a.length then (layOf i a)[j]? else some zsec := by
    intro j hj
    rw [zone_at st 0 12 2 j (by omega), hnow, l3, l2, List.nil_append, sf3, sf2]
    rw [cutRows_placed _ _ _ _ (by rw [now_length, hlen1, layOf_length]; omega), layOf_length]
    by_cases h1 : j < secs b.length ∧ ks[j]? = some true
    · have e : 0 + 2 + j - (0 + 2) = j := by omega
      rw [if_pos ⟨by omega, by omega, by rw [e]; exact h1.2⟩, if_pos h1, e]
    · have e : 0 + 2 + j - (0 + 2) = j := by omega
      rw [if_neg (fun hh => h1 ⟨by omega, by rw [← e]; exact hh.2.2⟩), if_neg h1, n1]
      by_cases h2 : j < secs a.length
      · rw [if_pos (by omega), if_pos h2, e]
      · rw [if_neg (by omega), if_neg h2, of_now, rep_at (by omega)]
  have hzl : (st.zone 0 12 2).length = 10 := by
    unfold Dsk.zone; rw [hnow]; simp [cutRows_length, sf3, sf2, now_length, hlen1]
  have hW := whole_pure a b i k ks (st.zone 0 12 2) hi hk hik (by omega) (by omega) (by omega) (by omega) (fun j hj => hss j (by omega))
  have hge : st.zget 0 12 2 = getOf (st.zone 0 12 2) := zget_in (a := 2) (by omega) hon
  rw [hge] at hg
  obtain ⟨w1, w2, w3⟩ := hW
  rw [← hg] at w1 w2 w3
  have hbi : (b, k, (0 : Int)) ≠ (a, i, 0) := fun h => hik (by injection h with _ h; injection h with h _; exact h.symm)
  rcases w3 with h | h | ⟨h, hn⟩
  · left
    refine ⟨h, ?_, ?_⟩
    · cases hq : allOf ks (secs b.length) with
      | false => rfl
      | true =>
        have := w1 ((allOf_iff ks _).1 hq)
        rw [h] at this
        injection this with _ this
        injection this with _ this
        cases this
    · cases hq : noneOf ks (secs b.length) with
      | false => rfl
      | true =>
        have := w2 ((noneOf_iff ks _).1 hq)
        rw [h] at this
        injection this with _ this
        injection this with _ this
        cases this
  · exact .inr (.inl h)
  · refine .inr (.inr ⟨h, ?_⟩)
    cases hq : allOf ks (secs b.length) with
    | false => rfl
    | true => exact absurd ((allOf_iff ks _).1 hq) hn
end Go.Wd
