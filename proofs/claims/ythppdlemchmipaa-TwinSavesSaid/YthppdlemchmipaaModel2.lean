/- Writes of rows, fills, puts and gets in a zone, in plain Lean; what stands behind mixed rows. No program. -/
import Derived.Test.YthppdlemchmipaaModel
namespace Go.Wd
open Go.RowKit Go.Sha

def placed : Nat → List (List UInt8) → List (Nat × List UInt8)
  | _, [] => []
  | a, t :: ts => (a, t) :: placed (a + 1) ts
theorem placed_length : ∀ (a : Nat) (ts : List (List UInt8)), (placed a ts).length = ts.length
  | _, [] => rfl
  | a, _ :: ts => by simp [placed, placed_length (a + 1) ts]
theorem placed_at : ∀ (a : Nat) (ts : List (List UInt8)) (j : Nat), (placed a ts)[j]? = ts[j]?.map (fun t => (a + j, t))
  | _, [], _ => by simp [placed]
  | a, t :: ts, 0 => by simp [placed]
  | a, t :: ts, j + 1 => by
    simp only [placed, List.getElem?_cons_succ, placed_at (a + 1) ts j]
    congr 1; funext x; congr 1; omega
theorem placed_snoc (t : List UInt8) : ∀ (a : Nat) (ts : List (List UInt8)), placed a (ts ++ [t]) = placed a ts ++ [(a + ts.length, t)]
  | a, [] => by simp [placed]
  | a, x :: ts => by simp only [List.cons_append, placed, placed_snoc t (a + 1) ts, List.length_cons, show a + 1 + ts.length = a + (ts.length + 1) by omega]
theorem placed_take : ∀ (a : Nat) (ts : List (List UInt8)) (m : Nat), (placed a ts).take m = placed a (ts.take m)
  | _, [], _ => by simp [placed]
  | _, _ :: _, 0 => by simp [placed]
  | a, t :: ts, m + 1 => by simp [placed, placed_take (a + 1) ts m]
theorem allRows_placed : ∀ (ts : List (List UInt8)) (a : Nat) (s : List (List UInt8)), a + ts.length ≤ s.length → ∀ x, (allRows s (placed a ts))[x]? = if a ≤ x ∧ x < a + ts.length then ts[x - a]? else s[x]?
  | [], a, s, _, x => by rw [if_neg (by simp only [List.length_nil]; omega)]; rfl
  | t :: ts, a, s, h, x => by
    simp only [List.length_cons] at h
    simp only [placed, allRows]
    rw [allRows_placed ts (a + 1) (s.set a t) (by simp; omega) x]
    by_cases hx : x = a
    · subst hx
      rw [if_neg (by omega), if_pos (by simp)]
      simp
      rw [List.getElem?_set_self (by omega)]
    · by_cases h2 : a + 1 ≤ x ∧ x < a + 1 + ts.length
      · rw [if_pos h2, if_pos (by simp; omega)]
        obtain ⟨j, hj⟩ : ∃ j, x - a = j + 1 := ⟨x - a - 1, by omega⟩
        rw [hj, List.getElem?_cons_succ]
        congr 1; omega
      · rw [if_neg h2, if_neg (by simp; omega), List.getElem?_set_ne (by omega)]
theorem cutRows_placed : ∀ (ts : List (List UInt8)) (a : Nat) (s : List (List UInt8)) (ks : List Bool), a + ts.length ≤ s.length → ∀ x, (cutRows s (placed a ts) ks)[x]? = if a ≤ x ∧ x < a + ts.length ∧ ks[x - a]? = some true then ts[x - a]? else s[x]?
  | [], a, s, ks, _, x => by
    have : ¬ (a ≤ x ∧ x < a + ([] : List (List UInt8)).length ∧ ks[x - a]? = some true) := by simp only [List.length_nil]; omega
    rw [if_neg this]
    cases ks <;> rfl
  | t :: ts, a, s, [], h, x => by
    rw [if_neg (fun hh => by simp at hh)]
    rfl
  | t :: ts, a, s, k :: ks, h, x => by
    simp only [List.length_cons] at h
    simp only [placed, cutRows]
    rw [cutRows_placed ts (a + 1) _ ks (by cases k <;> simp <;> omega) x]
    by_cases hx : x = a
    · subst hx
      rw [if_neg (by omega)]
      cases k
      · simp
      · simp
        rw [List.getElem?_set_self (by omega)]
    · by_cases h2 : a + 1 ≤ x
      · obtain ⟨j, hj⟩ : ∃ j, x - a = j + 1 := ⟨x - a - 1, by omega⟩
        have hj2 : x - (a + 1) = j := by omega
        have e : (if k = true then s.set a t else s)[x]? = s[x]? := by
          split
          · rw [List.getElem?_set_ne (by omega)]
          · rfl
        rw [hj, hj2, List.getElem?_cons_succ, List.getElem?_cons_succ, e]
        by_cases hc : x < a + 1 + ts.length ∧ ks[j]? = some true
        · rw [if_pos ⟨h2, hc⟩, if_pos ⟨by omega, by simp only [List.length_cons]; omega, hc.2⟩]
        · rw [if_neg (fun hh => hc hh.2), if_neg (fun hh => hc ⟨by have := hh.2.1; simp only [List.length_cons] at this; omega, hh.2.2⟩)]
      · have n1 : ¬ (a + 1 ≤ x ∧ x < a + 1 + ts.length ∧ ks[x - (a + 1)]? = some true) := fun hh => h2 hh.1
        have n2 : ¬ (a ≤ x ∧ x < a + (t :: ts).length ∧ (k :: ks)[x - a]? = some true) := fun hh => by have := hh.1; omega
        rw [if_neg n1, if_neg n2]
        split
        · rw [List.getElem?_set_ne (by omega)]
        · rfl

theorem now_length (st : Dsk) : st.now.length = st.safe.length := allRows_length _ _
/-! layers -/
def Dsk.readV (st : Dsk) (at' : Int) : List UInt8 := if st.chk at' = 0 then st.now.getD at'.toNat [] else []
def Dsk.zreadE (st : Dsk) (size : Nat) (at' : Int) : Int := if at' < 0 ∨ (size : Int) ≤ at' then 3 else if st.away then 4 else 0
def Dsk.zreadV (st : Dsk) (from' size : Nat) (at' : Int) : List UInt8 := if st.zreadE size at' = 0 then st.now.getD (from' + at'.toNat) [] else []
def Dsk.zwriteE (st : Dsk) (from' size : Nat) (at' : Int) (s : List UInt8) : Int := if s.length ≠ 32 then 1 else if at' < 0 ∨ (size : Int) ≤ at' then 3 else st.writeE ((from' : Int) + at') s
def Dsk.zwrote (st : Dsk) (from' size : Nat) (at' : Int) (s : List UInt8) : Dsk := if s.length ≠ 32 ∨ at' < 0 ∨ (size : Int) ≤ at' then st else st.wrote ((from' : Int) + at') s
def Dsk.putRows (st : Dsk) : Nat → List (List UInt8) → Int × Dsk
  | _, [] => (0, st)
  | a, t :: ts => if st.writeE (a : Int) t = 0 then (st.wrote (a : Int) t).putRows (a + 1) ts else (st.writeE (a : Int) t, st.wrote (a : Int) t)
/-- zeros where there are none: n sectors from a on -/
def Dsk.fillZ (st : Dsk) (want : List UInt8) : Nat → Nat → Int × Dsk
  | _, 0 => (0, st)
  | a, n + 1 =>
    if st.chk (a : Int) ≠ 0 then (st.chk (a : Int), st)
    else if st.now.getD a [] = want then st.fillZ want (a + 1) n
    else if st.writeE (a : Int) want = 0 then (st.wrote (a : Int) want).fillZ want (a + 1) n
    else (st.writeE (a : Int) want, st.wrote (a : Int) want)
/-- the sectors of a zone from a place on -/
def Dsk.zone (st : Dsk) (from' size at' : Nat) : List (List UInt8) := (st.now.drop (from' + at')).take (size - at')
def Dsk.zput (st : Dsk) (from' size : Nat) (at' n : Int) (s : List UInt8) : Int × Dsk :=
  if isNum n = false ∨ 1024 < s.length then (1, st)
  else if at' < 0 ∨ (size : Int) ≤ at' ∨ (size : Int) - at' < secs s.length then (3, st)
  else st.putRows (from' + at'.toNat) (layOf n s)
def Dsk.zget (st : Dsk) (from' size : Nat) (at' : Int) : List UInt8 × Int × Int :=
  if at' < 0 ∨ (size : Int) ≤ at' then ([], 0, 3) else if st.away then ([], 0, 4) else getOf (st.zone from' size at'.toNat)

theorem cut_len (st : Dsk) (ks : List Bool) : (st.cut ks).safe.length = st.safe.length ∧ (st.cut ks).loose.length ≤ st.loose.length := by
  unfold Dsk.cut; split
  · exact ⟨rfl, Nat.le_refl _⟩
  · exact ⟨cutRows_length _ _ _, Nat.zero_le _⟩
theorem used_len (st : Dsk) : st.used.safe.length = st.safe.length ∧ st.used.loose.length ≤ st.loose.length := by
  unfold Dsk.used; split
  · exact cut_len st _
  · exact ⟨rfl, Nat.le_refl _⟩
theorem wrote_len (st : Dsk) (a : Int) (s : List UInt8) : (st.wrote a s).safe.length = st.safe.length ∧ (st.wrote a s).loose.length ≤ st.loose.length + 1 := by
  unfold Dsk.wrote; split
  · exact ⟨rfl, by omega⟩
  · split
    · have := used_len st; exact ⟨this.1, by omega⟩
    · exact ⟨(used_len st).1, by simp⟩
theorem synced_len (st : Dsk) : st.synced.safe.length = st.safe.length ∧ st.synced.loose.length ≤ st.loose.length := by
  unfold Dsk.synced; split
  · exact ⟨rfl, Nat.le_refl _⟩
  · split
    · exact used_len st
    · exact ⟨now_length st, Nat.zero_le _⟩
theorem zwrote_len (st : Dsk) (f n : Nat) (a : Int) (s : List UInt8) : (st.zwrote f n a s).safe.length = st.safe.length ∧ (st.zwrote f n a s).loose.length ≤ st.loose.length + 1 := by
  unfold Dsk.zwrote; split
  · exact ⟨rfl, by omega⟩
  · exact wrote_len st _ _
theorem fillZ_len (want : List UInt8) : ∀ (n : Nat) (st : Dsk) (a : Nat), (st.fillZ want a n).2.safe.length = st.safe.length ∧ (st.fillZ want a n).2.loose.length ≤ st.loose.length + n
  | 0, st, a => ⟨rfl, Nat.le_refl _⟩
  | n + 1, st, a => by
    have hw := wrote_len st (a : Int) want
    unfold Dsk.fillZ
    split
    · exact ⟨rfl, by simp only; omega⟩
    · split
      · have := fillZ_len want n st (a + 1); exact ⟨this.1, by omega⟩
      · split
        · have := fillZ_len want n (st.wrote (a : Int) want) (a + 1); exact ⟨this.1.trans hw.1, by omega⟩
        · exact ⟨hw.1, by simp only; omega⟩
/-- a disk on, without a fuse -/
structure Dsk.Free (st : Dsk) : Prop where
  on : st.away = false
  fuse : st.fuse = -1
theorem Dsk.Free.write {st : Dsk} (h : st.Free) {a : Nat} {t : List UInt8} (ha : a < st.safe.length) (ht : t.length = 32) :
    st.writeE (a : Int) t = 0 ∧ (st.wrote (a : Int) t).Free ∧ (st.wrote (a : Int) t).safe = st.safe ∧ (st.wrote (a : Int) t).loose = st.loose ++ [(a, t)] ∧ (st.wrote (a : Int) t).keep = st.keep := by
  have hc : st.chk (a : Int) = 0 := by unfold Dsk.chk; rw [if_neg (by omega), if_neg (by simp [h.on])]
  have hf : st.fuse ≠ 0 := by rw [h.fuse]; decide
  have he : st.writeE (a : Int) t = 0 := by unfold Dsk.writeE Dsk.useE; rw [if_neg (by omega), if_neg (by omega), if_neg hf]
  have hu : st.used = { st with fuse := -1, done := wrap64 (st.done + 1) } := by unfold Dsk.used; rw [if_neg hf, h.fuse]; rfl
  have hw : st.wrote (a : Int) t = { st with fuse := -1, done := wrap64 (st.done + 1), loose := st.loose ++ [(a, t)] } := by
    unfold Dsk.wrote; rw [if_neg (by omega), if_neg hf, hu]; rfl
  rw [hw]
  exact ⟨he, ⟨h.on, rfl⟩, rfl, rfl, rfl⟩
theorem Dsk.Free.put : ∀ (ts : List (List UInt8)) (st : Dsk) (a : Nat), st.Free → a + ts.length ≤ st.safe.length → (∀ t ∈ ts, t.length = 32) →
    ∃ st', st.putRows a ts = (0, st') ∧ st'.Free ∧ st'.safe = st.safe ∧ st'.loose = st.loose ++ placed a ts ∧ st'.keep = st.keep
  | [], st, a, h, _, _ => ⟨st, rfl, h, rfl, by simp [placed], rfl⟩
  | t :: ts, st, a, h, ha, ht => by
    simp only [List.length_cons] at ha
    obtain ⟨e, f, s, l, k⟩ := h.write (a := a) (t := t) (by omega) (ht t (by simp))
    obtain ⟨st', r, f', s', l', k'⟩ := Dsk.Free.put ts (st.wrote (a : Int) t) (a + 1) f (by rw [s]; omega) (fun x hx => ht x (by simp [hx]))
    refine ⟨st', ?_, f', s'.trans s, ?_, k'.trans k⟩
    · unfold Dsk.putRows; rw [if_pos e]; exact r
    · rw [l', l]; simp [placed]
theorem Dsk.Free.sync {st : Dsk} (h : st.Free) : st.syncE = 0 ∧ st.synced.Free ∧ st.synced.safe = st.now ∧ st.synced.loose = [] ∧ st.synced.keep = st.keep := by
  have hf : st.fuse ≠ 0 := by rw [h.fuse]; decide
  have hu : st.used = { st with fuse := -1, done := wrap64 (st.done + 1) } := by unfold Dsk.used; rw [if_neg hf, h.fuse]; rfl
  have hs : st.synced = { st with fuse := -1, done := wrap64 (st.done + 1), safe := st.now, loose := [] } := by
    unfold Dsk.synced; rw [if_neg (by simp [h.on]), if_neg hf, hu]
  refine ⟨by unfold Dsk.syncE Dsk.useE; rw [if_neg (by simp [h.on]), if_neg hf], ?_, ?_, ?_, ?_⟩ <;> rw [hs]
  exact ⟨h.on, rfl⟩
theorem Dsk.now_nil {st : Dsk} (h : st.loose = []) : st.now = st.safe := by unfold Dsk.now; rw [h]; rfl

/-! an old text, and some rows of a new one over it -/
theorem headD_at {α : Type} (l : List α) (d : α) : l.headD d = l[0]?.getD d := by cases l <;> rfl
theorem whole_pure (a b : List UInt8) (i k : Int) (ks : List Bool) (ss : List (List UInt8)) (hi : isNum i = true) (hk : isNum k = true) (hik : i ≠ k) (ha : a.length ≤ 1024) (hb : b.length ≤ 1024)
    (hlen : secs a.length ≤ ss.length) (hlenb : secs b.length ≤ ss.length)
    (hs : ∀ j, j < ss.length → ss[j]? = if j < secs b.length ∧ ks[j]? = some true then (layOf k b)[j]? else if j < secs a.length then (layOf i a)[j]? else some zsec) :
    ((∀ j, j < secs b.length → ks[j]? = some true) → getOf ss = (b, k, 0)) ∧
    ((∀ j, j < secs b.length → ks[j]? ≠ some true) → getOf ss = (a, i, 0)) ∧
    (getOf ss = ([], 0, 5) ∨ getOf ss = (b, k, 0) ∨ getOf ss = (a, i, 0) ∧ ¬ ∀ j, j < secs b.length → ks[j]? = some true) := by
  have ha2 := secs_two a.length
  have hb2 := secs_two b.length
  have hz : ∀ n, isNum n = true → numOf zsec ≠ n := fun n hn h => by rw [numOf_zsec] at h; rw [← h] at hn; cases hn
  have mi : Mix i a ss := by
    intro j s hj hn
    have hjl := (List.getElem?_eq_some_iff.1 hj).1
    rw [hs j hjl] at hj
    split at hj
    · exact absurd (hn ▸ layOf_num k b j s hk hj) hik
    · split at hj
      · exact hj
      · injection hj with hj; subst hj; exact absurd hn (hz i hi)
  have mk : Mix k b ss := by
    intro j s hj hn
    have hjl := (List.getElem?_eq_some_iff.1 hj).1
    rw [hs j hjl] at hj
    split at hj
    · exact hj
    · split at hj
      · exact absurd ((layOf_num i a j s hi hj).symm.trans hn) hik
      · injection hj with hj; subst hj; exact absurd hn (hz k hk)
  have gk := getOf_mix k b ss hk hb mk
  have gi := getOf_mix i a ss hi ha mi
  have h0 := hs 0 (by omega)
  refine ⟨fun hall => ?_, fun hnone => ?_, ?_⟩
  · exact getOf_lay k b ss hk hb (fun j hj => by rw [hs j (by omega), if_pos ⟨hj, hall j hj⟩])
  · exact getOf_lay i a ss hi ha (fun j hj => by rw [hs j (by omega), if_neg (fun h => hnone j h.1 h.2), if_pos hj])
  · by_cases hk0 : ks[0]? = some true
    · rw [if_pos ⟨by omega, hk0⟩] at h0
      have hd : numOf (ss.headD []) = k := by
        obtain ⟨x, hx⟩ : ∃ x, (layOf k b)[0]? = some x := ⟨_, layOf_at k b 0 (by omega)⟩
        rw [headD_at, h0, hx]; exact layOf_num k b 0 x hk hx
      rw [gk hd]
      split
      · exact .inr (.inl rfl)
      · exact .inl rfl
    · rw [if_neg (fun h => hk0 h.2), if_pos (by omega)] at h0
      have hd : numOf (ss.headD []) = i := by
        obtain ⟨x, hx⟩ : ∃ x, (layOf i a)[0]? = some x := ⟨_, layOf_at i a 0 (by omega)⟩
        rw [headD_at, h0, hx]; exact layOf_num i a 0 x hi hx
      rw [gi hd]
      split
      · exact .inr (.inr ⟨rfl, fun h => hk0 (h 0 (by omega))⟩)
      · exact .inl rfl
end Go.Wd
