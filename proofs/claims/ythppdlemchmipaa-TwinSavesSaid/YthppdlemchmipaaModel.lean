/- Zone and seal over the disk's state, in plain Lean. No program. -/
import Derived.Test.YthppdlemchmipaaDisk0
import Derived.Test.YthppdlemchmipaaPure0
namespace Go.Wd
open Go.RowKit Go.Sha

/-- a sector of zeros -/
def zsec : List UInt8 := List.replicate 32 0
/-- the number that stands in a sector -/
def numOf (s : List UInt8) : Int := eyeN (s.drop 28) 2147483647
/-- the bodies of the first n sectors, and their number -/
def rowOf (ss : List (List UInt8)) (n : Nat) : Option (List UInt8 × Int) :=
  if n ≤ ss.length ∧ (∀ s ∈ ss.take n, isNum (numOf s) = true ∧ numOf s = numOf (ss.headD [])) then some ((ss.take n).flatMap (·.take 28), numOf (ss.headD [])) else none
/-- the text that sectors have, its number, and the error -/
def getOf (ss : List (List UInt8)) : List UInt8 × Int × Int :=
  match rowOf ss 2 with
  | none => ([], 0, 5)
  | some (f, _) =>
    if le32 (f.drop 32) ≤ 1024 then
      match rowOf ss (secs (le32 (f.drop 32)).toNat) with
      | none => ([], 0, 5)
      | some (all, n) => if sealed ((all.drop 36).take (le32 (f.drop 32)).toNat) = all then ((all.drop 36).take (le32 (f.drop 32)).toNat, n, 0) else ([], 0, 6)
    else ([], 0, 5)

theorem le32_le4 (n : Int) (r : List UInt8) (h0 : 0 ≤ n) (h1 : n < 4294967296) : le32 (le4 n ++ r) = n := by
  simp [le32, leSum, le4]
  omega
theorem numOf_of (t : List UInt8) (n : Int) (ht : t.length = 28) (hn : isNum n = true) : numOf (t ++ le4 n) = n := by
  have h : 1 ≤ n ∧ n ≤ 2147483647 := by simpa [isNum] using hn
  have e : (t ++ le4 n).drop 28 = le4 n ++ [] := by rw [← ht, List.drop_left]; simp
  unfold numOf eyeN
  rw [e, le32_le4 n [] (by omega) (by omega), if_pos (by omega)]
theorem numOf_zsec : numOf zsec = 0 := by decide
theorem numOf_range (s : List UInt8) : 0 ≤ numOf s ∧ numOf s ≤ 2147483647 := by
  have := le32_bd (s.drop 28)
  unfold numOf eyeN
  split <;> omega
theorem isNum_zero : isNum 0 = false := by decide
theorem rowsOf_at (k : List UInt8) : ∀ (g : Nat) (t : List UInt8) (j : Nat), j < g → (rowsOf k g t)[j]? = some ((t.drop (28 * j)).take 28 ++ k)
  | 0, _, _, h => by omega
  | g + 1, t, 0, _ => by simp [rowsOf]
  | g + 1, t, j + 1, h => by
    have := rowsOf_at k g (t.drop 28) j (by omega)
    simp only [rowsOf, List.getElem?_cons_succ]
    rw [this, List.drop_drop, show 28 + 28 * j = 28 * (j + 1) by omega]
theorem rowsOf_bodies (k : List UInt8) : ∀ (g : Nat) (t : List UInt8) (m : Nat), g * 28 ≤ t.length → m ≤ g → ((rowsOf k g t).take m).flatMap (·.take 28) = t.take (28 * m)
  | _, t, 0, _, _ => by simp
  | 0, _, m + 1, _, h => by omega
  | g + 1, t, m + 1, ht, h => by
    have ih := rowsOf_bodies k g (t.drop 28) m (by simp; omega) (by omega)
    have hl : (t.take 28).length = 28 := by simp; omega
    have e : (t.take 28 ++ k).take 28 = t.take 28 := by rw [List.take_append_of_le_length (by omega)]; exact List.take_of_length_le (by omega)
    simp only [rowsOf, List.take_succ_cons, List.flatMap_cons, ih, e]
    rw [show 28 * (m + 1) = 28 + 28 * m by omega, List.take_add]
theorem layOf_length (n : Int) (l : List UInt8) : (layOf n l).length = secs l.length := rowsOf_length _ _ _
theorem layOf_at (n : Int) (l : List UInt8) (j : Nat) (h : j < secs l.length) : (layOf n l)[j]? = some (((sealed l).drop (28 * j)).take 28 ++ le4 n) := rowsOf_at _ _ _ _ h
theorem layOf_body (l : List UInt8) (j : Nat) (h : j < secs l.length) : (((sealed l).drop (28 * j)).take 28).length = 28 := by
  have := sealed_length l
  simp; omega
theorem layOf_num (n : Int) (l : List UInt8) (j : Nat) (s : List UInt8) (hn : isNum n = true) (h : (layOf n l)[j]? = some s) : numOf s = n := by
  have hj : j < secs l.length := by have := (List.getElem?_eq_some_iff.1 h).1; rwa [layOf_length] at this
  rw [layOf_at n l j hj] at h
  injection h with h
  rw [← h]
  exact numOf_of _ _ (layOf_body l j hj) hn
theorem layOf_len (n : Int) (l : List UInt8) : ∀ s ∈ layOf n l, s.length = 32 := by
  intro s hs
  obtain ⟨j, hj, he⟩ := List.mem_iff_getElem.1 hs
  rw [layOf_length] at hj
  have h := layOf_at n l j hj
  rw [List.getElem?_eq_getElem (by rw [layOf_length]; exact hj), he] at h
  injection h with h
  rw [h, List.length_append, layOf_body l j hj, le4_length]
theorem secs_two (n : Nat) : 2 ≤ secs n := by unfold secs; omega
theorem sealed_head (l : List UInt8) (h : l.length ≤ 1024) : le32 (((sealed l).take 56).drop 32) = l.length := by
  have hs := sha_length (body l)
  have hb := body_length l
  have h2 := secs_two l.length
  have e : ((sealed l).take 56).drop 32 = le4 l.length ++ ((l ++ List.replicate (secs l.length * 28 - 36 - l.length) 0).take 20) := by
    unfold sealed
    rw [List.drop_take, ← hs, List.drop_left, hs]
    unfold body
    rw [List.append_assoc, List.take_append, le4_length]
    rw [List.take_of_length_le (by rw [le4_length]; omega)]
  rw [e, le32_le4 _ _ (by omega) (by omega)]
theorem sealed_text (l : List UInt8) : ((sealed l).drop 36).take l.length = l := by
  have hs := sha_length (body l)
  have e1 : (sealed l).drop 36 = ((sealed l).drop 32).drop 4 := by rw [List.drop_drop]
  have e2 : (sealed l).drop 32 = body l := List.drop_left' hs
  have e3 : (body l).drop 4 = l ++ List.replicate (secs l.length * 28 - 36 - l.length) 0 := by
    unfold body
    rw [List.append_assoc]
    exact List.drop_left' rfl
  rw [e1, e2, e3, List.take_left]

/-- each sector of number n is, at its place, the text's -/
def Mix (n : Int) (l : List UInt8) (ss : List (List UInt8)) : Prop := ∀ (j : Nat) (s : List UInt8), ss[j]? = some s → numOf s = n → (layOf n l)[j]? = some s
theorem rowOf_none_len {ss : List (List UInt8)} {n : Nat} (h : ss.length < n) : rowOf ss n = none := by
  unfold rowOf; rw [if_neg (fun hh => by omega)]
theorem rowOf_none_bad {ss : List (List UInt8)} {n : Nat} (j : Nat) (s : List UInt8) (hj : j < n) (h : ss[j]? = some s) (hb : isNum (numOf s) = false ∨ numOf s ≠ numOf (ss.headD [])) : rowOf ss n = none := by
  unfold rowOf
  rw [if_neg]
  rintro ⟨hl, ha⟩
  have := ha s (List.mem_of_getElem? (i := j) (by rw [List.getElem?_take_of_lt hj]; exact h))
  rcases hb with hb | hb
  · rw [this.1] at hb; cases hb
  · exact hb this.2
theorem rowOf_some {ss : List (List UInt8)} {n : Nat} (hl : n ≤ ss.length) (ha : ∀ j s, j < n → ss[j]? = some s → isNum (numOf s) = true ∧ numOf s = numOf (ss.headD [])) : rowOf ss n = some ((ss.take n).flatMap (·.take 28), numOf (ss.headD [])) := by
  unfold rowOf
  rw [if_pos]
  refine ⟨hl, fun s hs => ?_⟩
  obtain ⟨j, hj, he⟩ := List.mem_iff_getElem.1 hs
  have hjn : j < n := by simp at hj; omega
  refine ha j s hjn ?_
  rw [← List.getElem?_take_of_lt hjn, List.getElem?_eq_getElem hj, he]
theorem rowOf_inv {ss : List (List UInt8)} {n : Nat} {x : List UInt8 × Int} (h : rowOf ss n = some x) : n ≤ ss.length ∧ (∀ j s, j < n → ss[j]? = some s → isNum (numOf s) = true ∧ numOf s = numOf (ss.headD [])) ∧ x = ((ss.take n).flatMap (·.take 28), numOf (ss.headD [])) := by
  unfold rowOf at h
  split at h
  · rename_i hc
    refine ⟨hc.1, fun j s hj hs => hc.2 s (List.mem_of_getElem? (i := j) (by rw [List.getElem?_take_of_lt hj]; exact hs)), by injection h with h; exact h.symm⟩
  · cases h
/-- sectors whose first one has the number n, and among which those of number n are one text's -/
theorem getOf_mix (n : Int) (l : List UInt8) (ss : List (List UInt8)) (hn : isNum n = true) (hl : l.length ≤ 1024) (hm : Mix n l ss) (h0 : numOf (ss.headD []) = n) :
    getOf ss = if (∀ j, j < secs l.length → ss[j]? = (layOf n l)[j]?) then (l, n, 0) else ([], 0, 5) := by
  have hall : ∀ m, m ≤ secs l.length → (∀ j, j < m → ss[j]? = (layOf n l)[j]?) → rowOf ss m = some ((sealed l).take (28 * m), n) := by
    intro m hm2 h
    have hlen : m ≤ ss.length := by
      rcases Nat.lt_or_ge ss.length m with hlt | hge
      · have := h ss.length hlt
        rw [List.getElem?_eq_none (Nat.le_refl _), layOf_at n l _ (by omega)] at this
        cases this
      · exact hge
    rw [rowOf_some hlen, h0]
    · congr 2
      rw [← rowsOf_bodies (le4 n) (secs l.length) (sealed l) m (by rw [sealed_length]; omega) hm2]
      congr 1
      apply List.ext_getElem?
      intro j
      rcases Nat.lt_or_ge j m with hj | hj
      · rw [List.getElem?_take_of_lt hj, List.getElem?_take_of_lt hj]; exact h j hj
      · rw [List.getElem?_eq_none (by simp; omega), List.getElem?_eq_none (by simp; omega)]
    · intro j s hj hs
      rw [h j hj] at hs
      have := layOf_num n l j s hn hs
      rw [h0, this]
      exact ⟨hn, rfl⟩
  have hrow : ∀ m x, rowOf ss m = some x → ∀ j, j < m → ss[j]? = (layOf n l)[j]? := by
    intro m x hx j hj
    obtain ⟨h1, h2, _⟩ := rowOf_inv hx
    have hs : ss[j]? = some ss[j] := List.getElem?_eq_getElem (by omega)
    have := h2 j _ hj hs
    rw [h0] at this
    rw [hs, hm j _ hs this.2]
  have h2s := secs_two l.length
  by_cases hA : ∀ j, j < secs l.length → ss[j]? = (layOf n l)[j]?
  · rw [if_pos hA]
    have r2 := hall 2 h2s (fun j hj => hA j (by omega))
    have rm := hall (secs l.length) (Nat.le_refl _) hA
    have hsl : (sealed l).take (28 * secs l.length) = sealed l := List.take_of_length_le (by rw [sealed_length]; omega)
    rw [hsl] at rm
    unfold getOf
    rw [r2]
    simp only
    rw [show 28 * 2 = 56 by rfl, sealed_head l hl, if_pos (by omega)]
    simp only [Int.toNat_natCast]
    rw [rm]
    simp only
    rw [sealed_text, if_pos rfl]
  · rw [if_neg hA]
    unfold getOf
    cases r2 : rowOf ss 2 with
    | none => rfl
    | some x =>
      have h2 := hrow 2 x r2
      have e2 := hall 2 h2s h2
      rw [r2] at e2
      injection e2 with e2
      subst e2
      simp only
      rw [show 28 * 2 = 56 by rfl, sealed_head l hl, if_pos (by omega)]
      simp only [Int.toNat_natCast]
      cases rm : rowOf ss (secs l.length) with
      | none => rfl
      | some y => exact absurd (hrow _ y rm) hA
theorem getOf_zero (ss : List (List UInt8)) (h0 : isNum (numOf (ss.headD [])) = false) : getOf ss = ([], 0, 5) := by
  unfold getOf
  have : rowOf ss 2 = none := by
    cases ss with
    | nil => exact rowOf_none_len (by simp)
    | cons s ss => exact rowOf_none_bad 0 s (by omega) rfl (.inl h0)
  rw [this]
theorem getOf_cases (ss : List (List UInt8)) : (getOf ss).2.2 = 0 ∧ (getOf ss).2.1 = numOf (ss.headD []) ∧ isNum (numOf (ss.headD [])) = true ∨ getOf ss = ([], 0, 5) ∨ getOf ss = ([], 0, 6) := by
  unfold getOf
  cases r2 : rowOf ss 2 with
  | none => exact .inr (.inl rfl)
  | some x =>
    obtain ⟨f, q⟩ := x
    simp only
    by_cases hle : le32 (f.drop 32) ≤ 1024
    · rw [if_pos hle]
      cases rm : rowOf ss (secs (le32 (f.drop 32)).toNat) with
      | none => exact .inr (.inl rfl)
      | some y =>
        obtain ⟨all, n⟩ := y
        simp only
        split
        · obtain ⟨h1, h2, h3⟩ := rowOf_inv r2
          obtain ⟨g1, g2, g3⟩ := rowOf_inv rm
          injection g3 with g3 g4
          refine .inl ⟨rfl, g4, ?_⟩
          cases ss with
          | nil => simp at h1
          | cons s ss => exact (h2 0 s (by omega) rfl).1
        · exact .inr (.inr rfl)
    · rw [if_neg hle]; exact .inr (.inl rfl)
theorem getOf_lay (n : Int) (l : List UInt8) (ss : List (List UInt8)) (hn : isNum n = true) (hl : l.length ≤ 1024) (h : ∀ j, j < secs l.length → ss[j]? = (layOf n l)[j]?) : getOf ss = (l, n, 0) := by
  have h2 := secs_two l.length
  have hlen : secs l.length ≤ ss.length := by
    rcases Nat.lt_or_ge ss.length (secs l.length) with hlt | hge
    · have := h ss.length hlt
      rw [List.getElem?_eq_none (Nat.le_refl _), layOf_at n l _ (by omega)] at this
      cases this
    · exact hge
  have hnum : ∀ j s, j < secs l.length → ss[j]? = some s → numOf s = n := fun j s hj hs => layOf_num n l j s hn (by rw [← h j hj]; exact hs)
  -- only the first sectors are read
  have hp : ∀ m, m ≤ secs l.length → rowOf ss m = rowOf (ss.take (secs l.length)) m := by
    intro m hm
    unfold rowOf
    have e1 : (ss.take (secs l.length)).take m = ss.take m := by rw [List.take_take]; congr 1; omega
    have e2 : (ss.take (secs l.length)).headD [] = ss.headD [] := by
      cases ss with
      | nil => simp
      | cons s ss =>
        obtain ⟨q, hq⟩ : ∃ q, secs l.length = q + 1 := ⟨secs l.length - 1, by omega⟩
        rw [hq]; rfl
    have e3 : (m ≤ (ss.take (secs l.length)).length) = (m ≤ ss.length) := by simp; omega
    simp only [e1, e2, e3]
  have h0 : numOf ((ss.take (secs l.length)).headD []) = n := by
    cases ss with
    | nil => simp at hlen; omega
    | cons s ss =>
      obtain ⟨q, hq⟩ : ∃ q, secs l.length = q + 1 := ⟨secs l.length - 1, by omega⟩
      rw [hq]; exact hnum 0 s (by omega) rfl
  have hm : Mix n l (ss.take (secs l.length)) := by
    intro j s hj hs
    have hjl : j < secs l.length := by have := (List.getElem?_eq_some_iff.1 hj).1; simp at this; omega
    rw [List.getElem?_take_of_lt hjl] at hj
    rw [← h j hjl]; exact hj
  have hg := getOf_mix n l (ss.take (secs l.length)) hn hl hm h0
  rw [if_pos (fun j hj => by rw [List.getElem?_take_of_lt hj]; exact h j hj)] at hg
  rw [← hg]
  have r2 := hp 2 h2
  unfold getOf
  rw [r2]
  cases hr : rowOf (ss.take (secs l.length)) 2 with
  | none => rfl
  | some x =>
    obtain ⟨f, q⟩ := x
    simp only
    have hx := rowOf_inv hr
    have hf : le32 (f.drop 32) = l.length := by
      unfold getOf at hg
      rw [hr] at hg
      simp only at hg
      have e := hx.2.2
      injection e with e _
      rw [e, List.take_take, show min 2 (secs l.length) = 2 by omega]
      have e3 : ss.take 2 = (layOf n l).take 2 := by
        apply List.ext_getElem?
        intro j
        rcases Nat.lt_or_ge j 2 with hj | hj
        · rw [List.getElem?_take_of_lt hj, List.getElem?_take_of_lt hj]; exact h j (by omega)
        · rw [List.getElem?_eq_none (by simp; omega), List.getElem?_eq_none (by simp; omega)]
      rw [e3]
      unfold layOf
      rw [rowsOf_bodies (le4 n) (secs l.length) (sealed l) 2 (by rw [sealed_length]; omega) h2]
      exact sealed_head l hl
    rw [hf]
    simp only [Int.toNat_natCast]
    rw [hp _ (Nat.le_refl _)]
attribute [irreducible] numOf getOf rowOf
end Go.Wd
