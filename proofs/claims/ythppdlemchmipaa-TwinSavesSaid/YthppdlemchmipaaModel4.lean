/- Twins: what stands in a zone, what is opened, what a save leaves. Plain Lean, no program. -/
import Derived.Test.YthppdlemchmipaaModel3
namespace Go.Wd
open Go.RowKit Go.Sha

/-- a copy: a text's sectors, and zeros behind them -/
def Has (safe : List (List UInt8)) (A H : Nat) (gen : Int) (s : List UInt8) : Prop := ∀ j, j < H → safe[A + j]? = if j < secs s.length then (layOf gen s)[j]? else some zsec
/-- a copy that is none, or an elder one; or a part of the next one -/
def Old (safe : List (List UInt8)) (A H : Nat) (gen : Int) : Prop :=
  (∀ j, j < H → ∃ x, safe[A + j]? = some x ∧ numOf x < gen) ∨
  (∃ s, s.length ≤ 1024 ∧ secs s.length ≤ H ∧ (∀ j, j < H → safe[A + j]? = some zsec ∨ j < secs s.length ∧ safe[A + j]? = (layOf (gen + 1) s)[j]?) ∧ ∃ j, j < secs s.length ∧ safe[A + j]? = some zsec)
structure TwInv (safe : List (List UInt8)) (from' H : Nat) (t : Tw) : Prop where
  hH : 1 ≤ H
  hlen : from' + 2 * H ≤ safe.length
  g0 : isNum t.gen = true
  g1 : isNum (t.gen + 1) = true
  side : t.side ≤ 1
  fit : t.text.length ≤ 1024 ∧ secs t.text.length ≤ H
  down : t.down = false
  has : Has safe (from' + t.side * H) H t.gen t.text
  old : Old safe (from' + (1 - t.side) * H) H t.gen
theorem self_succ (g : Int) : g ≠ g + 1 := by omega
theorem zero_ne_succ {g : Int} (h : 1 ≤ g) : (0 : Int) ≠ g + 1 := by omega
theorem isNum_one : isNum 1 = true ∧ isNum (1 + 1) = true := by decide
theorem isNum_le {n : Int} (h : isNum n = true) : 1 ≤ n ∧ n ≤ 2147483647 := by simpa [isNum] using h
theorem isNum_of {n : Int} (h1 : 1 ≤ n) (h2 : n ≤ 2147483647) : isNum n = true := by simp [isNum, h1, h2]
theorem Has.num {safe : List (List UInt8)} {A H : Nat} {gen : Int} {s : List UInt8} (h : Has safe A H gen s) (hg : isNum gen = true) {j : Nat} (hj : j < H) : ∃ x, safe[A + j]? = some x ∧ (numOf x = gen ∨ numOf x = 0) := by
  have := h j hj
  by_cases hs : j < secs s.length
  · rw [if_pos hs, layOf_at _ _ _ hs] at this
    exact ⟨_, this, .inl (layOf_num gen s j _ hg (layOf_at _ _ _ hs))⟩
  · rw [if_neg hs] at this
    exact ⟨_, this, .inr numOf_zsec⟩
theorem Has.low {safe : List (List UInt8)} {A H : Nat} {gen gen' : Int} {s : List UInt8} (h : Has safe A H gen s) (hg : isNum gen = true) (hlt : gen < gen') : Old safe A H gen' :=
  .inl fun j hj => by
    obtain ⟨x, hx, hn⟩ := h.num hg hj
    have := isNum_le hg
    exact ⟨x, hx, by rcases hn with h | h <;> rw [h] <;> omega⟩
theorem Has.zr {safe safe' : List (List UInt8)} {A H B n : Nat} {gen : Int} {s : List UInt8} (h : Has safe A H gen s) (hz : Zr B n safe safe') (hd : A + H ≤ B ∨ B + n ≤ A) : Has safe' A H gen s := fun j hj => by
  rcases hz.2 (A + j) with e | ⟨e1, e2, _⟩
  · rw [e]; exact h j hj
  · omega
theorem Old.zr {safe safe' : List (List UInt8)} {A H : Nat} {gen : Int} (h : Old safe A H gen) (hg : isNum gen = true) (hz : Zr A H safe safe') : Old safe' A H gen := by
  have hg1 := (isNum_le hg).1
  rcases h with h | ⟨s, h1, h2, h3, j0, h4, h5⟩
  · left
    intro j hj
    rcases hz.2 (A + j) with e | ⟨_, _, e⟩
    · rw [e]; exact h j hj
    · exact ⟨zsec, e, by rw [numOf_zsec]; omega⟩
  · right
    refine ⟨s, h1, h2, fun j hj => ?_, j0, h4, ?_⟩
    · rcases hz.2 (A + j) with e | ⟨_, _, e⟩
      · rw [e]; exact h3 j hj
      · exact .inl e
    · rcases hz.2 (A + j0) with e | ⟨_, _, e⟩
      · rw [e]; exact h5
      · exact e
theorem zone_at (st : Dsk) (from' size at' j : Nat) (hj : j < size - at') : (st.zone from' size at')[j]? = st.now[from' + at' + j]? := by
  unfold Dsk.zone
  rw [List.getElem?_take_of_lt hj, List.getElem?_drop]
/-- a zone's copies are opened -/
theorem TwInv.open {st : Dsk} {from' H : Nat} {t : Tw} (h : TwInv st.now from' H t) (ha : st.away = false) : st.topen from' (2 * H) = (0, t) := by
  have hH := h.hH
  have hh : 2 * H / 2 = H := by omega
  obtain ⟨g1, g2⟩ := isNum_le h.g0
  have hfit : fits (2 * H) t.text = true := by unfold fits; rw [hh]; simpa using h.fit
  -- the copy that counts
  have hcur : getOf (st.zone from' (2 * H) (t.side * H)) = (t.text, t.gen, 0) := by
    refine getOf_lay _ _ _ h.g0 h.fit.1 fun j hj => ?_
    have hs := h.side
    have hjH : j < H := Nat.lt_of_lt_of_le hj h.fit.2
    rw [zone_at st _ _ _ _ (by rcases (by omega : t.side = 0 ∨ t.side = 1) with e | e <;> rw [e] <;> omega)]
    rw [h.has j hjH, if_pos hj]
  -- the other one
  have hoth : (getOf (st.zone from' (2 * H) ((1 - t.side) * H))).2.2 = 0 → (getOf (st.zone from' (2 * H) ((1 - t.side) * H))).2.1 < t.gen := by
    intro he
    have hs := h.side
    have hz : ∀ j, j < H → (st.zone from' (2 * H) ((1 - t.side) * H))[j]? = st.now[from' + (1 - t.side) * H + j]? := fun j hj =>
      zone_at st _ _ _ _ (by rcases (by omega : t.side = 0 ∨ t.side = 1) with e | e <;> rw [e] <;> omega)
    rcases getOf_cases (st.zone from' (2 * H) ((1 - t.side) * H)) with ⟨_, e2, _⟩ | e | e
    · rw [e2, headD_at, hz 0 (by omega)]
      rcases h.old with ho | ⟨s, s1, s2, s3, j0, s4, s5⟩
      · obtain ⟨x, hx, hn⟩ := ho 0 (by omega)
        rw [hx]; exact hn
      · exfalso
        rcases s3 0 (by omega) with e0 | ⟨e0, e1⟩
        · rw [getOf_zero _ (by rw [headD_at, hz 0 (by omega), e0]; exact (congrArg isNum numOf_zsec).trans isNum_zero)] at he
          cases he
        · have hhead : numOf ((st.zone from' (2 * H) ((1 - t.side) * H)).headD []) = t.gen + 1 := by
            rw [headD_at, hz 0 (by omega), e1, layOf_at _ _ _ e0]
            exact layOf_num _ s 0 _ h.g1 (layOf_at _ _ _ e0)
          have hm : Mix (t.gen + 1) s (st.zone from' (2 * H) ((1 - t.side) * H)) := by
            intro j x hx hn
            rcases Nat.lt_or_ge j H with hj | hj
            · rw [hz j hj] at hx
              rcases s3 j hj with e | ⟨_, e⟩
              · rw [e] at hx; injection hx with hx; subst hx; rw [numOf_zsec] at hn; exact absurd hn (zero_ne_succ g1)
              · rw [← e]; exact hx
            · exfalso
              have hj2 : j < 2 * H - (1 - t.side) * H := by
                have := (List.getElem?_eq_some_iff.1 hx).1
                unfold Dsk.zone at this; simp at this; omega
              rw [zone_at st _ _ _ _ hj2] at hx
              rcases (by omega : t.side = 0 ∨ t.side = 1) with e | e
              · rw [e] at hj2; omega
              · rw [e] at hj2 hx
                obtain ⟨y, hy, hyn⟩ := h.has.num h.g0 (j := j - H) (by omega)
                rw [e, show from' + 1 * H + (j - H) = from' + (1 - 1) * H + j by omega, hx] at hy
                injection hy with hy
                subst hy
                rcases hyn with hyn | hyn
                · exact self_succ _ (hyn.symm.trans hn)
                · exact zero_ne_succ g1 (hyn.symm.trans hn)
          rw [getOf_mix _ s _ h.g1 s1 hm hhead, if_neg] at he
          · cases he
          · intro hall
            have := hall j0 s4
            rw [hz j0 (by omega), s5, layOf_at _ _ _ s4] at this
            injection this with this
            have hn := layOf_num (t.gen + 1) s j0 _ h.g1 (layOf_at _ _ _ s4)
            rw [← this, numOf_zsec] at hn
            exact zero_ne_succ g1 hn
    · rw [e] at he; cases he
    · rw [e] at he; cases he
  have hz0 : st.zget from' (2 * H) 0 = getOf (st.zone from' (2 * H) 0) := by unfold Dsk.zget; rw [if_neg (by omega), if_neg (by simp [ha])]; rfl
  have hz1 : st.zget from' (2 * H) ((2 * H / 2 : Nat) : Int) = getOf (st.zone from' (2 * H) H) := by unfold Dsk.zget; rw [hh, if_neg (by omega), if_neg (by simp [ha])]; rfl
  unfold Dsk.topen
  rw [if_neg (by simp [ha]), hz0, hz1]
  obtain ⟨text, gen, side, down⟩ := t
  have hd : down = false := h.down
  subst hd
  have hs : side ≤ 1 := h.side
  simp only at *
  rcases (by omega : side = 0 ∨ side = 1) with e | e
  · subst e
    simp only [Nat.zero_mul, Nat.sub_zero, Nat.one_mul] at hcur hoth
    rw [hcur]
    generalize getOf (st.zone from' (2 * H) H) = g at *
    have e1 : taken (2 * H) 0 (text, gen, 0) ⟨[], 0, 0, false⟩ = ⟨text, gen, 0, false⟩ := by unfold taken; rw [if_pos ⟨rfl, hfit, by show (0 : Int) < gen; omega⟩]
    have e2 : taken (2 * H) 1 g ⟨text, gen, 0, false⟩ = ⟨text, gen, 0, false⟩ := by
      unfold taken
      rw [if_neg]
      rintro ⟨h1, _, h3⟩
      have := hoth h1
      simp only at h3
      omega
    rw [e1, e2]
    simp only
    rw [if_neg (by omega)]
  · subst e
    simp only [Nat.one_mul, Nat.sub_self, Nat.zero_mul] at hcur hoth
    rw [hcur]
    generalize getOf (st.zone from' (2 * H) 0) = g at *
    have e1 : (taken (2 * H) 0 g ⟨[], 0, 0, false⟩).gen < gen ∧ (taken (2 * H) 0 g ⟨[], 0, 0, false⟩).down = false := by
      unfold taken
      split
      · rename_i hc; exact ⟨hoth hc.1, rfl⟩
      · exact ⟨by show (0 : Int) < gen; omega, rfl⟩
    generalize taken (2 * H) 0 g ⟨[], 0, 0, false⟩ = t0 at *
    have e2 : taken (2 * H) 1 (text, gen, 0) t0 = ⟨text, gen, 1, false⟩ := by unfold taken; rw [if_pos ⟨rfl, hfit, e1.1⟩, e1.2]
    rw [e2]
    simp only
    rw [if_neg (by omega)]
/-- without the first sector of the copy that counts, where the other one is the elder one's, that one is opened -/
theorem TwInv.undo {safe : List (List UInt8)} {from' H : Nat} {t : Tw} {gen : Int} {last : List UInt8} (h : TwInv safe from' H t) (hg : t.gen = gen + 1) (h0 : isNum gen = true) (hf : last.length ≤ 1024 ∧ secs last.length ≤ H)
    (ho : Has safe (from' + (1 - t.side) * H) H gen last) : TwInv (safe.set (from' + t.side * H) zsec) from' H ⟨last, gen, 1 - t.side, false⟩ := by
  have hH := h.hH
  have hs := h.side
  have hlen := h.hlen
  have e11 : 1 - (1 - t.side) = t.side := by omega
  have h2 := secs_two t.text.length
  have hin : from' + t.side * H < safe.length := by rcases (by omega : t.side = 0 ∨ t.side = 1) with e | e <;> rw [e] <;> omega
  refine ⟨hH, by simpa using hlen, h0, by rw [← hg]; exact h.g0, by simp only; omega, hf, rfl, ?_, ?_⟩
  · intro j hj
    simp only
    rw [List.getElem?_set_ne (by rcases (by omega : t.side = 0 ∨ t.side = 1) with e | e <;> rw [e] <;> omega)]
    exact ho j hj
  · simp only
    rw [e11]
    right
    refine ⟨t.text, h.fit.1, h.fit.2, fun j hj => ?_, 0, by omega, by rw [Nat.add_zero, List.getElem?_set_self hin]⟩
    by_cases hj0 : j = 0
    · subst hj0; left; rw [Nat.add_zero, List.getElem?_set_self hin]
    · rw [List.getElem?_set_ne (by omega), ← hg, h.has j hj]
      split
      · rename_i hc; exact .inr ⟨hc, rfl⟩
      · exact .inl rfl
/-- a save: it is done, or the power goes and there is the old text or the new one -/
theorem TwInv.save {st : Dsk} {from' H : Nat} {t : Tw} (h : TwInv st.safe from' H t) (ho : st.On) (hl : st.loose = []) (s : List UInt8) (hf : s.length ≤ 1024 ∧ secs s.length ≤ H) (hg : t.gen ≤ 2147483645) :
    (∃ st', st.tsave from' (2 * H) t s = (0, st', ⟨s, t.gen + 1, 1 - t.side, false⟩) ∧ st'.On ∧ st'.loose = [] ∧ st'.keep = st.keep ∧ (st.fuse = -1 → st'.fuse = -1) ∧ st'.safe.length = st.safe.length ∧ TwInv st'.safe from' H ⟨s, t.gen + 1, 1 - t.side, false⟩ ∧
      Has st'.safe (from' + t.side * H) H t.gen t.text ∧ ∀ x, (x < from' ∨ from' + 2 * H ≤ x) → st'.safe[x]? = st.safe[x]?) ∨
    (∃ st', st.tsave from' (2 * H) t s = (4, st', { t with down := true }) ∧ st.fuse ≠ -1 ∧ st'.away = true ∧ st'.loose = [] ∧ (TwInv st'.safe from' H t ∨ TwInv st'.safe from' H ⟨s, t.gen + 1, 1 - t.side, false⟩)) := by
  have hH := h.hH
  have hh : 2 * H / 2 = H := by omega
  obtain ⟨p1, p2⟩ := isNum_le h.g0
  have hn2 : isNum (t.gen + 1 + 1) = true := isNum_of (by omega) (by omega)
  have hfit : fits (2 * H) s = true := by unfold fits; rw [hh]; simpa using hf
  have hlen := h.hlen
  have hside := h.side
  have hA : from' + (1 - t.side) * H + H ≤ st.safe.length := by rcases (by omega : t.side = 0 ∨ t.side = 1) with e | e <;> rw [e] <;> omega
  have hdis : from' + t.side * H + H ≤ from' + (1 - t.side) * H ∨ from' + (1 - t.side) * H + H ≤ from' + t.side * H := by rcases (by omega : t.side = 0 ∨ t.side = 1) with e | e <;> rw [e] <;> omega
  have hrng : ∀ x, from' + (1 - t.side) * H ≤ x → x < from' + (1 - t.side) * H + H → from' ≤ x ∧ x < from' + 2 * H := by
    intro x h1 h2; rcases (by omega : t.side = 0 ∨ t.side = 1) with e | e <;> rw [e] at h1 h2 <;> omega
  have e11 : 1 - (1 - t.side) = t.side := by omega
  have hsv : st.tsave from' (2 * H) t s = (let r := st.tlayAt (from' + (1 - t.side) * H) H t.gen s; if r.1 ≠ 0 then (r.1, r.2, { t with down := r.1 == 4 }) else (0, r.2, { t with text := s, gen := t.gen + 1, side := 1 - t.side })) := by
    unfold Dsk.tsave Dsk.tlay; rw [if_neg (by simp [hfit]), if_neg (by omega), if_neg (by simp [h.down]), hh]
  have hlay := ho.tlay hl (from' + (1 - t.side) * H) H t.gen s h.g1 hf hA
  generalize hAA : from' + (1 - t.side) * H = A at *
  -- the old half stays, for whatever is written in the other one
  have hstay : ∀ safe' : List (List UInt8), (∀ x, ¬ (A ≤ x ∧ x < A + H) → safe'[x]? = st.safe[x]?) → Has safe' (from' + t.side * H) H t.gen t.text := by
    intro safe' hs j hj
    rw [hs _ (by omega)]; exact h.has j hj
  have hnew : ∀ safe' : List (List UInt8), safe'.length = st.safe.length → (∀ x, ¬ (A ≤ x ∧ x < A + H) → safe'[x]? = st.safe[x]?) → Has safe' A H (t.gen + 1) s → TwInv safe' from' H ⟨s, t.gen + 1, 1 - t.side, false⟩ := by
    intro safe' hl' hs hh'
    refine ⟨hH, by omega, h.g1, hn2, by simp only; omega, hf, rfl, by simp only; rw [hAA]; exact hh', ?_⟩
    simp only
    rw [e11]
    exact (hstay safe' hs).low h.g0 (by omega)
  rcases hlay with ⟨st', r, o, l, k, u, sl, sx⟩ | ⟨st', r, u, aw, l, hc⟩
  · left
    rw [hsv, r]
    have hs : ∀ x, ¬ (A ≤ x ∧ x < A + H) → st'.safe[x]? = st.safe[x]? := fun x hx => by rw [sx x, if_neg hx]
    have hh' : Has st'.safe A H (t.gen + 1) s := by
      intro j hj
      rw [sx (A + j), if_pos (by omega), show A + j - A = j by omega]
    refine ⟨st', ?_, o, l, k, u, sl, hnew _ sl hs hh', hstay _ hs, fun x hx => hs x (fun hxx => by have := hrng x hxx.1 hxx.2; omega)⟩
    simp [h.down]
  · right
    rw [hsv, r]
    refine ⟨st', by simp, u, aw, l, ?_⟩
    rcases hc with hz | ⟨m, sl, sx⟩
    · left
      exact ⟨hH, by rw [hz.1]; exact hlen, h.g0, h.g1, hside, h.fit, h.down, h.has.zr hz hdis, by rw [hAA]; exact Old.zr (by rw [← hAA]; exact h.old) h.g0 hz⟩
    · have hs : ∀ x, ¬ (A ≤ x ∧ x < A + H) → st'.safe[x]? = st.safe[x]? := fun x hx => by rw [sx x, if_neg hx]
      have hx : ∀ j, j < H → st'.safe[A + j]? = if j < m ∧ j < secs s.length ∧ st.keep[j]? = some true then (layOf (t.gen + 1) s)[j]? else some zsec := by
        intro j hj
        rw [sx (A + j), if_pos (by omega), show A + j - A = j by omega]
      by_cases hall : ∀ j, j < secs s.length → j < m ∧ st.keep[j]? = some true
      · right
        refine hnew _ sl hs fun j hj => ?_
        rw [hx j hj]
        by_cases hjs : j < secs s.length
        · rw [if_pos ⟨(hall j hjs).1, hjs, (hall j hjs).2⟩, if_pos hjs]
        · rw [if_neg (fun hh => hjs hh.2.1), if_neg hjs]
      · left
        refine ⟨hH, by rw [sl]; exact hlen, h.g0, h.g1, hside, h.fit, h.down, hstay _ hs, ?_⟩
        rw [hAA]
        right
        refine ⟨s, hf.1, hf.2, fun j hj => ?_, ?_⟩
        · rw [hx j hj]
          split
          · rename_i hc; exact .inr ⟨hc.2.1, rfl⟩
          · exact .inl rfl
        · obtain ⟨j, hj⟩ := Classical.not_forall.1 hall
          have hjs : j < secs s.length := by
            rcases Nat.lt_or_ge j (secs s.length) with h1 | h1
            · exact h1
            · exact absurd (fun hh => absurd hh (by omega)) hj
          refine ⟨j, hjs, ?_⟩
          rw [hx j (by omega), if_neg]
          rintro ⟨q1, q2, q3⟩
          exact hj (fun _ => ⟨q1, q3⟩)
/-- a zone of zeros is laid out -/
theorem Dsk.On.tformat {st : Dsk} (h : st.On) (hl : st.loose = []) (from' H : Nat) (s : List UInt8) (hf : s.length ≤ 1024 ∧ secs s.length ≤ H) (hlen : from' + 2 * H ≤ st.safe.length) (hz : ∀ x, from' ≤ x → x < from' + 2 * H → st.safe[x]? = some zsec) :
    (∃ st', st.tformat from' (2 * H) s = (0, st') ∧ st'.On ∧ st'.loose = [] ∧ st'.keep = st.keep ∧ (st.fuse = -1 → st'.fuse = -1) ∧ st'.safe.length = st.safe.length ∧ TwInv st'.safe from' H ⟨s, 1, 0, false⟩ ∧ ∀ x, (x < from' ∨ from' + 2 * H ≤ x) → st'.safe[x]? = st.safe[x]?) ∨
    (∃ st', st.tformat from' (2 * H) s = (4, st') ∧ st.fuse ≠ -1 ∧ st'.away = true ∧ st'.loose = [] ∧ st'.safe.length = st.safe.length ∧ ∀ x, (x < from' ∨ from' + 2 * H ≤ x) → st'.safe[x]? = st.safe[x]?) := by
  have hs2 := secs_two s.length
  have hnow : st.now = st.safe := Dsk.now_nil hl
  have hrl := layOf_length 1 s
  unfold Dsk.tformat
  rcases Dsk.On.fill from' (2 * H) (2 * H) st from' h hlen (by rw [hl]; intro p hp; cases hp) (Nat.le_refl _) (Nat.le_refl _) with ⟨s1, r1, o1, f1, z1, k1, u1, n1, q1⟩ | ⟨s1, l1, r1, u1, z1, g1, q1⟩
  · obtain rfl := q1 (fun x h1 h2 => by rw [hnow]; exact hz x h1 h2)
    rw [r1]
    simp only [ne_eq, not_true_eq_false, if_false]
    have hzp : s1.zput from' (2 * H) 0 1 s = s1.putRows from' (layOf 1 s) := by
      unfold Dsk.zput
      rw [if_neg (by rw [(by decide : isNum 1 = true)]; simp; omega), if_neg (by omega)]
      simp
    rw [hzp]
    rcases Dsk.On.put (layOf 1 s) s1 from' h (by rw [hrl]; omega) (layOf_len _ _) with ⟨s3, r3, o3, f3, l3, k3, u3⟩ | ⟨s3, m, r3, hm, u3, g3⟩
    · rw [r3]
      simp only [not_true_eq_false, if_false]
      rw [hl, List.nil_append] at l3
      have hn3 : ∀ x, s3.now[x]? = if from' ≤ x ∧ x < from' + secs s.length then (layOf 1 s)[x - from']? else s1.safe[x]? := fun x => by
        unfold Dsk.now
        rw [f3, l3, allRows_placed _ _ _ (by rw [hrl]; omega), hrl]
      rcases o3.sync with ⟨e4, o4, f4, l4, k4, u4⟩ | ⟨e4, uf4, g4⟩
      · left
        refine ⟨_, by rw [e4], o4, l4, by rw [k4, k3], fun e => u4 (u3 e), by rw [f4, now_length, f3], ?_, fun x hx => by rw [f4, hn3 x, if_neg (by omega)]⟩
        refine ⟨by omega, by rw [f4, now_length, f3]; exact hlen, isNum_one.1, isNum_one.2, Nat.zero_le _, hf, rfl, ?_, ?_⟩
        · intro j hj
          simp only [Nat.zero_mul, Nat.add_zero]
          rw [f4, hn3]
          by_cases hjs : j < secs s.length
          · rw [if_pos (by omega), if_pos hjs, show from' + j - from' = j by omega]
          · rw [if_neg (by omega), if_neg hjs, hz _ (by omega) (by omega)]
        · left
          intro j hj
          simp only [Nat.sub_zero, Nat.one_mul]
          refine ⟨zsec, ?_, by rw [numOf_zsec]; decide⟩
          rw [f4, hn3, if_neg (by omega), hz _ (by omega) (by omega)]
      · right
        refine ⟨_, by rw [e4], fun e => by have := u3 e; omega, g4.away, g4.loose, by rw [g4.safe, cutRows_length, f3], fun x hx => ?_⟩
        rw [g4.safe, f3, l3, cutRows_placed _ _ _ _ (by rw [hrl]; omega), hrl, if_neg (by omega)]
    · rw [r3]
      simp only [(by decide : ¬ ((4 : Int) = 0)), not_false_eq_true, if_true]
      right
      have hml : ((layOf 1 s).take m).length = m := by simp; omega
      refine ⟨_, rfl, u3, g3.away, g3.loose, by rw [g3.safe, cutRows_length], fun x hx => ?_⟩
      rw [g3.safe, hl, List.nil_append, cutRows_placed _ _ _ _ (by rw [hml]; omega), hml, if_neg (by omega)]
  · exact absurd (fun x h1 h2 => by rw [hnow]; exact hz x h1 h2) q1
end Go.Wd
