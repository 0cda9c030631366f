/- Twins: two copies of a text in a zone, in plain Lean; the power that goes. No program. -/
import Derived.Test.YthppdlemchmipaaModel2
namespace Go.Wd
open Go.RowKit Go.Sha

structure Tw where
  text : List UInt8
  gen : Int
  side : Nat
  down : Bool
def fits (size : Nat) (s : List UInt8) : Bool := decide (s.length ≤ 1024 ∧ secs s.length ≤ size / 2)
def Dsk.tlayAt (st : Dsk) (A H : Nat) (gen : Int) (s : List UInt8) : Int × Dsk :=
  if (st.fillZ zsec A H).1 ≠ 0 then st.fillZ zsec A H
  else if (st.fillZ zsec A H).2.syncE ≠ 0 then ((st.fillZ zsec A H).2.syncE, (st.fillZ zsec A H).2.synced)
  else if ((st.fillZ zsec A H).2.synced.zput A H 0 (gen + 1) s).1 ≠ 0 then (st.fillZ zsec A H).2.synced.zput A H 0 (gen + 1) s
  else (((st.fillZ zsec A H).2.synced.zput A H 0 (gen + 1) s).2.syncE, ((st.fillZ zsec A H).2.synced.zput A H 0 (gen + 1) s).2.synced)
def Dsk.tlay (st : Dsk) (from' size side : Nat) (gen : Int) (s : List UInt8) : Int × Dsk := st.tlayAt (from' + side * (size / 2)) (size / 2) gen s
def Dsk.tsave (st : Dsk) (from' size : Nat) (t : Tw) (s : List UInt8) : Int × Dsk × Tw :=
  if fits size s = false then (1, st, t)
  else if 2147483647 ≤ t.gen then (10, st, t)
  else if t.down then (4, st, t)
  else
    let r := st.tlay from' size (1 - t.side) t.gen s
    if r.1 ≠ 0 then (r.1, r.2, { t with down := r.1 == 4 }) else (0, r.2, { t with text := s, gen := t.gen + 1, side := 1 - t.side })
def taken (size side : Nat) (g : List UInt8 × Int × Int) (t : Tw) : Tw :=
  if g.2.2 = 0 ∧ fits size g.1 = true ∧ t.gen < g.2.1 then ⟨g.1, g.2.1, side, t.down⟩ else t
def Dsk.topen (st : Dsk) (from' size : Nat) : Int × Tw :=
  if st.away then (4, ⟨[], 0, 0, false⟩)
  else
    let t := taken size 1 (st.zget from' size (size / 2 : Nat)) (taken size 0 (st.zget from' size 0) ⟨[], 0, 0, false⟩)
    if t.gen = 0 then (5, t) else (0, t)
def Dsk.tformat (st : Dsk) (from' size : Nat) (s : List UInt8) : Int × Dsk :=
  let r := st.fillZ zsec from' size
  if r.1 ≠ 0 then r
  else
    let p := r.2.zput from' size 0 1 s
    if p.1 ≠ 0 then p else (p.2.syncE, p.2.synced)

/-! what a run of writes and a sync leaves, with a fuse -/
/-- a disk that is on: what a fuse may be -/
structure Dsk.On (st : Dsk) : Prop where
  on : st.away = false
  fuse : -1 ≤ st.fuse
theorem Dsk.Free.toOn {st : Dsk} (h : st.Free) : st.On := ⟨h.on, by rw [h.fuse]; decide⟩
/-- the power has gone: of the loose writes those that were said are kept -/
structure Dsk.Gone (st st' : Dsk) (l : List (Nat × List UInt8)) : Prop where
  away : st'.away = true
  loose : st'.loose = []
  safe : st'.safe = cutRows st.safe l st.keep
theorem Dsk.On.write {st : Dsk} (h : st.On) {a : Nat} {t : List UInt8} (ha : a < st.safe.length) (ht : t.length = 32) :
    (st.writeE (a : Int) t = 0 ∧ (st.wrote (a : Int) t).On ∧ (st.wrote (a : Int) t).safe = st.safe ∧ (st.wrote (a : Int) t).loose = st.loose ++ [(a, t)] ∧ (st.wrote (a : Int) t).keep = st.keep ∧ (st.fuse = -1 → (st.wrote (a : Int) t).fuse = -1)) ∨
    (st.writeE (a : Int) t = 4 ∧ st.fuse = 0 ∧ st.Gone (st.wrote (a : Int) t) st.loose) := by
  have hc : st.chk (a : Int) = 0 := by unfold Dsk.chk; rw [if_neg (by omega), if_neg (by simp [h.on])]
  by_cases hf : st.fuse = 0
  · right
    have hw : st.wrote (a : Int) t = st.cut st.keep := by unfold Dsk.wrote Dsk.used; rw [if_neg (by omega), if_pos hf, if_pos hf]
    refine ⟨by unfold Dsk.writeE Dsk.useE; rw [if_neg (by omega), if_neg (by omega), if_pos hf], hf, ?_⟩
    rw [hw]; unfold Dsk.cut; rw [if_neg (by simp [h.on])]
    exact ⟨rfl, rfl, rfl⟩
  · left
    have hw : st.wrote (a : Int) t = { st with fuse := max (st.fuse - 1) (-1), done := wrap64 (st.done + 1), loose := st.loose ++ [(a, t)] } := by
      unfold Dsk.wrote Dsk.used; rw [if_neg (by omega), if_neg hf, if_neg hf]; rfl
    refine ⟨by unfold Dsk.writeE Dsk.useE; rw [if_neg (by omega), if_neg (by omega), if_neg hf], ?_⟩
    rw [hw]
    exact ⟨⟨h.on, by simp only; omega⟩, rfl, rfl, rfl, fun e => by simp only; omega⟩
theorem Dsk.On.sync {st : Dsk} (h : st.On) :
    (st.syncE = 0 ∧ st.synced.On ∧ st.synced.safe = st.now ∧ st.synced.loose = [] ∧ st.synced.keep = st.keep ∧ (st.fuse = -1 → st.synced.fuse = -1)) ∨ (st.syncE = 4 ∧ st.fuse = 0 ∧ st.Gone st.synced st.loose) := by
  by_cases hf : st.fuse = 0
  · right
    have hw : st.synced = st.cut st.keep := by unfold Dsk.synced Dsk.used; rw [if_neg (by simp [h.on]), if_pos hf, if_pos hf]
    refine ⟨by unfold Dsk.syncE Dsk.useE; rw [if_neg (by simp [h.on]), if_pos hf], hf, ?_⟩
    rw [hw]; unfold Dsk.cut; rw [if_neg (by simp [h.on])]
    exact ⟨rfl, rfl, rfl⟩
  · left
    have hw : st.synced = { st with fuse := max (st.fuse - 1) (-1), done := wrap64 (st.done + 1), safe := st.now, loose := [] } := by
      unfold Dsk.synced Dsk.used; rw [if_neg (by simp [h.on]), if_neg hf, if_neg hf]
    refine ⟨by unfold Dsk.syncE Dsk.useE; rw [if_neg (by simp [h.on]), if_neg hf], ?_⟩
    rw [hw]
    exact ⟨⟨h.on, by simp only; omega⟩, rfl, rfl, rfl, fun e => by simp only; omega⟩
theorem Dsk.On.put : ∀ (ts : List (List UInt8)) (st : Dsk) (a : Nat), st.On → a + ts.length ≤ st.safe.length → (∀ t ∈ ts, t.length = 32) →
    (∃ st', st.putRows a ts = (0, st') ∧ st'.On ∧ st'.safe = st.safe ∧ st'.loose = st.loose ++ placed a ts ∧ st'.keep = st.keep ∧ (st.fuse = -1 → st'.fuse = -1)) ∨
    (∃ st' m, st.putRows a ts = (4, st') ∧ m < ts.length ∧ st.fuse ≠ -1 ∧ st.Gone st' (st.loose ++ placed a (ts.take m)))
  | [], st, a, h, _, _ => .inl ⟨st, rfl, h, rfl, by simp [placed], rfl, id⟩
  | t :: ts, st, a, h, ha, ht => by
    simp only [List.length_cons] at ha
    rcases h.write (a := a) (t := t) (by omega) (ht t (by simp)) with ⟨e, f, s, l, k, u⟩ | ⟨e, hf, g⟩
    · rcases Dsk.On.put ts (st.wrote (a : Int) t) (a + 1) f (by rw [s]; omega) (fun x hx => ht x (by simp [hx])) with ⟨st', r, f', s', l', k', u'⟩ | ⟨st', m, r, hm, u', g⟩
      · refine .inl ⟨st', ?_, f', s'.trans s, ?_, k'.trans k, fun e => u' (u e)⟩
        · unfold Dsk.putRows; rw [if_pos e]; exact r
        · rw [l', l]; simp [placed]
      · refine .inr ⟨st', m + 1, ?_, by simp; omega, fun e => u' (u e), ⟨g.away, g.loose, ?_⟩⟩
        · unfold Dsk.putRows; rw [if_pos e]; exact r
        · rw [g.safe, s, k, l]; simp [placed]
    · refine .inr ⟨_, 0, ?_, by simp, by omega, ⟨g.away, g.loose, ?_⟩⟩
      · unfold Dsk.putRows; rw [if_neg (by rw [e]; decide), e]
      · rw [g.safe]; simp [placed]
/-- zeros over some sectors from a on -/
def Zr (a n : Nat) (s s' : List (List UInt8)) : Prop := s'.length = s.length ∧ ∀ x, s'[x]? = s[x]? ∨ a ≤ x ∧ x < a + n ∧ s'[x]? = some zsec
theorem Zr.refl (a n : Nat) (s : List (List UInt8)) : Zr a n s s := ⟨rfl, fun _ => .inl rfl⟩
theorem Zr.set {a n : Nat} {s s' : List (List UInt8)} (h : Zr a n s s') {x : Nat} (h1 : a ≤ x) (h2 : x < a + n) : Zr a n s (s'.set x zsec) := by
  refine ⟨by simp [h.1], fun y => ?_⟩
  by_cases hy : y = x
  · subst hy
    by_cases hl : y < s'.length
    · exact .inr ⟨h1, h2, by rw [List.getElem?_set_self hl]⟩
    · rw [List.getElem?_eq_none (by simp; omega), List.getElem?_eq_none (by rw [← h.1]; omega)]; exact .inl rfl
  · rw [List.getElem?_set_ne (by omega)]; exact h.2 y
def ZW (a n : Nat) (l : List (Nat × List UInt8)) : Prop := ∀ p ∈ l, a ≤ p.1 ∧ p.1 < a + n ∧ p.2 = zsec
theorem Zr.cut {a n : Nat} {s : List (List UInt8)} : ∀ (l : List (Nat × List UInt8)) (ks : List Bool) (s' : List (List UInt8)), ZW a n l → Zr a n s s' → Zr a n s (cutRows s' l ks)
  | [], ks, s', _, h => by cases ks <;> exact h
  | p :: l, [], s', _, h => h
  | p :: l, k :: ks, s', hl, h => by
    obtain ⟨p1, p2, p3⟩ := hl p (by simp)
    refine Zr.cut l ks _ (fun q hq => hl q (by simp [hq])) ?_
    cases k
    · exact h
    · simp only [if_true]; rw [p3]; exact h.set p1 p2
/-- a fill of zeros -/
theorem Dsk.On.fill (a0 n0 : Nat) : ∀ (n : Nat) (st : Dsk) (a : Nat), st.On → a + n ≤ st.safe.length → ZW a0 n0 st.loose → a0 ≤ a → a + n ≤ a0 + n0 →
    (∃ st', st.fillZ zsec a n = (0, st') ∧ st'.On ∧ st'.safe = st.safe ∧ ZW a0 n0 st'.loose ∧ st'.keep = st.keep ∧ (st.fuse = -1 → st'.fuse = -1) ∧ (∀ x, st'.now[x]? = if a ≤ x ∧ x < a + n then some zsec else st.now[x]?) ∧
        ((∀ x, a ≤ x → x < a + n → st.now[x]? = some zsec) → st' = st)) ∨
    (∃ st' l, st.fillZ zsec a n = (4, st') ∧ st.fuse ≠ -1 ∧ ZW a0 n0 l ∧ st.Gone st' l ∧ ¬ (∀ x, a ≤ x → x < a + n → st.now[x]? = some zsec))
  | 0, st, a, h, _, hz, _, _ => .inl ⟨st, rfl, h, rfl, hz, rfl, id, fun x => by rw [if_neg (by omega)], fun _ => rfl⟩
  | n + 1, st, a, h, ha, hz, h1, h2 => by
    have hc : st.chk (a : Int) = 0 := by unfold Dsk.chk; rw [if_neg (by omega), if_neg (by simp [h.on])]
    have hlen : a < st.now.length := by rw [now_length]; omega
    by_cases hw : st.now.getD a [] = zsec
    · have hwa : st.now[a]? = some zsec := by simp only [List.getD, List.getElem?_eq_getElem hlen, Option.getD_some] at hw; rw [List.getElem?_eq_getElem hlen, hw]
      rcases Dsk.On.fill a0 n0 n st (a + 1) h (by omega) hz (by omega) (by omega) with ⟨st', r, f, s, z, k, u, nw, q⟩ | ⟨st', l, r, u, z, g, q⟩
      · refine .inl ⟨st', ?_, f, s, z, k, u, fun x => ?_, fun hq => q (fun x hx hx2 => hq x (by omega) (by omega))⟩
        · unfold Dsk.fillZ; rw [if_neg (by omega), if_pos hw]; exact r
        · rw [nw x]
          by_cases hx : x = a
          · subst hx; rw [if_neg (by omega), if_pos (by omega), hwa]
          · by_cases hx2 : a + 1 ≤ x ∧ x < a + 1 + n
            · rw [if_pos hx2, if_pos (by omega)]
            · rw [if_neg hx2, if_neg (by omega)]
      · refine .inr ⟨st', l, ?_, u, z, g, fun hq => q (fun x hx hx2 => hq x (by omega) (by omega))⟩
        unfold Dsk.fillZ; rw [if_neg (by omega), if_pos hw]; exact r
    · have hnz : ¬ ∀ x, a ≤ x → x < a + (n + 1) → st.now[x]? = some zsec := fun hq => hw (by simp [List.getD, hq a (by omega) (by omega)])
      rcases h.write (a := a) (t := zsec) (by omega) rfl with ⟨e, f, s, l, k, u⟩ | ⟨e, hf, g⟩
      · have hz2 : ZW a0 n0 (st.wrote (a : Int) zsec).loose := by
          rw [l]; intro p hp
          rcases List.mem_append.1 hp with hp | hp
          · exact hz p hp
          · rw [List.mem_singleton.1 hp]; exact ⟨h1, by omega, rfl⟩
        have hnow : (st.wrote (a : Int) zsec).now = st.now.set a zsec := by unfold Dsk.now; rw [s, l, allRows_snoc]
        rcases Dsk.On.fill a0 n0 n _ (a + 1) f (by rw [s]; omega) hz2 (by omega) (by omega) with ⟨st', r, f', s', z, k', u', nw, q⟩ | ⟨st', l', r, u', z, g, q⟩
        · refine .inl ⟨st', ?_, f', s'.trans s, z, k'.trans k, fun e => u' (u e), fun x => ?_, fun hq => absurd hq hnz⟩
          · unfold Dsk.fillZ; rw [if_neg (by omega), if_neg hw, if_pos e]; exact r
          · rw [nw x, hnow]
            by_cases hx : x = a
            · subst hx; rw [if_neg (by omega), if_pos (by omega), List.getElem?_set_self hlen]
            · by_cases hx2 : a + 1 ≤ x ∧ x < a + 1 + n
              · rw [if_pos hx2, if_pos (by omega)]
              · rw [if_neg hx2, if_neg (by omega), List.getElem?_set_ne (by omega)]
        · refine .inr ⟨st', l', ?_, fun e => u' (u e), z, ⟨g.away, g.loose, by rw [g.safe, s, k]⟩, hnz⟩
          unfold Dsk.fillZ; rw [if_neg (by omega), if_neg hw, if_pos e]; exact r
      · refine .inr ⟨_, st.loose, ?_, by omega, hz, g, hnz⟩
        unfold Dsk.fillZ; rw [if_neg (by omega), if_neg hw, if_neg (by rw [e]; decide), e]
/-- a copy is laid: all of it, or the power goes ahead of the rows, or among them -/
theorem Dsk.On.tlay {st : Dsk} (h : st.On) (hl : st.loose = []) (A H : Nat) (gen : Int) (s : List UInt8) (hg : isNum (gen + 1) = true) (hfs : s.length ≤ 1024 ∧ secs s.length ≤ H) (hlen : A + H ≤ st.safe.length) :
    (∃ st', st.tlayAt A H gen s = (0, st') ∧ st'.On ∧ st'.loose = [] ∧ st'.keep = st.keep ∧ (st.fuse = -1 → st'.fuse = -1) ∧ st'.safe.length = st.safe.length ∧
      ∀ x, st'.safe[x]? = if A ≤ x ∧ x < A + H then (if x - (A) < secs s.length then (layOf (gen + 1) s)[x - (A)]? else some zsec) else st.safe[x]?) ∨
    (∃ st', st.tlayAt A H gen s = (4, st') ∧ st.fuse ≠ -1 ∧ st'.away = true ∧ st'.loose = [] ∧ (Zr A H st.safe st'.safe ∨
      ∃ m, st'.safe.length = st.safe.length ∧ ∀ x, st'.safe[x]? = if A ≤ x ∧ x < A + H then
        (if x - (A) < m ∧ x - (A) < secs s.length ∧ st.keep[x - (A)]? = some true then (layOf (gen + 1) s)[x - (A)]? else some zsec) else st.safe[x]?)) := by
  have hnow : st.now = st.safe := Dsk.now_nil hl
  unfold Dsk.tlayAt
  rcases Dsk.On.fill A H H st A h hlen (by rw [hl]; intro p hp; cases hp) (Nat.le_refl _) (Nat.le_refl _) with ⟨s1, r1, o1, f1, z1, k1, u1, n1, _⟩ | ⟨s1, l1, r1, u1, z1, g1, _⟩
  · rw [r1]
    simp only [ne_eq, not_true_eq_false, if_false]
    rcases o1.sync with ⟨e2, o2, f2, l2, k2, u2⟩ | ⟨e2, uf2, g2⟩
    · rw [if_neg (by rw [e2]; decide)]
      have hs2 : ∀ x, s1.synced.safe[x]? = if A ≤ x ∧ x < A + H then some zsec else st.safe[x]? := fun x => by rw [f2, n1 x, hnow]
      have hl2 : s1.synced.safe.length = st.safe.length := by rw [f2, now_length, f1]
      have hz : s1.synced.zput A H 0 (gen + 1) s = s1.synced.putRows A (layOf (gen + 1) s) := by
        unfold Dsk.zput
        have : H ≠ 0 := by have := secs_two s.length; omega
        rw [if_neg (by rw [hg]; simp; omega), if_neg (by omega)]
        simp
      rw [hz]
      have hrl := layOf_length (gen + 1) s
      rcases Dsk.On.put (layOf (gen + 1) s) s1.synced A o2 (by rw [hl2, hrl]; omega) (layOf_len _ _) with ⟨s3, r3, o3, f3, l3, k3, u3⟩ | ⟨s3, m, r3, hm, u3, g3⟩
      · rw [r3]
        simp only [not_true_eq_false, if_false]
        rw [l2, List.nil_append] at l3
        have hn3 : ∀ x, s3.now[x]? = if A ≤ x ∧ x < A + H then (if x - A < secs s.length then (layOf (gen + 1) s)[x - A]? else some zsec) else st.safe[x]? := fun x => by
          unfold Dsk.now
          rw [f3, l3, allRows_placed _ _ _ (by rw [hl2, hrl]; omega), hrl, hs2 x]
          by_cases hx : A ≤ x ∧ x < A + H
          · rw [if_pos hx]
            by_cases hx2 : x - A < secs s.length
            · rw [if_pos (by omega), if_pos hx, if_pos hx2]
            · rw [if_neg (by omega), if_pos hx, if_neg hx2]
          · rw [if_neg (by omega), if_neg hx, if_neg hx]
        rcases o3.sync with ⟨e4, o4, f4, l4, k4, u4⟩ | ⟨e4, uf4, g4⟩
        · left
          exact ⟨_, by rw [e4], o4, l4, by rw [k4, k3, k2, k1], fun e => u4 (u3 (u2 (u1 e))), by rw [f4, now_length, f3, hl2], fun x => by rw [f4]; exact hn3 x⟩
        · right
          refine ⟨_, by rw [e4], fun e => by have := u3 (u2 (u1 e)); omega, g4.away, g4.loose, .inr ⟨secs s.length, by rw [g4.safe, cutRows_length, f3, hl2], fun x => ?_⟩⟩
          rw [g4.safe, f3, l3, k3, k2, k1, cutRows_placed _ _ _ _ (by rw [hl2, hrl]; omega), hrl, hs2 x]
          by_cases hx : A ≤ x ∧ x < A + H
          · by_cases hx2 : x - A < secs s.length ∧ st.keep[x - A]? = some true
            · rw [if_pos ⟨hx.1, by omega, hx2.2⟩, if_pos hx, if_pos ⟨hx2.1, hx2⟩]
            · rw [if_neg (fun hh => hx2 ⟨by omega, hh.2.2⟩), if_pos hx, if_pos hx, if_neg (fun hh => hx2 hh.2)]
          · rw [if_neg (by omega), if_neg hx, if_neg hx]
      · rw [r3]
        simp only [(by decide : ¬ ((4 : Int) = 0)), not_false_eq_true, if_true]
        right
        rw [l2, List.nil_append] at g3
        refine ⟨_, rfl, fun e => u3 (u2 (u1 e)), g3.away, g3.loose, .inr ⟨m, by rw [g3.safe, cutRows_length, hl2], fun x => ?_⟩⟩
        have hml : ((layOf (gen + 1) s).take m).length = m := by simp; omega
        rw [g3.safe, k2, k1, cutRows_placed _ _ _ _ (by rw [hl2, hml]; omega), hml, hs2 x]
        by_cases hx : A ≤ x ∧ x < A + H
        · by_cases hx2 : x - A < m ∧ st.keep[x - A]? = some true
          · rw [if_pos ⟨hx.1, by omega, hx2.2⟩, if_pos hx, if_pos ⟨hx2.1, by omega, hx2.2⟩, List.getElem?_take_of_lt hx2.1]
          · rw [if_neg (fun hh => hx2 ⟨by omega, hh.2.2⟩), if_pos hx, if_pos hx, if_neg (fun hh => hx2 ⟨hh.1, hh.2.2⟩)]
        · rw [if_neg (by omega), if_neg hx, if_neg hx]
    · rw [if_pos (by rw [e2]; decide)]
      right
      exact ⟨_, by rw [e2], fun e => by have := u1 e; omega, g2.away, g2.loose, .inl (by rw [g2.safe, f1]; exact Zr.cut _ _ _ z1 (Zr.refl _ _ _))⟩
  · rw [r1]
    simp only [ne_eq, (by decide : ¬ ((4 : Int) = 0)), not_false_eq_true, if_true]
    right
    exact ⟨_, rfl, u1, g1.away, g1.loose, .inl (by rw [g1.safe]; exact Zr.cut _ _ _ z1 (Zr.refl _ _ _))⟩
end Go.Wd
