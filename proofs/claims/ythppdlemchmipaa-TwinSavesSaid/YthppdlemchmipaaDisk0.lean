/- The disk's state, in plain Lean, and what its blocks hold. No program's function. -/
import Derived.Test.YthppdlemchmipaaWords3
import Derived.Deep.RegionLaw
import Derived.Deep.MidRow
namespace Go.Wd
open Go.RowKit

structure Dsk where
  away : Bool
  fuse : Int
  keep : List Bool
  safe : List (List UInt8)
  loose : List (Nat × List UInt8)
  done : Int

/-- loose writes over safe sectors, those that 'keep' says -/
def cutRows : List (List UInt8) → List (Nat × List UInt8) → List Bool → List (List UInt8)
  | s, [], _ => s
  | s, _ :: _, [] => s
  | s, p :: l, k :: ks => cutRows (if k then s.set p.1 p.2 else s) l ks
/-- all loose writes over safe sectors -/
def allRows : List (List UInt8) → List (Nat × List UInt8) → List (List UInt8)
  | s, [] => s
  | s, p :: l => allRows (s.set p.1 p.2) l
theorem cutRows_length (l : List (Nat × List UInt8)) : ∀ (s : List (List UInt8)) (ks : List Bool), (cutRows s l ks).length = s.length := by
  induction l with
  | nil => intro s ks; cases ks <;> rfl
  | cons p l ih =>
    intro s ks
    cases ks with
    | nil => rfl
    | cons k ks => simp only [cutRows, ih]; split <;> simp
theorem allRows_length (l : List (Nat × List UInt8)) : ∀ (s : List (List UInt8)), (allRows s l).length = s.length := by
  induction l with
  | nil => intro s; rfl
  | cons p l ih => intro s; simp only [allRows, ih]; simp
theorem allRows_append (l m : List (Nat × List UInt8)) : ∀ s, allRows s (l ++ m) = allRows (allRows s l) m := by
  induction l with
  | nil => intro s; rfl
  | cons p l ih => intro s; exact ih _
theorem allRows_snoc (l : List (Nat × List UInt8)) (p : Nat × List UInt8) (s : List (List UInt8)) : allRows s (l ++ [p]) = (allRows s l).set p.1 p.2 := by rw [allRows_append]; rfl
def Dsk.now (st : Dsk) : List (List UInt8) := allRows st.safe st.loose
def Dsk.cut (st : Dsk) (ks : List Bool) : Dsk := if st.away then st else { st with safe := cutRows st.safe st.loose ks, loose := [], away := true }
def Dsk.useE (st : Dsk) : Int := if st.fuse = 0 then 4 else 0
def Dsk.used (st : Dsk) : Dsk := if st.fuse = 0 then st.cut st.keep else { st with fuse := max (st.fuse - 1) (-1), done := wrap64 (st.done + 1) }
def Dsk.chk (st : Dsk) (at' : Int) : Int := if at' < 0 ∨ (st.safe.length : Int) ≤ at' then 3 else if st.away then 4 else 0
def Dsk.come (st : Dsk) : Dsk := if st.away then { st with away := false, fuse := -1 } else st
def Dsk.of (l : List (List UInt8)) : Dsk := ⟨false, -1, [], l, [], 0⟩

def wcells (l : List (Nat × List UInt8)) : List Value := l.flatMap fun p => [.int .i64 (p.1 : Int), S p.2]
theorem wcells_length (l : List (Nat × List UInt8)) : (wcells l).length = l.length * 2 := by
  induction l with
  | nil => rfl
  | cons p l ih => simp only [wcells, List.flatMap_cons, List.length_append] at ih ⊢; simp only [List.length_cons, List.length_nil, ih]; omega
theorem wcells_append (l m : List (Nat × List UInt8)) : wcells (l ++ m) = wcells l ++ wcells m := by simp [wcells]
theorem wcells_at : ∀ (l : List (Nat × List UInt8)) (k : Nat) (p : Nat × List UInt8), l[k]? = some p → (wcells l)[k * 2]? = some (.int .i64 (p.1 : Int)) ∧ (wcells l)[k * 2 + 1]? = some (S p.2)
  | [], k, p, h => by simp at h
  | q :: l, 0, p, h => by simp at h; subst h; exact ⟨rfl, rfl⟩
  | q :: l, k + 1, p, h => by
    have ih := wcells_at l k p (by simpa using h)
    have e : wcells (q :: l) = .int .i64 (q.1 : Int) :: S q.2 :: wcells l := rfl
    rw [e, show (k + 1) * 2 = k * 2 + 1 + 1 by omega]
    exact ⟨by simpa using ih.1, by simpa using ih.2⟩

/-- a slice of bools that can be read -/
def Bools (w : World) (v : Value) (l : List Bool) : Prop :=
  (v = .slice none 0 0 ∧ l = []) ∨ ∃ a cap, v = .slice (some a) l.length cap ∧ ∀ j b, l[j]? = some b → w.cell? (a.add j) = some (.bool b)
/-- one in a block of its own -/
def BoolsIn (tb : TypeId) (B : Nat) (w : World) (v : Value) (l : List Bool) : Prop :=
  (v = .slice none 0 0 ∧ l = []) ∨ ∃ (g cap : Nat) (cs : Array Value) (fz : Nat × Nat), v = .slice (some ⟨g, 0, none⟩) l.length cap ∧ B ≤ g ∧ w.heap[g]? = some (.cells cs tb fz) ∧ ∀ (j : Nat) (b : Bool), l[j]? = some b → cs[j]? = some (Value.bool b)
theorem BoolsIn.read {tb B w v l} (h : BoolsIn tb B w v l) : Bools w v l := by
  rcases h with h | ⟨g, cap, cs, fz, rfl, _, hg, hc⟩
  · exact .inl h
  · refine .inr ⟨_, _, rfl, fun j b hj => ?_⟩
    rw [Addr.add_mid]
    simp [World.cell?, hg, hc j b hj]

/-- what a disk's methods leave alone: what lies below B; every block but D and the safe row's that is no row of writes -/
structure DK (e : TypeId) (B D : Nat) (vs : Value) (w w' : World) : Prop where
  below : Below B w w'
  others : ∀ k o, k ≠ D → vs.ownBlock ≠ some k → w.heap[k]? = some o → (∀ c fz, o ≠ .cells c e fz) → w'.heap[k]? = some o
section
variable {e T : TypeId} {B D n : Nat} {vs : Value} {w w1 w2 : World} {cs : List Value}
theorem DK.refl (e : TypeId) (B D : Nat) (vs : Value) (w : World) : DK e B D vs w w := ⟨Below.refl _ _, fun _ _ _ _ h _ => h⟩
theorem DK.trans (h : DK e B D vs w w1) (k : DK e B D vs w1 w2) : DK e B D vs w w2 :=
  ⟨h.below.trans k.below, fun i o hi hv ho hc => k.others i o hi hv (h.others i o hi hv ho hc) hc⟩
theorem DK.of_keeps {F : Nat → Prop} (h : Keeps F w w1) (hF : ∀ x, x < w.heap.size → F x → x = D ∨ vs.ownBlock = some x) (hB : B ≤ D) (hv : ∀ g, vs.ownBlock = some g → B ≤ g) (hBw : B ≤ w.heap.size) : DK e B D vs w w1 :=
  ⟨h.below hBw (fun x hx hf => by
    rcases hF x (by omega) hf with rfl | hv'
    · omega
    · have := hv _ hv'; omega),
   fun k o hk hkv ho _ => by
    have hlt := (Array.getElem?_eq_some_iff.1 ho).1
    rw [h.block k hlt (fun hf => by rcases hF k hlt hf with rfl | hv' <;> contradiction)]
    exact ho⟩
theorem DK.size (h : DK e B D vs w w1) : w.heap.size ≤ w1.heap.size := h.below.size
theorem DK.drew (h : DK e B D vs w w1) : DK e B D vs w w1.drew := ⟨h.below.drew, h.others⟩
theorem DK.new (h : DK e B D vs w w1) (hB : B ≤ w.heap.size) (hb : Below w1.heap.size w1 w2) : DK e B D vs w w2 :=
  ⟨h.below.trans (hb.mono (Nat.le_trans hB h.size)), fun k o hk hv ho hc => by
    have h1 := h.others k o hk hv ho hc
    exact (hb.block k (Array.getElem?_eq_some_iff.1 h1).1).trans h1⟩
theorem DK.alloc (h : DK e B D vs w w1) (hB : B ≤ w.heap.size) (o : Obj) : DK e B D vs w (w1.alloc o) :=
  h.new hB ((Below.refl _ _).alloc (Nat.le_refl _) o)
theorem DK.setD (h : DK e B D vs w w1) (hB : B ≤ D) (i : Nat) (v : Value) : DK e B D vs w (w1.setCell ⟨D, i, none⟩ v) :=
  ⟨h.below.setCell (p := ⟨D, i, none⟩) hB v, fun k p hk hv hp hc => by rw [Below.heap_setCell _ _ _ _ hk]; exact h.others k p hk hv hp hc⟩
theorem DK.setS (h : DK e B D vs w w1) {g : Nat} (hg : vs.ownBlock = some g) (hB : B ≤ g) (i : Nat) (v : Value) : DK e B D vs w (w1.setCell ⟨g, i, none⟩ v) :=
  ⟨h.below.setCell (p := ⟨g, i, none⟩) hB v, fun k p hk hv hp hc => by rw [Below.heap_setCell _ _ _ _ (fun e => hv (by rw [hg, e]))]; exact h.others k p hk hv hp hc⟩
theorem DK.setNew (h : DK e B D vs w w1) (hB : B ≤ w.heap.size) {g : Nat} (hg : w.heap.size ≤ g) (i : Nat) (v : Value) : DK e B D vs w (w1.setCell ⟨g, i, none⟩ v) :=
  ⟨h.below.setCell (p := ⟨g, i, none⟩) (by simp; omega) v, fun k p hk hv hp hc => by
    have hlt := (Array.getElem?_eq_some_iff.1 hp).1
    rw [Below.heap_setCell _ _ _ _ (by simp; omega)]; exact h.others k p hk hv hp hc⟩
theorem DK.row (h : DK e B D vs w w1) (hr : Row w n T cs) (hn : n ≠ D) (hv : vs.ownBlock ≠ some n) (hT : T ≠ e) : Row w1 n T cs :=
  h.others n _ hn hv hr (fun c fz hh => hT (by injection hh))
end
/-- the ids of types that are wanted -/
structure DT where
  disk : TypeId
  write : TypeId
  str : TypeId
  bool : TypeId
  h1 : disk ≠ write
  h2 : disk ≠ str
  h3 : str ≠ write
  h4 : bool ≠ disk
  h5 : bool ≠ str
  h6 : bool ≠ write
def DiskP (t : DT) (B D : Nat) (kv vs vl : Value) (st : Dsk) (w : World) : Prop :=
  B ≤ D ∧ Row w D t.disk [.bool st.away, .int .i64 st.fuse, kv, vs, vl, .int .i64 st.done] ∧ w.ownsRow B t.write 2 vl st.loose.length (wcells st.loose) ∧ w.ownsRow B t.str 1 vs st.safe.length (st.safe.map S) ∧
  BoolsIn t.bool B w kv st.keep ∧ (∀ p ∈ st.loose, p.1 < st.safe.length ∧ p.2.length = 32) ∧ (∀ s ∈ st.safe, s.length = 32) ∧ st.safe.length ≤ 4096 ∧ -1 ≤ st.fuse ∧ st.fuse ≤ 9223372036854775807
def DiskAt (t : DT) (B D : Nat) (vs : Value) (st : Dsk) (w : World) : Prop := ∃ kv vl, DiskP t B D kv vs vl st w
theorem own_shape {w : World} {base n size : Nat} {e : TypeId} {v : Value} {xs : List Value} (h : w.ownsRow base e size v n xs) : ∃ p c, v = .slice p n c := by
  rcases h.2 with ⟨rfl, rfl⟩ | ⟨g, cap, cur, rfl, _⟩
  · exact ⟨_, _, rfl⟩
  · exact ⟨_, _, rfl⟩
theorem own_pos {w : World} {base n size : Nat} {e : TypeId} {v : Value} {xs : List Value} (h : w.ownsRow base e size v n xs) (hn : 0 < n) : ∃ g c, v = .slice (some ⟨g, 0, none⟩) n c ∧ base ≤ g ∧ g < w.heap.size ∧ v.ownBlock = some g := by
  rcases h.2 with ⟨_, rfl⟩ | ⟨g, cap, cur, rfl, hb, hg, _⟩
  · omega
  · exact ⟨g, cap, rfl, hb, (Array.getElem?_eq_some_iff.1 hg).1, rfl⟩
/-- the row after a store into one of its elements' cells -/
theorem own_set {w : World} {base n size g i : Nat} {e : TypeId} {v : Value} {xs : List Value} (h : w.ownsRow base e size v n xs) (hg : v.ownBlock = some g) (hi : i < n * size) (u : Value) : (w.setCell ⟨g, i, none⟩ u).ownsRow base e size v n (xs.set i u) := by
  refine ⟨by simp [h.1], ?_⟩
  rcases h.2 with ⟨rfl, _⟩ | ⟨g', cap, cur, rfl, hb, hh, hn, hm, hs, ht⟩
  · simp [Value.ownBlock] at hg
  · simp only [Value.ownBlock, Option.some.injEq] at hg
    subst hg
    refine .inr ⟨g', cap, cur.setIfInBounds i u, rfl, hb, heap_setCell_same _ _ _ _ _ _ hh, hn, hm, by simpa using hs, ?_⟩
    rw [← ht]
    apply List.ext_getElem?
    intro j
    simp only [Array.toList_setIfInBounds, List.getElem?_take, List.getElem?_set, List.length_take, Array.length_toList]
    by_cases h1 : i = j
    · subst h1
      have : (i < min (n * size) cur.size) = (i < cur.size) := by apply propext; omega
      simp [hi, this]
    · simp [h1]
theorem own_frozen {w : World} {base n size g : Nat} {e : TypeId} {v : Value} {xs : List Value} (h : w.ownsRow base e size v n xs) (hg : v.ownBlock = some g) (j : Nat) : w.frozen? ⟨g, j, none⟩ = false := by
  rcases h.2 with ⟨rfl, _⟩ | ⟨g', cap, cur, rfl, hb, hh, _⟩
  · simp [Value.ownBlock] at hg
  · simp only [Value.ownBlock, Option.some.injEq] at hg
    subst hg
    simp [World.frozen?, hh]
theorem own_keep {w w1 : World} {base n size : Nat} {e : TypeId} {v : Value} {xs : List Value} (h : w.ownsRow base e size v n xs) (hk : ∀ g o, v.ownBlock = some g → w.heap[g]? = some o → w1.heap[g]? = some o) : w1.ownsRow base e size v n xs := by
  refine ⟨h.1, ?_⟩
  rcases h.2 with hn | ⟨g, cap, cur, rfl, hb, hh, r⟩
  · exact .inl hn
  · exact .inr ⟨g, cap, cur, rfl, hb, hk g _ rfl hh, r⟩
theorem own_other {w : World} {base n size base' n' size' : Nat} {e e' : TypeId} {v v' : Value} {xs xs' : List Value} (h : w.ownsRow base e size v n xs) (h' : w.ownsRow base' e' size' v' n' xs') (he : e ≠ e') {g : Nat} (hg : v.ownBlock = some g) : v'.ownBlock ≠ some g := by
  intro hg'
  rcases h.2 with ⟨rfl, _⟩ | ⟨a, _, _, rfl, _, ha, _⟩
  · simp [Value.ownBlock] at hg
  rcases h'.2 with ⟨rfl, _⟩ | ⟨b, _, _, rfl, _, hb, _⟩
  · simp [Value.ownBlock] at hg'
  simp only [Value.ownBlock, Option.some.injEq] at hg hg'
  subst hg; subst hg'
  rw [ha] at hb
  injection hb with hb
  injection hb with _ hb _
  exact he hb
def DiskQ (t : DT) (B D : Nat) (kv vs vl : Value) (st : Dsk) (w : World) : Prop :=
  B ≤ D ∧ Row w D t.disk [.bool st.away, .int .i64 st.fuse, kv, vs, vl, .int .i64 st.done] ∧ w.ownsRow B t.str 1 vs st.safe.length (st.safe.map S) ∧
  BoolsIn t.bool B w kv st.keep ∧ (∀ s ∈ st.safe, s.length = 32) ∧ st.safe.length ≤ 4096
theorem DiskP.q {B D : Nat} {kv vs vl : Value} {st : Dsk} {w : World} {t : DT} (h : DiskP t B D kv vs vl st w) : DiskQ t B D kv vs vl st w := ⟨h.1, h.2.1, h.2.2.2.1, h.2.2.2.2.1, h.2.2.2.2.2.2.1, h.2.2.2.2.2.2.2.1⟩
theorem DiskQ.setG {B D : Nat} {kv vs vl kv' vl' : Value} {st st' : Dsk} {w : World} {t : DT} (h : DiskQ t B D kv vs vl st w) (i : Nat) (v : Value)
    (hrow : [Value.bool st.away, .int .i64 st.fuse, kv, vs, vl, .int .i64 st.done].set i v = [.bool st'.away, .int .i64 st'.fuse, kv', vs, vl', .int .i64 st'.done])
    (hl : w.ownsRow B t.write 2 vl' st'.loose.length (wcells st'.loose)) (hk : BoolsIn t.bool B w kv' st'.keep) (h2 : st'.safe = st.safe) (hp : ∀ p ∈ st'.loose, p.1 < st.safe.length ∧ p.2.length = 32)
    (h4 : -1 ≤ st'.fuse) (h5 : st'.fuse ≤ 9223372036854775807) : DiskP t B D kv' vs vl' st' (w.setCell ⟨D, i, none⟩ v) := by
  obtain ⟨hB, hr, hs, _, hs2, hn⟩ := h
  have hne : ∀ g o, w.heap[g]? = some o → g ≠ D → (w.setCell ⟨D, i, none⟩ v).heap[g]? = some o := fun g o hg hd => by rw [Below.heap_setCell _ _ _ _ hd]; exact hg
  have hrD : w.heap[D]? = some (.cells _ t.disk (0, 0)) := hr
  have ho : ∀ {e : TypeId} {size n : Nat} {u : Value} {xs : List Value}, w.ownsRow B e size u n xs → t.disk ≠ e → (w.setCell ⟨D, i, none⟩ v).ownsRow B e size u n xs := fun hown he => own_keep hown fun g o hg ho => hne g o ho (by
    rintro rfl
    rcases hown.2 with ⟨rfl, _⟩ | ⟨a, _, _, rfl, _, ha, _⟩
    · simp [Value.ownBlock] at hg
    · simp only [Value.ownBlock, Option.some.injEq] at hg
      subst hg
      rw [ha] at hrD
      injection hrD with hrD
      injection hrD with _ hrD _
      exact he hrD.symm)
  refine ⟨hB, hr.set i v hrow, ho hl t.h1, h2 ▸ ho hs t.h2, ?_, h2 ▸ hp, h2 ▸ hs2, h2 ▸ hn, h4, h5⟩
  rcases hk with hk | ⟨g, cap, cs, fz, rfl, hb, hg, hc⟩
  · exact .inl hk
  · refine .inr ⟨g, cap, cs, fz, rfl, hb, hne g _ hg ?_, hc⟩
    rintro rfl
    rw [hg] at hrD
    injection hrD with hrD
    injection hrD with _ hrD _
    exact t.h4 hrD
theorem DiskP.setG {B D : Nat} {kv vs vl kv' vl' : Value} {st st' : Dsk} {w : World} {t : DT} (h : DiskP t B D kv vs vl st w) (i : Nat) (v : Value)
    (hrow : [Value.bool st.away, .int .i64 st.fuse, kv, vs, vl, .int .i64 st.done].set i v = [.bool st'.away, .int .i64 st'.fuse, kv', vs, vl', .int .i64 st'.done])
    (hl : w.ownsRow B t.write 2 vl' st'.loose.length (wcells st'.loose)) (hk : BoolsIn t.bool B w kv' st'.keep) (h2 : st'.safe = st.safe) (hp : ∀ p ∈ st'.loose, p.1 < st.safe.length ∧ p.2.length = 32)
    (h4 : -1 ≤ st'.fuse) (h5 : st'.fuse ≤ 9223372036854775807) : DiskP t B D kv' vs vl' st' (w.setCell ⟨D, i, none⟩ v) :=
  DiskQ.setG (DiskP.q h) i v hrow hl hk h2 hp h4 h5
theorem DiskP.setD {B D : Nat} {kv vs vl : Value} {st st' : Dsk} {w : World} {t : DT} (h : DiskP t B D kv vs vl st w) (i : Nat) (v : Value)
    (hrow : [Value.bool st.away, .int .i64 st.fuse, kv, vs, vl, .int .i64 st.done].set i v = [.bool st'.away, .int .i64 st'.fuse, kv, vs, vl, .int .i64 st'.done])
    (h1 : st'.loose = st.loose) (h2 : st'.safe = st.safe) (h3 : st'.keep = st.keep) (h4 : -1 ≤ st'.fuse) (h5 : st'.fuse ≤ 9223372036854775807) : DiskP t B D kv vs vl st' (w.setCell ⟨D, i, none⟩ v) :=
  DiskP.setG h i v hrow (h1 ▸ h.2.2.1) (h3 ▸ h.2.2.2.2.1) h2 (h1 ▸ h.2.2.2.2.2.1) h4 h5
theorem DiskP.keep {B D : Nat} {kv vs vl : Value} {st : Dsk} {w w1 : World} {t : DT} (h : DiskP t B D kv vs vl st w) (hk : ∀ (k : Nat) (o : Obj), w.heap[k]? = some o → w1.heap[k]? = some o) : DiskP t B D kv vs vl st w1 := by
  obtain ⟨hB, hr, hl, hs, hkv, r⟩ := h
  refine ⟨hB, hk _ _ hr, own_keep hl fun g _ _ => hk g _, own_keep hs fun g _ _ => hk g _, ?_, r⟩
  rcases hkv with hkv | ⟨g, cap, cs, fz, rfl, hb, hg, hc⟩
  · exact .inl hkv
  · exact .inr ⟨g, cap, cs, fz, rfl, hb, hk _ _ hg, hc⟩
theorem DiskP.new {B D : Nat} {kv vs vl : Value} {st : Dsk} {w w1 : World} {t : DT} (h : DiskP t B D kv vs vl st w) (hb : Below w.heap.size w w1) : DiskP t B D kv vs vl st w1 :=
  h.keep fun k _ hk => (hb.block k (Array.getElem?_eq_some_iff.1 hk).1).trans hk
/-- a sector is stored -/
theorem DiskP.setS {B D g i : Nat} {kv vs vl : Value} {st : Dsk} {w : World} {t : DT} (h : DiskP t B D kv vs vl st w) (hg : vs.ownBlock = some g) (hi : i < st.safe.length) (x : List UInt8) (hx : x.length = 32) :
    DiskP t B D kv vs vl { st with safe := st.safe.set i x } (w.setCell ⟨g, i, none⟩ (S x)) := by
  obtain ⟨hB, hr, hl, hs, hk, hp, hs2, hn, r⟩ := h
  have hrg : ∃ cur, w.heap[g]? = some (.cells cur t.str (0, 0)) := by
    rcases hs.2 with ⟨rfl, _⟩ | ⟨a, _, cur, rfl, _, ha, _⟩
    · simp [Value.ownBlock] at hg
    · simp only [Value.ownBlock, Option.some.injEq] at hg
      subst hg; exact ⟨cur, ha⟩
  obtain ⟨cur, hrg⟩ := hrg
  have hne : ∀ k o, w.heap[k]? = some o → k ≠ g → (w.setCell ⟨g, i, none⟩ (S x)).heap[k]? = some o := fun k o hk hd => by rw [Below.heap_setCell _ _ _ _ hd]; exact hk
  have hDg : D ≠ g := by
    rintro rfl
    unfold Row at hr
    rw [hrg] at hr
    injection hr with hr
    injection hr with _ hr _
    exact t.h2 hr.symm
  refine ⟨hB, hne _ _ hr hDg, own_keep hl fun k o hk ho => hne k o ho (fun e => own_other hs hl t.h3 hg (e ▸ hk)), ?_, ?_, fun p hpp => ⟨by simpa using (hp p hpp).1, (hp p hpp).2⟩, ?_, by simpa using hn, r⟩
  · have := own_set hs hg (i := i) (by omega) (S x)
    simpa [List.map_set] using this
  · rcases hk with hk | ⟨k, cap, cs, fz, rfl, hb, hkk, hc⟩
    · exact .inl hk
    · refine .inr ⟨k, cap, cs, fz, rfl, hb, hne k _ hkk ?_, hc⟩
      rintro rfl
      rw [hrg] at hkk
      injection hkk with hkk
      injection hkk with _ hkk _
      exact t.h5 hkk.symm
  · intro s hss
    rcases List.mem_or_eq_of_mem_set hss with h | rfl
    · exact hs2 s h
    · exact hx
theorem own_typed {w : World} {base n size : Nat} {e : TypeId} {v : Value} {xs : List Value} (h : w.ownsRow base e size v n xs) {g : Nat} (hg : v.ownBlock = some g) : ∃ cur, w.heap[g]? = some (.cells cur e (0, 0)) := by
  rcases h.2 with ⟨rfl, _⟩ | ⟨a, _, cur, rfl, _, ha, _⟩
  · simp [Value.ownBlock] at hg
  · simp only [Value.ownBlock, Option.some.injEq] at hg
    subst hg; exact ⟨cur, ha⟩
/-- a write more -/
theorem DiskP.app {B D : Nat} {kv vs vl vl' : Value} {st : Dsk} {w w2 : World} {t : DT} (h : DiskP t B D kv vs vl st w) (hg : w.grownBy w2 vl.ownBlock) (p : Nat × List UInt8)
    (hl : w2.ownsRow B t.write 2 vl' (st.loose ++ [p]).length (wcells (st.loose ++ [p]))) (hp : p.1 < st.safe.length ∧ p.2.length = 32) :
    DiskP t B D kv vs vl' { st with loose := st.loose ++ [p] } (w2.setCell ⟨D, 4, none⟩ vl') := by
  obtain ⟨hB, hr, hl0, hs, hk, hp0, hs2, hn, h4, h5⟩ := h
  have hne : ∀ (k : Nat) (o : Obj), w.heap[k]? = some o → (∀ c fz, o ≠ .cells c t.write fz) → w2.heap[k]? = some o := fun k o hk hc => by
    rw [hg.block k (Array.getElem?_eq_some_iff.1 hk).1 (fun e => by
      obtain ⟨cur, hcur⟩ := own_typed hl0 e.symm
      rw [hk] at hcur
      injection hcur with hcur
      exact hc _ _ hcur)]
    exact hk
  refine DiskQ.setG (kv := kv) (vl := vl) (st := st) ⟨hB, hne _ _ hr (fun c fz hh => t.h1 (by injection hh)), own_keep hs (fun g o hgg ho => hne g o ho (fun c fz hh => ?_)), ?_, hs2, hn⟩ 4 vl' rfl hl ?_ rfl ?_ h4 h5
  · obtain ⟨cur, hcur⟩ := own_typed hs hgg
    rw [ho] at hcur
    injection hcur with hcur
    rw [hcur] at hh
    injection hh with _ hh _
    exact t.h3 hh
  · rcases hk with hk | ⟨g, cap, cs, fz, rfl, hb, hgg, hc⟩
    · exact .inl hk
    · exact .inr ⟨g, cap, cs, fz, rfl, hb, hne g _ hgg (fun c fz hh => t.h6 (by injection hh)), hc⟩
  · rcases hk with hk | ⟨g, cap, cs, fz, rfl, hb, hgg, hc⟩
    · exact .inl hk
    · exact .inr ⟨g, cap, cs, fz, rfl, hb, hne g _ hgg (fun c fz hh => t.h6 (by injection hh)), hc⟩
  · intro q hq
    rcases List.mem_append.1 hq with hq | hq
    · exact hp0 q hq
    · rw [List.mem_singleton.1 hq]; exact hp
theorem DK.app {e : TypeId} {B D n size : Nat} {vs v : Value} {xs : List Value} {w w1 w2 : World} (h : DK e B D vs w w1) (hBw : B ≤ w.heap.size) (hg : w1.grownBy w2 v.ownBlock) (ho : w1.ownsRow B e size v n xs) : DK e B D vs w w2 :=
  ⟨h.below.grown hg (Nat.le_trans hBw h.size) (fun k hk => (ho.lt k hk).1), fun k o hk hv hp hc => by
    have h1 := h.others k o hk hv hp hc
    rw [hg.block k (Array.getElem?_eq_some_iff.1 h1).1 (fun e => by
      obtain ⟨cur, hcur⟩ := own_typed ho e.symm
      rw [h1] at hcur
      injection hcur with hcur
      exact hc _ _ hcur)]
    exact h1⟩
def Dsk.syncE (st : Dsk) : Int := if st.away then 4 else st.useE
def Dsk.synced (st : Dsk) : Dsk := if st.away then st else if st.fuse = 0 then st.used else { st.used with safe := st.now, loose := [] }
def Dsk.writeE (st : Dsk) (at' : Int) (s : List UInt8) : Int := if s.length ≠ 32 then 1 else if st.chk at' ≠ 0 then st.chk at' else st.useE
def Dsk.wrote (st : Dsk) (at' : Int) (s : List UInt8) : Dsk := if s.length ≠ 32 ∨ st.chk at' ≠ 0 then st else if st.fuse = 0 then st.used else { st.used with loose := st.loose ++ [(at'.toNat, s)] }
end Go.Wd
