/- Saves by turns: what each round of 'TwinTurns' comes to, in plain Lean. No program. -/
import Derived.Test.YthppdlemchmipaaModel6
namespace Go.Wd
open Go.RowKit Go.Sha
theorem Dsk.On.free {st : Dsk} (h : st.On) (hf : st.fuse = -1) : st.Free := ⟨h.on, hf⟩
theorem turn_start (n from' H : Nat) (s : List UInt8) (hf : s.length ≤ 1024 ∧ secs s.length ≤ H) (hn : from' + 2 * H ≤ n) :
    ∃ st', (Dsk.of (List.replicate n zsec)).tformat from' (2 * H) s = (0, st') ∧ st'.Free ∧ st'.loose = [] ∧ st'.safe.length = n ∧ TwInv st'.safe from' H ⟨s, 1, 0, false⟩ ∧ st'.keep = [] ∧ ∀ x, (x < from' ∨ from' + 2 * H ≤ x) → st'.safe[x]? = (List.replicate n zsec)[x]? := by
  rcases (Dsk.of_free (List.replicate n zsec)).toOn.tformat rfl from' H s hf (by simp [Dsk.of]; exact hn) (fun x h1 h2 => rep_at (by omega)) with ⟨st', r, o, l, k, u, sl, tw, o'⟩ | ⟨st', _, u, _⟩
  · exact ⟨st', r, o.free (u rfl), l, by rw [sl]; simp [Dsk.of], tw, k, o'⟩
  · exact absurd rfl u
theorem turn_save {st : Dsk} {from' H : Nat} {t : Tw} (h : TwInv st.safe from' H t) (ho : st.Free) (hl : st.loose = []) (s : List UInt8) (hf : s.length ≤ 1024 ∧ secs s.length ≤ H) (hg : t.gen ≤ 2147483645) :
    ∃ st', st.tsave from' (2 * H) t s = (0, st', ⟨s, t.gen + 1, 1 - t.side, false⟩) ∧ st'.Free ∧ st'.loose = [] ∧ st'.keep = st.keep ∧ st'.safe.length = st.safe.length ∧ TwInv st'.safe from' H ⟨s, t.gen + 1, 1 - t.side, false⟩ ∧
      Has st'.safe (from' + t.side * H) H t.gen t.text ∧ ∀ x, (x < from' ∨ from' + 2 * H ≤ x) → st'.safe[x]? = st.safe[x]? := by
  rcases h.save ho.toOn hl s hf hg with ⟨st', r, o, l, k, u, sl, tw, hs, o'⟩ | ⟨st', _, u, _⟩
  · exact ⟨st', r, o.free (u ho.fuse), l, k, sl, tw, hs, o'⟩
  · exact absurd ho.fuse u
/-- a copy of the disk, without the first sector of the new copy: the elder text is opened -/
theorem turn_back {safe : List (List UInt8)} {H : Nat} {t : Tw} {gen : Int} {last : List UInt8} (h : TwInv safe 0 H t) (hg : t.gen = gen + 1) (h0 : isNum gen = true) (hf : last.length ≤ 1024 ∧ secs last.length ≤ H)
    (ho : Has safe (0 + (1 - t.side) * H) H gen last) :
    (Dsk.of safe).zwriteE 0 (2 * H) ((H : Int) * (t.side : Int)) zsec = 0 ∧ ((Dsk.of safe).zwrote 0 (2 * H) ((H : Int) * (t.side : Int)) zsec).topen 0 (2 * H) = (0, ⟨last, gen, 1 - t.side, false⟩) := by
  have hH := h.hH
  have hs := h.side
  have hlen := h.hlen
  obtain ⟨p, hp⟩ : ∃ p, p = t.side * H := ⟨_, rfl⟩
  have hpi : (H : Int) * (t.side : Int) = (p : Int) := by rw [hp]; simp [Int.mul_comm]
  have hp2 : p < 2 * H := by rcases (by omega : t.side = 0 ∨ t.side = 1) with e | e <;> rw [e] at hp <;> omega
  have h32 : zsec.length = 32 := rfl
  rw [hpi]
  obtain ⟨e1, e2, e3, e4, _⟩ := (Dsk.of_free safe).write (a := p) (t := zsec) (by show p < safe.length; omega) rfl
  have w1 : (Dsk.of safe).zwriteE 0 (2 * H) (p : Int) zsec = 0 := by
    unfold Dsk.zwriteE
    rw [if_neg (by omega), if_neg (by omega), show ((0 : Nat) : Int) + (p : Int) = (p : Int) by omega]; exact e1
  have w2 : (Dsk.of safe).zwrote 0 (2 * H) (p : Int) zsec = (Dsk.of safe).wrote (p : Int) zsec := by
    unfold Dsk.zwrote
    rw [if_neg (by omega), show ((0 : Nat) : Int) + (p : Int) = (p : Int) by omega]
  refine ⟨w1, ?_⟩
  rw [w2]
  refine TwInv.open ?_ e2.on
  have hnow : ((Dsk.of safe).wrote (p : Int) zsec).now = safe.set p zsec := by unfold Dsk.now; rw [e3, e4]; rfl
  rw [hnow, hp]
  have := h.undo hg h0 hf ho
  rw [Nat.zero_add] at this
  exact this
end Go.Wd
