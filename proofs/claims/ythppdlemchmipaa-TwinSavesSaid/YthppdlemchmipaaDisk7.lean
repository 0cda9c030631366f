/- disk.Read: a range over slices.Backward. -/
import Derived.Test.YthppdlemchmipaaDisk6
namespace Go.Proofs.Ythppdlemchmipaa
open Go.RowKit Go.Wd Go.Shelf
attribute [local go_sem] Oper.semAt_some
theorem backward_stops (F : Fence) (n : Nat) (hf : F.fn 226) (hro : F.round = none) (hn : 1 ≤ n) (Bs n₀ cap : Nat) (q : Option Addr) (ls : List (Nat × List UInt8)) (hreach : ls.length ≤ 1000000) (w : World) (hBs : Bs < n₀) (hn₀ : n₀ ≤ w.heap.size)
    (hc : w.cell? ⟨Bs, 0, none⟩ = some (.slice q ls.length cap)) (hl : ∀ k p, ls[k]? = some p → ∃ b, q = some ⟨b, 0, none⟩ ∧ b < n₀ ∧ w.cell? ⟨b, k * 2, none⟩ = some (.int .i64 (p.1 : Int)) ∧ w.cell? ⟨b, k * 2 + 1, none⟩ = some (S p.2)) :
    SeqStopsK F n Try.prog 226 #[.pointer (some ⟨Bs, 0, none⟩)] encW (Below n₀) (fun ys => ys = uptoW ls ls.length) (fun pre => ∃ k, k ≤ ls.length ∧ pre = uptoW ls k) ls.length w := fun l J Jx W hW _ _ hY h0 =>
  backward1_in F n hf hro hn l Bs n₀ cap q ls hreach J Jx hY W ((hW.cell (p := ⟨Bs, 0, none⟩) (by simp; omega)).trans hc) hBs
    (fun k p hp => by
      obtain ⟨b, hq, hb, g0, g1⟩ := hl k p hp
      exact ⟨b, hq, hb, (hW.cell (p := ⟨b, k * 2, none⟩) (by simp; omega)).trans g0, (hW.cell (p := ⟨b, k * 2 + 1, none⟩) (by simp; omega)).trans g1⟩) h0

set_option maxRecDepth 100000 in
set_option maxHeartbeats 4000000 in
/-- a sector that cannot be read -/
theorem Read_not (B D : Nat) (vs : Value) (st : Dsk) (at' : Int) (w : World) (h : Dk B D vs st w) (hc : st.chk at' ≠ 0) :
    Calls Try.prog 183 #[.pointer (some ⟨D, 0, none⟩), .int .i64 at'] w fun e w' => e = .returned (.tuple #[S [], .int .i64 (st.chk at')]) ∧ Below w.heap.size w w' := by
  have hq : (st.chk at' != 0) = true := by simpa using hc
  obtain ⟨kk, hkk⟩ : ∃ kk, st.chk at' = kk := ⟨_, rfl⟩
  refine (callsIn_wide (n := 8)).1 ?_
  refine callsIn_of_wp_marks Try.func183 rfl trivial ?_ rfl
  simp only [Try.ntmps183, List.size_toArray, List.length_cons, List.length_nil, Nat.reduceAdd, Nat.reduceSub, Array.replicate_succ, Array.replicate_zero, List.push_toArray, List.append_toArray, List.nil_append, List.cons_append]
  have hb : Below w.heap.size w (((w.alloc (.cells #[.int .i64 at'] 3)).alloc (.cells #[.string ⟨#[]⟩] 9)).alloc (.cells #[.int .i64 0] 39)) := ((((Below.refl _ w).alloc (Nat.le_refl _) _).alloc (by simp) _).alloc (by simp; omega) _)
  have h3 : Dk B D vs st (((w.alloc (.cells #[.int .i64 at'] 3)).alloc (.cells #[.string ⟨#[]⟩] 9)).alloc (.cells #[.int .i64 0] 39)) := by
    obtain ⟨kv, vl, hP⟩ := h
    exact ⟨kv, vl, hP.new hb⟩
  gi_wp2_with (refine ⟨trivial, ?_⟩; gi_at_call 201; refine (callsIn_wide.2 (check_any B D vs st at' _ h3)).mono ?_; rintro e w' ⟨rfl, rfl⟩)
  refine ⟨.tuple #[S [], .int .i64 (st.chk at')], ?_, rfl, ?_⟩
  · rw [hkk]
    simp [results, Try.f183, go_sem]
    rfl
  · exact (((Below.refl _ w).alloc (Nat.le_refl _) _).alloc (by simp) _).alloc (by simp; omega) _

theorem now_none (at' : Nat) : ∀ (l : List (Nat × List UInt8)) (s : List (List UInt8)), (∀ p ∈ l, p.1 ≠ at') → (allRows s l).getD at' [] = s.getD at' []
  | [], _, _ => rfl
  | p :: l, s, h => by
    show (allRows (s.set p.1 p.2) l).getD at' [] = _
    rw [now_none at' l _ (fun q hq => h q (by simp [hq]))]
    have hne := h p (by simp)
    simp [List.getD, hne]
theorem now_last (at' : Nat) : ∀ (l : List (Nat × List UInt8)) (s : List (List UInt8)) (k : Nat) (p : Nat × List UInt8), at' < s.length → l[k]? = some p → p.1 = at' → (∀ j q, k < j → l[j]? = some q → q.1 ≠ at') → (allRows s l).getD at' [] = p.2
  | [], _, _, _, _, h, _, _ => by simp at h
  | q :: l, s, 0, p, hs, h, hp, hj => by
    simp at h; subst h
    show (allRows (s.set q.1 q.2) l).getD at' [] = _
    rw [now_none at' l _ (fun r hr => by obtain ⟨j, hjr⟩ := List.mem_iff_getElem?.1 hr; exact hj (j + 1) r (by omega) (by simpa using hjr))]
    subst hp
    simp [List.getD, hs]
  | q :: l, s, k + 1, p, hs, h, hp, hj => by
    show (allRows (s.set q.1 q.2) l).getD at' [] = _
    exact now_last at' l _ k p (by simpa using hs) (by simpa using h) hp (fun j r hkj hr => hj (j + 1) r (by omega) (by simpa using hr))
end Go.Proofs.Ythppdlemchmipaa
