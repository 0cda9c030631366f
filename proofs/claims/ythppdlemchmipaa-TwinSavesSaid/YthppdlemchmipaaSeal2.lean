/- seal.Lay. -/
import Derived.Test.YthppdlemchmipaaSeal1
import Derived.Deep.RegionLaw
namespace Go.Wd
open Go.RowKit
theorem step_append_own {P : Program} {ops : Array Oper} {o : Oper} {a : Act} {w : World} {K : Act → World → Prop} {Q : Exit → Act → World → Prop} {E : Prop}
    (hg : o.guard = none) (s x : Operand) (t : TypeId) (hop : o.op = Op.call { callee := Callee.builtin Builtin.append, args := #[s, x], argTypes := #[t, t] })
    (base : Nat) (e : TypeId) (i : TypeInfo) (z : Value) (size bytes : Nat) (h1 : P.underlying t = some (.slice e)) (h2 : P.info? e = some i) (h3 : i.zero = some z) (h4 : i.size = size) (h5 : i.bytes = bytes) (h6 : z.cells.size = size) (h7 : 0 < size)
    (v : Value) (n : Nat) (xs : List Value) (hs : a.eval s = v) (hown : w.ownsRow base e size v n xs)
    (ad : Addr) (m c : Nat) (news : List Value) (hx : a.eval x = .slice (some ad) m c) (hn : news.length = m * size) (hc : ∀ j u, news[j]? = some u → w.cell? (ad.add j) = some u) (h1c : ∀ u ∈ news, u.oneCell' = true)
    (b1 : n + m ≤ maxLen) (b2 : (n + m) * bytes ≤ 140737488355328) (hbase : base ≤ w.heap.size)
    (hK : ∀ v' w', w'.ownsRow base e size v' (n + m) (xs ++ news) → w.grownBy w' v.ownBlock → K (a.put o.dst v') w') :
    if Region.wanted o (yielded ops a.tmps) = true then Oper.wp P o a w K Q else E := by
  have hw : Region.wanted o (yielded ops a.tmps) = true := by simp [Region.wanted, hg]
  rw [if_pos hw]
  obtain ⟨v', w', hrun, r1, r2, _⟩ := run_append_own (P := P) w base t o.type e i z size bytes h1 h2 h3 h4 h5 h6 h7 v n xs hown ad m c news hn hc h1c b1 b2 hbase
  unfold Oper.wp
  simp [execOp, hop, resolve, invoke, builtin, hs, hx, hrun, Result.andThen]
  exact hK v' w' r1 r2
theorem BK.owns {e e' : TypeId} {B b base n size : Nat} {v : Value} {xs : List Value} {w w1 : World} (h : BK e B b w w1) (ho : w.ownsRow base e' size v n xs) (he : e' ≠ e) (hb : v.ownBlock ≠ some b) : w1.ownsRow base e' size v n xs := by
  refine ⟨ho.1, ?_⟩
  rcases ho.2 with hn | ⟨g, cap, cur, rfl, hbg, hg, rest⟩
  · exact .inl hn
  · refine .inr ⟨g, cap, cur, rfl, hbg, ?_, rest⟩
    exact h.others g _ (fun e => hb (by simp [Value.ownBlock, e])) hg (fun c fz hh => by injection hh with _ hh _; exact he hh)
theorem owns_ne {base n size : Nat} {e T : TypeId} {v : Value} {xs cs : List Value} {w : World} {b : Nat} (ho : w.ownsRow base e size v n xs) (hr : Row w b T cs) (hT : T ≠ e) : v.ownBlock ≠ some b := by
  rcases ho.2 with ⟨rfl, _⟩ | ⟨g, cap, cur, rfl, _, hg, _⟩
  · simp [Value.ownBlock]
  · intro hh
    simp only [Value.ownBlock, Option.some.injEq] at hh
    subst hh
    unfold Row at hr
    rw [hr] at hg
    injection hg with hg
    injection hg with _ hg _
    exact hT hg
theorem bld_grown {e e' T : TypeId} {rest : List Value} {B b base n size : Nat} {bs : List UInt8} {v : Value} {xs : List Value} {w w1 : World} (h : Bld e T rest B b bs w) (hg : w.grownBy w1 v.ownBlock) (ho : w.ownsRow base e' size v n xs) (he : e' ≠ e) (hT : T ≠ e') : Bld e T rest B b bs w1 := by
  obtain ⟨p, q, hp, hB, hTe, hr, hq⟩ := h
  refine ⟨p, q, hp, hB, hTe, (hg.block b hr.lt (fun e => owns_ne ho hr hT e.symm)).trans hr, hq.1, ?_⟩
  rcases hq.2 with hn | ⟨g, cap, cur, fz, rfl, hbg, hgg, r⟩
  · exact .inl hn
  · refine .inr ⟨g, cap, cur, fz, rfl, hbg, ?_, r⟩
    rw [hg.block g (Array.getElem?_eq_some_iff.1 hgg).1 ?_]
    · exact hgg
    · intro hh
      rcases ho.2 with ⟨rfl, _⟩ | ⟨g', cap', cur', rfl, _, hg', _⟩
      · simp [Value.ownBlock] at hh
      · simp only [Value.ownBlock, Option.some.injEq] at hh
        subst hh
        rw [hgg] at hg'
        injection hg' with hg'
        injection hg' with _ hg' _
        exact he hg'.symm
theorem one_at (w : World) (o : Value) (T : TypeId) : ∀ j u, [o][j]? = some u → (w.alloc (.cells #[o] T)).cell? ((⟨w.heap.size, 0, none⟩ : Addr).add j) = some u := by
  intro j u hj
  match j, hj with
  | 0, hj => simp at hj; subst hj; exact Lib.cell_of_heap (heap_alloc_new _ _) 0
end Go.Wd
namespace Go.Proofs.Ythppdlemchmipaa
open Go.RowKit Go.Wd Go.Sha
theorem info9 : (Try.prog.info? 9).map (fun i => (i.zero, i.size, i.bytes)) = some (some (.string ⟨#[]⟩), 1, 16) := by kernel_rfl
theorem oneCell_S {ls : List (List UInt8)} : ∀ v ∈ ls.map S, v.oneCell' = true := by
  intro v hv; obtain ⟨x, _, rfl⟩ := List.mem_map.1 hv; rfl

set_option maxRecDepth 100000 in
set_option maxHeartbeats 1000000 in
theorem Lay_not (n : Int) (l : List UInt8) (w : World) (h : isNum n = false ∨ 1024 < l.length) (hl : l.length ≤ 9223372036854775807) :
    Calls Try.prog 58 #[.int .i64 n, S l] w fun e w' => e = .returned (.tuple #[.slice none 0 0, .int .i64 1]) ∧ w = w' := by
  cases hn : isNum n with
  | false =>
    go_enter Try.func58, Try.ntmps58
    go_wp2_with fail
    refine (isNumber_any n w).mono ?_
    rintro e w' ⟨rfl, rfl⟩
    rw [hn]
    go_wp2_with fail
    go_ret2
    exact ⟨rfl, rfl⟩
  | true =>
    have hb : 1024 < l.length := by simpa [hn] using h
    have d0 : decide (1024 < l.length) = true := by simpa using hb
    go_enter Try.func58, Try.ntmps58
    go_wp2_with fail
    refine (isNumber_any n w).mono ?_
    rintro e w' ⟨rfl, rfl⟩
    rw [hn]
    go_wp2_with fail
    go_ret2
    exact ⟨rfl, rfl⟩

set_option maxRecDepth 100000 in
set_option maxHeartbeats 2000000 in
theorem Lay_any (n : Int) (l : List UInt8) (w : World) (h : isNum n = true) (hl : l.length ≤ 1024) :
    Calls Try.prog 58 #[.int .i64 n, S l] w fun e w' => ∃ v, e = .returned (.tuple #[v, .int .i64 0]) ∧ w'.ownsRow w.heap.size 9 1 v (layOf n l).length ((layOf n l).map S) ∧ Below w.heap.size w w' := by
  have d0 : decide (1024 < l.length) = false := by simpa using hl
  have hnn : 1 ≤ n ∧ n ≤ 2147483647 := by simpa [isNum] using h
  obtain ⟨hn1, hn2⟩ := hnn
  go_enter Try.func58, Try.ntmps58
  go_wp2_with fail
  refine (isNumber_any n w).mono ?_
  rintro e w' ⟨rfl, rfl⟩
  rw [h]
  go_wp2_with (with_reducible refine wpl_alloc rfl 178 rfl _ zeroPen ?_)
  intro w1 r1 s1 k1
  have h1 : Pn w.heap.size w.heap.size false [] w1 := BldP.fresh (Nat.le_refl _) (by decide) r1
  have hB1 : w.heap.size ≤ w1.heap.size := by omega
  have b1 : Below w.heap.size w w1 := k1.below (Nat.le_refl _) (fun _ _ h => h)
  clear s1 r1 k1
  go_wp2_with fail
  refine (pen_Num w.heap.size w.heap.size false [] _ [n] _ (h1.keeps ((Keeps.refl _ _).alloc _)) ⟨_, _, rfl, by simp, .inr ⟨w1.heap.size, 0, _, _, rfl, heap_alloc_new _ _, ?_⟩⟩ ?_ (by simp) (by simp; omega)).mono ?_
  · intro j m hj
    match j, hj with
    | 0, hj => simpa using hj
  · intro m hm; simp at hm; omega
  rintro e w2 ⟨rfl, h2, k2⟩
  rw [le4_one, List.nil_append] at h2
  have b2 : Below w.heap.size w w2 := (b1.alloc hB1 _).trans k2.below
  have hB2 := b2.size
  have h2lt := h2.lt
  clear k2 b1 h1
  go_wp2_with fail
  refine (bytes_any l w2 hl).mono ?_
  rintro e w3 ⟨rfl, hb3⟩
  have h3 : Pn w.heap.size w.heap.size false (le4 n) w3 := h2.keeps (Keeps.of_new hb3)
  have b3 : Below w.heap.size w w3 := b2.trans (hb3.mono hB2)
  clear h2 b2 hB2 hb3 h2lt
  have hsl := sealed_length l
  have hlay : layOf n l = rowsOf (le4 n) (secs l.length) (sealed l) := rfl
  have hsec : secs l.length ≤ 40 := by have := secs_le l.length; omega
  have Hlay := Lib.hid hlay
  clear hlay
  generalize sealed l = T at *
  generalize secs l.length = N at *
  generalize hk4 : le4 n = k4 at *
  have hk4l : k4.length = 4 := by rw [← hk4]; rfl
  clear hk4
  have Hk4 := Lib.hid hk4l
  clear hk4l
  go_wp2_with fail
  go_loopg [7, 8] N (fun g v7 v8 wr => ∃ (t : List UInt8) (ls : List (List UInt8)), t.length = g * 28 ∧ g + ls.length = N ∧ v8 = S t ∧ rowsOf k4 N T = ls ++ rowsOf k4 g t ∧ wr.ownsRow w.heap.size 9 1 v7 ls.length (ls.map S) ∧ Pn w.heap.size w.heap.size false k4 wr ∧ Below w.heap.size w wr)
  case atStart => exact ⟨T, [], hsl, by simp, rfl, rfl, World.ownsRow_nil _ _ _ _, h3, b3⟩
  case round =>
    clear h3 b3 hsl
    obtain ⟨t, ls, ht, hgl, rfl, hrow, hown, hp, hb⟩ := hrel
    have Hrow := Lib.hid hrow
    clear hrow
    have hB := hb.size
    by_cases h0 : gk = 0
    · subst h0
      obtain rfl : t = [] := List.length_eq_zero_iff.1 (by omega)
      have hnil : (([] : List UInt8) == []) = true := rfl
      have hf : layOf n l = ls := by rw [Hlay.out, Hrow.out]; simp [rowsOf]
      have Hf := Lib.hid hf
      clear hf ht
      go_wp2_with fail
      go_ret2
      exact ⟨_, rfl, by rw [Hf.out]; exact hown, hb⟩
    · obtain ⟨g, rfl⟩ : ∃ g, gk = g + 1 := ⟨gk - 1, by omega⟩
      have hne : (t == []) = false := by cases t with | nil => simp at ht | cons => rfl
      have hge : (28 : Int) ≤ (t.length : Int) := by omega
      have htd : (t.drop 28).length = g * 28 := by simp; omega
      have htk : (t.take 28).length = 28 := by simp; omega
      have Htd := Lib.hid htd
      have Htk := Lib.hid htk
      have hstep := rowsOf_succ k4 g t
      have Hstep := Lib.hid hstep
      have hgl2 : ls.length + 1 ≤ 40 := by omega
      have Hgl := Lib.hid hgl
      clear htd htk hstep ht hgl
      obtain ⟨csb, hrb⟩ := bld_row hp
      have hob := owns_ne hown hrb (by decide)
      go_wp2_with fail
      obtain ⟨i0, hi, hz0, hz1, hz2⟩ := info_parts info9
      have hpd : Pn w.heap.size w.heap.size false k4 wr.drew := hp
      have hBd : w.heap.size ≤ wr.drew.heap.size := hB
      have hownd : wr.drew.ownsRow w.heap.size 9 1 u7 ls.length (ls.map S) := hown
      have hlk : ¬ 9223372036854775807 < min 28 t.length + k4.length := by have := Hk4.out; omega
      go_region_law (first | (refine step_append_own rfl (.tmp 26) (.tmp 31) 104 rfl w.heap.size 9 i0 _ 1 16 Try.underlying104 hi hz0 hz1 hz2 rfl (by decide) u7 ls.length (ls.map S) (by simp [Act.eval]) (ho9.alloc _) ⟨w9.heap.size, 0, none⟩ 1 1 [S (t.take 28 ++ k4)] (by simp [Act.eval]) rfl (one_at _ _ _) (by intro u hu; simp at hu; subst hu; rfl) (by unfold maxLen; omega) (by omega) (by simp; omega) ?_; intro v10 w10 hown10 hg10) | (go_simp; go_at_call 109; ((with_reducible refine (pen_Bytes w.heap.size w.heap.size false k4 _ hpd hBd).mono ?_); rintro e w9 ⟨rfl, h9, k9⟩; have ho9 := k9.owns hownd (by decide) hob; have hs9 := k9.size)))
      have h9a : Pn w.heap.size w.heap.size false k4 (w9.alloc (.cells #[S (t.take 28 ++ k4)] 9)) := h9.keeps ((Keeps.refl _ w9).alloc _)
      have ho9a := ho9.alloc (.cells #[S (t.take 28 ++ k4)] 9)
      have p10 : Pn w.heap.size w.heap.size false k4 w10 := bld_grown h9a hg10 ho9a (by decide) (by decide)
      have b9 : Below w.heap.size w w9 := (hb.drew).trans k9.below
      have b10 : Below w.heap.size w w10 := (b9.alloc b9.size _).grown hg10 (by have := b9.size; simp; omega) (fun k hk => (ho9a.lt k hk).1)
      have o10 : w10.ownsRow w.heap.size 9 1 v10 (ls ++ [t.take 28 ++ k4]).length ((ls ++ [t.take 28 ++ k4]).map S) := by simpa using hown10
      clear hown10 hg10 h9 k9 ho9 hs9 b9
      go_wp2_with fail
      go_roundg g
      case measure => omega
      case rel =>
        refine ⟨t.drop 28, ls ++ [t.take 28 ++ k4], Htd.out, ?_, rfl, ?_, o10, p10, b10⟩
        · have := Hgl.out; simp; omega
        · rw [Hrow.out, Hstep.out]; simp
end Go.Proofs.Ythppdlemchmipaa
