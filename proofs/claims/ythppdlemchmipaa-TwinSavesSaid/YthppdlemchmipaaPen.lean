/- package pen, the writer: Byte, Num, Text, Bytes. -/
import Derived.Test.YthppdlemchmipaaBld
import Derived.Test.YthppdlemchmipaaPure0
import Derived.Deep.RegionWith
import Derived.Deep.DeepMust
namespace Go.Proofs.Ythppdlemchmipaa
open Go.RowKit Go.Wd

/-- a pen at block b that holds the bytes bs -/
abbrev Pn (B b : Nat) (bad : Bool) (bs : List UInt8) (w : World) : Prop := Bl 178 [.bool bad] B b bs w
abbrev BKb (B b : Nat) (w w' : World) : Prop := BK 5 B b w w'

/-- a slice of ints that reads as the list ns -/
def SlI (w : World) (v : Value) (ns : List Int) : Prop :=
  ∃ a c, v = .slice a ns.length c ∧ ns.length ≤ c ∧ (ns = [] ∨ ∃ bk o row fr, a = some ⟨bk, o, none⟩ ∧ w.heap[bk]? = some (.cells row 3 fr) ∧ ∀ j n, ns[j]? = some n → row[o + j]? = some (.int .i64 n))

set_option maxRecDepth 100000 in
set_option maxHeartbeats 1000000 in
theorem pen_Byte (B b : Nat) (bad : Bool) (bs l : List UInt8) (ad : Addr) (cap : Nat) (w : World) (h : Pn B b bad bs w) (hlen : bs.length + l.length ≤ 140737488355328) (hBw : B ≤ w.heap.size)
    (hne : ad.block ≠ b) (hl : ∀ j u, (l.map U8)[j]? = some u → w.cell? (ad.add j) = some u) :
    Calls Try.prog 175 #[.pointer (some ⟨b, 0, none⟩), .slice (some ad) l.length cap] w fun e w' => e = .returned (.tuple #[]) ∧ Pn B b bad (bs ++ l) w' ∧ BKb B b w w' := by
  have H := Lib.hid hl
  clear hl
  go_enter Try.func175, Try.ntmps175
  go_wp2_with fail
  refine (Write_any _ [.bool bad] B b bs l ad cap w bldT_pen h hlen hBw hne H.out).mono ?_
  rintro e w1 ⟨rfl, h1, k1⟩
  go_wp2_with fail
  go_end0
  exact ⟨rfl, h1, k1⟩

set_option maxRecDepth 100000 in
set_option maxHeartbeats 1000000 in
theorem pen_Bytes (B b : Nat) (bad : Bool) (bs : List UInt8) (w : World) (h : Pn B b bad bs w) (hBw : B ≤ w.heap.size) :
    Calls Try.prog 109 #[.pointer (some ⟨b, 0, none⟩)] w fun e w' => e = .returned (S bs) ∧ Pn B b bad bs w' ∧ BKb B b w w' := by
  go_enter Try.func109, Try.ntmps109
  go_wp2_with fail
  refine (String_any _ [.bool bad] B b bs w h hBw).mono ?_
  rintro e w1 ⟨rfl, h1, k1⟩
  go_wp2_with fail
  go_ret
  exact ⟨rfl, h1, k1⟩

theorem bld_row {e T : TypeId} {rest : List Value} {B b : Nat} {bs : List UInt8} {w : World} (h : Bld e T rest B b bs w) : ∃ cs, Row w b T cs := by
  obtain ⟨p, v, hp, hb⟩ := h; exact ⟨_, hb.2.2.1⟩
theorem row_ne {w : World} {b k : Nat} {T T' : TypeId} {cs : List Value} {row : Array Value} {fr : Nat × Nat} (hr : Row w b T cs) (h : w.heap[k]? = some (.cells row T' fr)) (hT : T' ≠ T) : k ≠ b := by
  rintro rfl
  unfold Row at hr
  rw [hr] at h
  injection h with h
  injection h with _ h _
  exact hT h.symm
set_option maxRecDepth 100000 in
set_option maxHeartbeats 2000000 in
theorem pen_Num (B b : Nat) (bad : Bool) (bs : List UInt8) (v : Value) (ns : List Int) (w : World) (h : Pn B b bad bs w) (hv : SlI w v ns) (hr : ∀ n ∈ ns, 0 ≤ n ∧ n < 4294967296) (hlen : bs.length + 4 * ns.length ≤ 140737488355328) (hBw : B ≤ w.heap.size) :
    Calls Try.prog 107 #[.pointer (some ⟨b, 0, none⟩), v] w fun e w' => e = .returned (.tuple #[]) ∧ Pn B b bad (bs ++ ns.flatMap le4) w' ∧ BKb B b w w' := by
  obtain ⟨a, c, rfl, hc, hv⟩ := hv
  have Hr := Lib.hid hr
  clear hr
  obtain ⟨csb, hrowb⟩ := bld_row h
  go_enter Try.func107, Try.ntmps107
  go_wp2_with fail
  go_loopg [11] ns.length (fun g s wr => ∃ i : Nat, i ≤ ns.length ∧ g = ns.length - i ∧ s = .int .i64 i ∧ Pn B b bad (bs ++ (ns.take i).flatMap le4) wr ∧ BKb B b w wr)
  case atStart => exact ⟨0, by omega, by omega, rfl, by simpa using h, BK.refl _ _ _ _⟩
  case round =>
    obtain ⟨i, hi, hg, rfl, hp, hk⟩ := hrel
    have Hg := Lib.hid hg
    clear hg
    by_cases hlt : i < ns.length
    · rcases hv with rfl | ⟨bk, o, row, fr, rfl, hrow, hcell⟩
      · simp at hlt
      have hb1 : bk ≠ b := row_ne hrowb hrow (by decide)
      have hrow2 := hk.others bk _ hb1 hrow (fun c fz hh => by injection hh with _ hh _; exact absurd hh (by decide))
      obtain ⟨n, hn⟩ : ∃ n, ns[i]? = some n := ⟨ns[i], List.getElem?_eq_getElem hlt⟩
      obtain ⟨hn0, hn1⟩ := Hr.out n (List.mem_of_getElem? hn)
      have hcl : wr.cell? ⟨bk, o + i, none⟩ = some (.int .i64 n) := by rw [Lib.cell_of_heap hrow2]; exact hcell i n hn
      have hsn := flat_snoc ns i n hn
      have hfl := flat_len (ns.take i)
      rw [List.length_take] at hfl
      have Hsn := Lib.hid hsn
      have hlb : (bs ++ (ns.take i).flatMap le4).length ≤ bs.length + 4 * i := by rw [List.length_append, hfl]; omega
      clear hsn hfl hrow hrow2 hcell hn hrowb h
      generalize hbb : bs ++ (ns.take i).flatMap le4 = bb at *
      have Hbb := Lib.hid hbb
      clear hbb
      have d0 : decide (n < 0) = false := by simpa using hn0
      have d1 : decide ((4294967296 : Int) ≤ n) = false := by simpa using hn1
      go_wp2_with fail
      go_loopg [24] 4 (fun g s wt => ∃ j : Nat, j ≤ 4 ∧ g = 4 - j ∧ s = .int .i64 j ∧ Pn B b bad (bb ++ (le4 n).take j) wt ∧ BKb B b wr wt)
      case atStart => exact ⟨0, by omega, by omega, rfl, by simpa using hp, BK.refl _ _ _ _⟩
      case round =>
        clear hp
        obtain ⟨j, hj, hg, rfl, hp, hk2⟩ := hrel
        have Hg2 := Lib.hid hg
        clear hg
        have hBr : B ≤ wr.heap.size := Nat.le_trans hBw (Nat.le_trans hk.size hk2.size)
        by_cases hlt2 : j < 4
        · have e1 : IntKind.i64.wrap (8 * (j : Int)) = 8 * (j : Int) := IntWalk.i64_in _ (by omega)
          have hsh : ∀ T, binOp .shr T (.int .i64 n) (.int .i64 (8 * (j : Int))) = pure (.int .i64 (n / 2 ^ (8 * j))) := fun T => by
            rw [show (8 * (j : Int)) = ((8 * j : Nat) : Int) by omega, binOp_shr, shift_shr_i64 _ _ _ (by omega) (by omega)]; rfl
          have hcv : ∀ w, (convert 3 5 (.int .i64 (n / 2 ^ (8 * j)))).run Try.prog w = .ok (U8 ((le4 n).getD j 0)) w := fun w => by
            rw [conv_of w _ (by rw [Try.underlying3]; rfl) Try.underlying5, wrap_u8, le4_val n hn0 j hlt2]
          have hs := snoc8 (le4 n) j (by rw [le4_length]; exact hlt2)
          have Hs := Lib.hid hs
          have hln : (bb ++ (le4 n).take j).length + 1 ≤ 140737488355328 := by
            rw [List.length_append, List.length_take, le4_length]; omega
          clear hs
          have hpd : Pn B b bad (bb ++ (le4 n).take j) wr.drew := hp
          have hBd : B ≤ wr.drew.heap.size := hBr
          have kd : BKb B b wr wr.drew := (BK.refl _ _ _ _).drew
          go_wp2_with fail
          go_region_with (go_at_call 174; ((with_reducible refine (WriteByte_any _ [.bool bad] B b _ _ _ bldT_pen hpd hln hBd).mono ?_); rintro e w5 ⟨rfl, h5, k5⟩))
          go_wp2_with fail
          go_roundg (4 - (j + 1))
          case measure => have := Hg2.out; omega
          case rel => exact ⟨j + 1, by omega, rfl, by go_num, by rw [← Hs.out, ← List.append_assoc]; exact h5, (hk2.trans kd).trans k5⟩
        · have hj4 : j = 4 := by omega
          rw [hj4] at hp
          go_wp2_with fail
          go_roundg (ns.length - (i + 1))
          case measure => have := Hg.out; omega
          case rel =>
            refine ⟨i + 1, by omega, rfl, by go_num, ?_, hk.trans hk2⟩
            rw [Hsn.out, ← List.append_assoc, Hbb.out]; exact hp
    · have hi2 : i = ns.length := by omega
      rw [hi2, List.take_length] at hp
      go_wp2_with fail
      go_end0
      exact ⟨rfl, hp, hk⟩

set_option maxRecDepth 100000 in
set_option maxHeartbeats 2000000 in
/-- Text, of one text. -/
theorem pen_Text (B b : Nat) (bad : Bool) (bs l : List UInt8) (v : Value) (w : World) (h : Pn B b bad bs w) (hv : SlS w v [l]) (hl : l.length < 4294967296) (hlen : bs.length + 4 + l.length ≤ 140737488355328) (hBw : B ≤ w.heap.size) :
    Calls Try.prog 186 #[.pointer (some ⟨b, 0, none⟩), v] w fun e w' => e = .returned (.tuple #[]) ∧ Pn B b bad (bs ++ le4 l.length ++ l) w' ∧ BKb B b w w' := by
  obtain ⟨a, c, rfl, hc, hv⟩ := hv
  rcases hv with hv | ⟨bk, o, rfl, hcell⟩
  · simp at hv
  have hcl : w.cell? ⟨bk, o, none⟩ = some (S l) := hcell 0 l rfl
  have hblt := h.lt
  clear hcell
  go_enter Try.func186, Try.ntmps186
  go_wp2_with fail
  refine wp_loop_rounds 2 ?_
  rw [rounds_succ]
  go_wp2_with fail
  refine (pen_Num B b bad bs _ [(l.length : Int)] _ (h.keeps ((Keeps.refl _ _).alloc _)) ⟨_, _, rfl, by simp, .inr ⟨w.heap.size, 0, _, _, rfl, heap_alloc_new _ _, ?_⟩⟩ ?_ (by simp; omega) (by simp; omega)).mono ?_
  · intro j n hj
    match j, hj with
    | 0, hj => simpa using hj
  · intro n hn; simp at hn; omega
  rintro e w2 ⟨rfl, h2, k2⟩
  rw [le4_one] at h2
  have k2' : BKb B b w w2 := ((BK.refl _ _ _ _).alloc hBw _).trans k2
  have hsz := k2'.size
  clear k2
  go_wp2_with (refine wpList_bytes_of rfl 9 125 5 (.tmp 18) rfl l rfl Try.underlying9 Try.underlying125 Try.underlying5 ?_)
  intro c3 w3 hc3 hrow hs3 hb3
  have h3 : Pn B b bad (bs ++ le4 l.length) w3 := h2.keeps (Keeps.of_new hb3)
  have k3 : BKb B b w2 w3 := ⟨hb3.mono (by omega), fun k o hk ho _ => by rw [hb3.block k (Array.getElem?_eq_some_iff.1 ho).1]; exact ho⟩
  go_wp2_with fail
  refine (pen_Byte B b bad (bs ++ le4 l.length) l _ c3 _ h3 (by rw [List.length_append, le4_length]; omega) (by omega) ?_ ?_).mono ?_
  · have := h2.lt; simp; omega
  · intro j u hj
    have hj2 : j < l.length := by
      have := (List.getElem?_eq_some_iff.1 hj).1; simpa using this
    have e : (⟨w2.heap.size, 0, none⟩ : Addr).add j = ⟨w2.heap.size, j, none⟩ := by unfold Addr.add; split <;> simp_all
    rw [e, Lib.cell_of_heap hrow, byteRow_at _ _ _ hj2, ← hj]
    exact (getD_map_some j 0 hj2).symm
  rintro e w4 ⟨rfl, h4, k4⟩
  clear hrow hs3 hb3
  go_wp2_with fail
  rw [rounds_succ]
  go_wp2_with fail
  go_end0
  exact ⟨rfl, h4, (k2'.trans k3).trans k4⟩
end Go.Proofs.Ythppdlemchmipaa
