/- Numbers as bytes, sealed texts, rows of sectors: plain Lean, no program. -/
import Derived.Test.YthppdlemchmipaaWords3
namespace Go.Wd
open Go.RowKit Go.Sha
/-- a number's four bytes -/
def le4 (n : Int) : List UInt8 := [0, 1, 2, 3].map fun i => (n / 2 ^ (8 * i)).toNat.toUInt8
theorem le4_length (n : Int) : (le4 n).length = 4 := rfl
theorem le4_val (n : Int) (h0 : 0 ≤ n) (j : Nat) (h : j < 4) : Value.int .u8 (n / 2 ^ (8 * j) % 256) = U8 ((le4 n).getD j 0) := by
  have e : (le4 n).getD j 0 = (n / 2 ^ (8 * j)).toNat.toUInt8 := by
    match j, h with
    | 0, _ | 1, _ | 2, _ | 3, _ => rfl
  rw [e]
  apply U8.of
  have : 0 ≤ n / 2 ^ (8 * j) := Int.ediv_nonneg h0 (Int.pow_nonneg (by decide))
  generalize n / 2 ^ (8 * j) = x at *
  simp; omega
theorem snoc8 (l : List UInt8) (j : Nat) (h : j < l.length) : l.take j ++ [l.getD j 0] = l.take (j + 1) := by
  rw [List.take_succ_eq_append_getElem h]; simp [List.getD, h]

theorem flat_len (ns : List Int) : (ns.flatMap le4).length = 4 * ns.length := by
  induction ns with
  | nil => rfl
  | cons n ns ih => rw [List.flatMap_cons, List.length_append, ih, le4_length, List.length_cons]; omega
theorem flat_snoc (ns : List Int) (i : Nat) (n : Int) (h : ns[i]? = some n) : (ns.take (i + 1)).flatMap le4 = (ns.take i).flatMap le4 ++ le4 n := by
  rw [List.take_add_one, h]; simp
theorem le4_one (n : Int) : [n].flatMap le4 = le4 n := by simp
/-- the number that the first j bytes are -/
def leSum (l : List UInt8) : Nat → Int
  | 0 => 0
  | j + 1 => leSum l j + ((l.getD j 0).toNat : Int) * 2 ^ (8 * j)
theorem leSum_bd (l : List UInt8) (j : Nat) : 0 ≤ leSum l j ∧ leSum l j < 2 ^ (8 * j) := by
  induction j with
  | zero => simp [leSum]
  | succ j ih =>
    have hb := (l.getD j 0).toNat_lt
    have hp : (0 : Int) < 2 ^ (8 * j) := Int.pow_pos (by decide)
    have e : (2 : Int) ^ (8 * (j + 1)) = 2 ^ (8 * j) * 256 := by rw [Nat.mul_add, Int.pow_add]; rfl
    simp only [leSum, e]
    generalize (2 : Int) ^ (8 * j) = p at *
    generalize (l.getD j 0).toNat = x at *
    have h1 : (x : Int) ≤ 255 := by omega
    have h2 : (x : Int) * p ≤ 255 * p := Int.mul_le_mul_of_nonneg_right h1 (by omega)
    have h3 : 0 ≤ (x : Int) * p := Int.mul_nonneg (by omega) (by omega)
    omega
theorem p40 : (2 : Int) ^ 40 = 1099511627776 := by decide
theorem or_step (x : Int) (b : UInt8) (j : Nat) (hj : j < 4) (h0 : 0 ≤ x) (h1 : x < 2 ^ (8 * j)) : bits .or .i64 x ((b.toNat : Int) * 2 ^ (8 * j)) = x + (b.toNat : Int) * 2 ^ (8 * j) := by
  have hc : bits .or .i64 x ((b.toNat : Int) * 2 ^ (8 * j)) = bits .or .i64 ((b.toNat : Int) * 2 ^ (8 * j)) x := by simp only [bits, BitVec.or_comm]
  have hb := b.toNat_lt
  have hk : ∀ n : Int, 0 ≤ n → n < 2 ^ 40 → IntKind.i64.wrap n = n := fun n a b => IntWalk.i64_in n (by rw [p40] at b; omega)
  have H1 : 0 ≤ (b.toNat : Int) * 2 ^ (8 * j) := Int.mul_nonneg (by omega) (Int.pow_nonneg (by decide))
  have H2 : ((b.toNat : Int) * 2 ^ (8 * j)) % 2 ^ (8 * j) = 0 := Int.mul_emod_left _ _
  have hp : (2 : Int) ^ (8 * j) ≤ 16777216 := by
    obtain rfl | rfl | rfl | rfl : j = 0 ∨ j = 1 ∨ j = 2 ∨ j = 3 := by omega
    all_goals decide
  have hp0 : (0 : Int) < 2 ^ (8 * j) := Int.pow_pos (by decide)
  have H3 : (b.toNat : Int) * 2 ^ (8 * j) < 2 ^ 40 := by
    rw [p40]
    have : (b.toNat : Int) * 2 ^ (8 * j) ≤ 255 * 2 ^ (8 * j) := Int.mul_le_mul_of_nonneg_right (by omega) (by omega)
    omega
  have H4 : x < 2 ^ 40 := by rw [p40]; omega
  have e := bits_join .i64 40 (by decide) hk (8 * j) ((b.toNat : Int) * 2 ^ (8 * j)) x H1 H2 H3 h0 h1 H4
  rw [hc, e, Int.add_comm]
def le32 (l : List UInt8) : Int := leSum l 4
def eyeN (l : List UInt8) (most : Int) : Int := if le32 l ≤ most then le32 l else 0
def eyeL (l : List UInt8) (most : Int) : List UInt8 := if le32 l ≤ most then l.drop 4 else []
def eyeB (l : List UInt8) (most : Int) : Bool := !decide (le32 l ≤ most)
theorem eye_yes {l : List UInt8} {most : Int} (h : le32 l ≤ most) : eyeN l most = le32 l ∧ eyeL l most = l.drop 4 ∧ eyeB l most = false := by simp [eyeN, eyeL, eyeB, h]
theorem eye_no {l : List UInt8} {most : Int} (h : ¬ le32 l ≤ most) : eyeN l most = 0 ∧ eyeL l most = [] ∧ eyeB l most = true := by simp [eyeN, eyeL, eyeB, h]
theorem le32_bd (l : List UInt8) : 0 ≤ le32 l ∧ le32 l < 4294967296 := leSum_bd l 4

/-- how many sectors a text of n bytes has -/
def secs (n : Nat) : Nat := (n + 63) / 28
theorem secs_le (n : Nat) : 36 + n ≤ secs n * 28 ∧ secs n * 28 ≤ n + 63 := by unfold secs; omega
def isNum (n : Int) : Bool := decide (1 ≤ n ∧ n ≤ 2147483647)
/-- what stands behind the sum -/
def body (l : List UInt8) : List UInt8 := le4 l.length ++ l ++ List.replicate (secs l.length * 28 - 36 - l.length) 0
def sealed (l : List UInt8) : List UInt8 := sha (body l) ++ body l
theorem body_length (l : List UInt8) : (body l).length + 32 = secs l.length * 28 := by
  have := secs_le l.length
  simp [body, le4_length]; omega
theorem sha_length (l : List UInt8) : (sha l).length = 32 := by simp [sha, out]
theorem sealed_length (l : List UInt8) : (sealed l).length = secs l.length * 28 := by
  have := body_length l
  rw [sealed, List.length_append, sha_length]; omega
def rowsOf (k : List UInt8) : Nat → List UInt8 → List (List UInt8)
  | 0, _ => []
  | g + 1, t => (t.take 28 ++ k) :: rowsOf k g (t.drop 28)
theorem rowsOf_succ (k : List UInt8) (g : Nat) (t : List UInt8) : rowsOf k (g + 1) t = (t.take 28 ++ k) :: rowsOf k g (t.drop 28) := rfl
theorem rowsOf_length (k : List UInt8) (g : Nat) (t : List UInt8) : (rowsOf k g t).length = g := by
  induction g generalizing t with
  | zero => rfl
  | succ g ih => simp [rowsOf, ih]
def layOf (n : Int) (l : List UInt8) : List (List UInt8) := rowsOf (le4 n) (secs l.length) (sealed l)
end Go.Wd
