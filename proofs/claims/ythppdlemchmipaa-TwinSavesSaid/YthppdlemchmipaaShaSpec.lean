/- What package sha computes, in plain Lean. No program. -/
namespace Go.Sha
/-- turned right by k bits (0 < k < 32) -/
def rotr (x : UInt32) (k : Nat) : UInt32 := x <<< (32 - k).toUInt32 ||| x >>> k.toUInt32
def sig0 (x : UInt32) : UInt32 := rotr x 7 ^^^ rotr x 18 ^^^ x >>> 3
def sig1 (y : UInt32) : UInt32 := rotr y 17 ^^^ rotr y 19 ^^^ y >>> 10
def big1 (e : UInt32) : UInt32 := rotr e 6 ^^^ rotr e 11 ^^^ rotr e 25
def big0 (a : UInt32) : UInt32 := rotr a 2 ^^^ rotr a 13 ^^^ rotr a 22
def cho (e f g : UInt32) : UInt32 := e &&& f ^^^ ~~~ e &&& g
def maj (a b c : UInt32) : UInt32 := a &&& b ^^^ a &&& c ^^^ b &&& c
/-- the bytes from place i on, as one word, k of them -/
def beN (l : List UInt8) (i : Nat) : Nat → UInt32
  | 0 => 0
  | k + 1 => beN l i k <<< 8 ||| (l.getD (i + k) 0).toUInt32
def next (blk : List UInt8) (l : List UInt32) (n : Nat) : UInt32 :=
  if n < 16 then beN blk (4 * n) 4 else l.getD (n - 16) 0 + sig0 (l.getD (n - 15) 0) + l.getD (n - 7) 0 + sig1 (l.getD (n - 2) 0)
def sched (blk : List UInt8) : Nat → List UInt32
  | 0 => []
  | n + 1 => sched blk n ++ [next blk (sched blk n) n]
theorem sched_length (blk : List UInt8) (n : Nat) : (sched blk n).length = n := by
  induction n with
  | zero => rfl
  | succ n ih => simp [sched, ih]
structure St where
  (a b c d e f g h : UInt32)
def K : List UInt32 := [
  0x428a2f98, 0x71374491, 0xb5c0fbcf, 0xe9b5dba5, 0x3956c25b, 0x59f111f1, 0x923f82a4, 0xab1c5ed5,
  0xd807aa98, 0x12835b01, 0x243185be, 0x550c7dc3, 0x72be5d74, 0x80deb1fe, 0x9bdc06a7, 0xc19bf174,
  0xe49b69c1, 0xefbe4786, 0x0fc19dc6, 0x240ca1cc, 0x2de92c6f, 0x4a7484aa, 0x5cb0a9dc, 0x76f988da,
  0x983e5152, 0xa831c66d, 0xb00327c8, 0xbf597fc7, 0xc6e00bf3, 0xd5a79147, 0x06ca6351, 0x14292967,
  0x27b70a85, 0x2e1b2138, 0x4d2c6dfc, 0x53380d13, 0x650a7354, 0x766a0abb, 0x81c2c92e, 0x92722c85,
  0xa2bfe8a1, 0xa81a664b, 0xc24b8b70, 0xc76c51a3, 0xd192e819, 0xd6990624, 0xf40e3585, 0x106aa070,
  0x19a4c116, 0x1e376c08, 0x2748774c, 0x34b0bcb5, 0x391c0cb3, 0x4ed8aa4a, 0x5b9cca4f, 0x682e6ff3,
  0x748f82ee, 0x78a5636f, 0x84c87814, 0x8cc70208, 0x90befffa, 0xa4506ceb, 0xbef9a3f7, 0xc67178f2]
def init : St := ⟨0x6a09e667, 0xbb67ae85, 0x3c6ef372, 0xa54ff53a, 0x510e527f, 0x9b05688c, 0x1f83d9ab, 0x5be0cd19⟩
def rnd (s : St) (k w : UInt32) : St :=
  let t1 := s.h + big1 s.e + cho s.e s.f s.g + k + w
  let t2 := big0 s.a + maj s.a s.b s.c
  ⟨t1 + t2, s.a, s.b, s.c, s.d + t1, s.e, s.f, s.g⟩
def rnds (w : List UInt32) (s : St) : Nat → St
  | 0 => s
  | n + 1 => rnd (rnds w s n) (K.getD n 0) (w.getD n 0)
def St.plus (s t : St) : St := ⟨s.a + t.a, s.b + t.b, s.c + t.c, s.d + t.d, s.e + t.e, s.f + t.f, s.g + t.g, s.h + t.h⟩
def St.list (s : St) : List UInt32 := [s.a, s.b, s.c, s.d, s.e, s.f, s.g, s.h]
def addBlk (s : St) (blk : List UInt8) : St := s.plus (rnds (sched blk 64) s 64)
/-- a fold over pieces of 64 bytes -/
def chunkFold {σ : Type} (f : σ → List UInt8 → σ) : Nat → List UInt8 → σ → σ
  | 0, _, s => s
  | n + 1, t, s => chunkFold f n (t.drop 64) (f s (t.take 64))
theorem chunkFold_zero {σ : Type} (f : σ → List UInt8 → σ) (t : List UInt8) (s : σ) : chunkFold f 0 t s = s := rfl
theorem chunkFold_succ {σ : Type} (f : σ → List UInt8 → σ) (n : Nat) (t : List UInt8) (s : σ) : chunkFold f (n + 1) t s = chunkFold f n (t.drop 64) (f s (t.take 64)) := rfl
abbrev blocks (n : Nat) (t : List UInt8) (s : St) : St := chunkFold addBlk n t s
/-- the eight bytes of a length in bits -/
def be64 (n : Nat) : List UInt8 := [7, 6, 5, 4, 3, 2, 1, 0].map fun i => (n / 2 ^ (8 * i)).toUInt8
def zeros (n : Nat) : Nat := (119 - n % 64) % 64
def pad (l : List UInt8) : List UInt8 := l ++ 0x80 :: List.replicate (zeros l.length) 0 ++ be64 (8 * l.length)
def outAt (s : St) (i : Nat) : UInt8 := ((s.list.getD (i / 4) 0) >>> (24 - 8 * (i % 4)).toUInt32).toUInt8
def out (s : St) : List UInt8 := (List.range 32).map (outAt s)
def sha (l : List UInt8) : List UInt8 := out (blocks ((pad l).length / 64) (pad l) init)
end Go.Sha
