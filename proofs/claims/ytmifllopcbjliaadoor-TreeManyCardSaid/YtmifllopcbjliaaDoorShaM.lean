/- SHA-256 as plain mathematics: words, rounds, blocks, sums; no program in sight. -/
import Derived.Test.YtmifllopcbjliaaDoorW
namespace Go.Proofs.YtmifllopcbjliaaDoor.V

def wordOf (l : List UInt8) : UInt32 := shl32 (nth l 0).toUInt32 24 ||| shl32 (nth l 1).toUInt32 16 ||| shl32 (nth l 2).toUInt32 8 ||| (nth l 3).toUInt32
/-- turned to the right -/
def ror (x : UInt32) (n : Nat) : UInt32 := shl32 x (32 - n) ||| shr32 x n
def be4 (x : UInt32) : List UInt8 := [(shr32 x 24).toUInt8, (shr32 x 16).toUInt8, (shr32 x 8).toUInt8, x.toUInt8]

structure St where
  a : UInt32
  b : UInt32
  c : UInt32
  d : UInt32
  e : UInt32
  f : UInt32
  g : UInt32
  h : UInt32

/-- a round -/
def rnd (s : St) (kw : UInt32) : St :=
  let t := s.h + (ror s.e 6 ^^^ ror s.e 11 ^^^ ror s.e 25) + (s.e &&& s.f ^^^ ~~~s.e &&& s.g) + kw
  let u := (ror s.a 2 ^^^ ror s.a 13 ^^^ ror s.a 22) + (s.a &&& s.b ^^^ s.a &&& s.c ^^^ s.b &&& s.c)
  ⟨t + u, s.a, s.b, s.c, s.d + t, s.e, s.f, s.g⟩
def St.add (s t : St) : St := ⟨s.a + t.a, s.b + t.b, s.c + t.c, s.d + t.d, s.e + t.e, s.f + t.f, s.g + t.g, s.h + t.h⟩
def St.words (s : St) : List UInt32 := [s.a, s.b, s.c, s.d, s.e, s.f, s.g, s.h]

def lget (l : List UInt32) (i : Nat) : UInt32 := l[i]?.getD 0
def sig0 (x : UInt32) : UInt32 := ror x 7 ^^^ ror x 18 ^^^ shr32 x 3
def sig1 (x : UInt32) : UInt32 := ror x 17 ^^^ ror x 19 ^^^ shr32 x 10
/-- the next word of a block's schedule -/
def nxt (blk : List UInt8) (l : List UInt32) : UInt32 :=
  if l.length < 16 then wordOf (blk.drop (4 * l.length)) else lget l (l.length - 16) + sig0 (lget l (l.length - 15)) + lget l (l.length - 7) + sig1 (lget l (l.length - 2))
def sched (blk : List UInt8) : Nat → List UInt32
  | 0 => []
  | n + 1 => sched blk n ++ [nxt blk (sched blk n)]
theorem sched_length (blk : List UInt8) (n : Nat) : (sched blk n).length = n := by
  induction n with
  | zero => rfl
  | succ n ih => simp [sched, ih]

def kTab : List UInt32 := [
  0x428a2f98, 0x71374491, 0xb5c0fbcf, 0xe9b5dba5, 0x3956c25b, 0x59f111f1, 0x923f82a4, 0xab1c5ed5,
  0xd807aa98, 0x12835b01, 0x243185be, 0x550c7dc3, 0x72be5d74, 0x80deb1fe, 0x9bdc06a7, 0xc19bf174,
  0xe49b69c1, 0xefbe4786, 0x0fc19dc6, 0x240ca1cc, 0x2de92c6f, 0x4a7484aa, 0x5cb0a9dc, 0x76f988da,
  0x983e5152, 0xa831c66d, 0xb00327c8, 0xbf597fc7, 0xc6e00bf3, 0xd5a79147, 0x06ca6351, 0x14292967,
  0x27b70a85, 0x2e1b2138, 0x4d2c6dfc, 0x53380d13, 0x650a7354, 0x766a0abb, 0x81c2c92e, 0x92722c85,
  0xa2bfe8a1, 0xa81a664b, 0xc24b8b70, 0xc76c51a3, 0xd192e819, 0xd6990624, 0xf40e3585, 0x106aa070,
  0x19a4c116, 0x1e376c08, 0x2748774c, 0x34b0bcb5, 0x391c0cb3, 0x4ed8aa4a, 0x5b9cca4f, 0x682e6ff3,
  0x748f82ee, 0x78a5636f, 0x84c87814, 0x8cc70208, 0x90befffa, 0xa4506ceb, 0xbef9a3f7, 0xc67178f2]
def first : St := ⟨0x6a09e667, 0xbb67ae85, 0x3c6ef372, 0xa54ff53a, 0x510e527f, 0x9b05688c, 0x1f83d9ab, 0x5be0cd19⟩

def rounds (v : St) (w : List UInt32) : Nat → St
  | 0 => v
  | n + 1 => rnd (rounds v w n) (lget kTab n + lget w n)
/-- the state behind a block -/
def mixed (v : St) (blk : List UInt8) : St := v.add (rounds v (sched blk 64) 64)

def St.text (s : St) : List UInt8 := s.words.flatMap be4
theorem flat_be4_length (l : List UInt32) : (l.flatMap be4).length = 4 * l.length := by
  induction l with
  | nil => rfl
  | cons x l ih => simp only [List.flatMap_cons, List.length_append, ih, List.length_cons]; simp [be4]; omega
theorem take_words (s : St) (n : Nat) (h : n < 8) : (s.words.take (n + 1)).flatMap be4 = (s.words.take n).flatMap be4 ++ be4 (lget s.words n) := by
  have h1 : n < s.words.length := h
  rw [List.take_succ_eq_append_getElem h1, List.flatMap_append]
  simp [lget, h1]
def readSt (l : List UInt8) : St := ⟨wordOf l, wordOf (l.drop 4), wordOf (l.drop 8), wordOf (l.drop 12), wordOf (l.drop 16), wordOf (l.drop 20), wordOf (l.drop 24), wordOf (l.drop 28)⟩
theorem St.text_length (s : St) : s.text.length = 32 := by simp [St.text, St.words, be4]

/-- block by block -/
def eat : Nat → St → List UInt8 → St
  | 0, v, _ => v
  | n + 1, v, l => eat n (mixed v (l.take 64)) (l.drop 64)
def noughts (n : Nat) : Nat := (119 - n % 64) % 64
def pad (n : Nat) : List UInt8 := 128 :: (List.replicate (noughts n) 0 ++ (be4 (UInt64.toUInt32 (shr64 (8 * UInt64.ofNat n) 32)) ++ be4 (8 * UInt32.ofNat n)))
theorem pad_len (n : Nat) : 9 ≤ (pad n).length ∧ (pad n).length ≤ 72 ∧ (n + (pad n).length) % 64 = 0 := by
  have : (pad n).length = noughts n + 9 := by simp [pad, be4]
  rw [this]
  unfold noughts
  omega
def sumSt (l : List UInt8) : St := eat ((l ++ pad l.length).length / 64) first (l ++ pad l.length)
def sum (l : List UInt8) : List UInt8 := (sumSt l).text
def input (d : UInt8) (ps : List (List UInt8)) : List UInt8 := d :: ps.flatMap fun p => be4 (UInt32.ofNat p.length) ++ p
def tag (d : UInt8) (ps : List (List UInt8)) : List UInt8 := sum (input d ps)
end Go.Proofs.YtmifllopcbjliaaDoor.V
