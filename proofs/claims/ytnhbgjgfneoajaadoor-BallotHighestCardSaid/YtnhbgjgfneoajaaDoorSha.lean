/-
  SHA-256 and the check sum, in plain Lean over words of 32 bits, in the program's own order of steps.
-/
import Derived.Test.YtnhbgjgfneoajaaDoorWord
set_option linter.unusedVariables false
namespace Go.Proofs.YtnhbgjgfneoajaaDoor.Dg
namespace D
def H0 : List U := [0x6a09e667, 0xbb67ae85, 0x3c6ef372, 0xa54ff53a, 0x510e527f, 0x9b05688c, 0x1f83d9ab, 0x5be0cd19]
def K : List U := [
  0x428a2f98, 0x71374491, 0xb5c0fbcf, 0xe9b5dba5, 0x3956c25b, 0x59f111f1, 0x923f82a4, 0xab1c5ed5,
  0xd807aa98, 0x12835b01, 0x243185be, 0x550c7dc3, 0x72be5d74, 0x80deb1fe, 0x9bdc06a7, 0xc19bf174,
  0xe49b69c1, 0xefbe4786, 0x0fc19dc6, 0x240ca1cc, 0x2de92c6f, 0x4a7484aa, 0x5cb0a9dc, 0x76f988da,
  0x983e5152, 0xa831c66d, 0xb00327c8, 0xbf597fc7, 0xc6e00bf3, 0xd5a79147, 0x06ca6351, 0x14292967,
  0x27b70a85, 0x2e1b2138, 0x4d2c6dfc, 0x53380d13, 0x650a7354, 0x766a0abb, 0x81c2c92e, 0x92722c85,
  0xa2bfe8a1, 0xa81a664b, 0xc24b8b70, 0xc76c51a3, 0xd192e819, 0xd6990624, 0xf40e3585, 0x106aa070,
  0x19a4c116, 0x1e376c08, 0x2748774c, 0x34b0bcb5, 0x391c0cb3, 0x4ed8aa4a, 0x5b9cca4f, 0x682e6ff3,
  0x748f82ee, 0x78a5636f, 0x84c87814, 0x8cc70208, 0x90befffa, 0xa4506ceb, 0xbef9a3f7, 0xc67178f2]

/-- the byte i of a text, as a word -/
def byt (s : List UInt8) (i : Nat) : U := BitVec.ofNat 32 (s.getD i 0).toNat
def word (s : List UInt8) (t : Nat) : U := byt s (4 * t) <<< 24 ||| byt s (4 * t + 1) <<< 16 ||| byt s (4 * t + 2) <<< 8 ||| byt s (4 * t + 3)
/-- the first t words of the schedule -/
def sch0 (s : List UInt8) : Nat → List U
  | 0 => List.replicate 64 0
  | t + 1 => (sch0 s t).set t (word s t)
def mix (p r x y : U) : U := p + (R 7 x ^^^ R 18 x ^^^ x >>> 3) + r + (R 17 y ^^^ R 19 y ^^^ y >>> 10)
/-- n more words -/
def sch1 (l : List U) : Nat → List U
  | 0 => l
  | n + 1 => (sch1 l n).set (n + 16) (mix ((sch1 l n).getD n 0) ((sch1 l n).getD (n + 9) 0) ((sch1 l n).getD (n + 1) 0) ((sch1 l n).getD (n + 14) 0))
def t1 (v : List U) (k w : U) : U :=
  v.getD 7 0 + (R 6 (v.getD 4 0) ^^^ R 11 (v.getD 4 0) ^^^ R 25 (v.getD 4 0)) + (v.getD 4 0 &&& v.getD 5 0 ^^^ ~~~(v.getD 4 0) &&& v.getD 6 0) + k + w
def t2 (v : List U) : U :=
  (R 2 (v.getD 0 0) ^^^ R 13 (v.getD 0 0) ^^^ R 22 (v.getD 0 0)) + (v.getD 0 0 &&& v.getD 1 0 ^^^ v.getD 0 0 &&& v.getD 2 0 ^^^ v.getD 1 0 &&& v.getD 2 0)
def rnd (v : List U) (k w : U) : List U :=
  [t1 v k w + t2 v, v.getD 0 0, v.getD 1 0, v.getD 2 0, v.getD 3 0 + t1 v k w, v.getD 4 0, v.getD 5 0, v.getD 6 0]
/-- n rounds -/
def rnds (w v : List U) : Nat → List U
  | 0 => v
  | n + 1 => rnd (rnds w v n) (K.getD n 0) (w.getD n 0)
/-- n sums -/
def sums (s v : List U) : Nat → List U
  | 0 => s
  | n + 1 => (sums s v n).set n ((sums s v n).getD n 0 + v.getD n 0)
def comp (s : List U) (b : List UInt8) : List U := sums s (rnds (sch1 (sch0 b 16) 48) s 64) 8

theorem test : comp H0 (0x80 :: List.replicate 63 0) = [0xe3b0c442, 0x98fc1c14, 0x9afbf4c8, 0x996fb924, 0x27ae41e4, 0x649b934c, 0xa495991b, 0x7852b855] := by decide +kernel
end D
end Go.Proofs.YtnhbgjgfneoajaaDoor.Dg
