/-
  SHA-256, HMAC and what is derived of a secret, over lists of numbers. No program in sight.
-/
set_option linter.unusedVariables false
set_option linter.unusedSimpArgs false
namespace Sac
namespace Sha

def M : Nat := 4294967296
def rotr (x n : Nat) : Nat := (x * 2 ^ (32 - n)) % M ||| x / 2 ^ n
def K : List Nat := [
  0x428a2f98, 0x71374491, 0xb5c0fbcf, 0xe9b5dba5, 0x3956c25b, 0x59f111f1, 0x923f82a4, 0xab1c5ed5,
  0xd807aa98, 0x12835b01, 0x243185be, 0x550c7dc3, 0x72be5d74, 0x80deb1fe, 0x9bdc06a7, 0xc19bf174,
  0xe49b69c1, 0xefbe4786, 0x0fc19dc6, 0x240ca1cc, 0x2de92c6f, 0x4a7484aa, 0x5cb0a9dc, 0x76f988da,
  0x983e5152, 0xa831c66d, 0xb00327c8, 0xbf597fc7, 0xc6e00bf3, 0xd5a79147, 0x06ca6351, 0x14292967,
  0x27b70a85, 0x2e1b2138, 0x4d2c6dfc, 0x53380d13, 0x650a7354, 0x766a0abb, 0x81c2c92e, 0x92722c85,
  0xa2bfe8a1, 0xa81a664b, 0xc24b8b70, 0xc76c51a3, 0xd192e819, 0xd6990624, 0xf40e3585, 0x106aa070,
  0x19a4c116, 0x1e376c08, 0x2748774c, 0x34b0bcb5, 0x391c0cb3, 0x4ed8aa4a, 0x5b9cca4f, 0x682e6ff3,
  0x748f82ee, 0x78a5636f, 0x84c87814, 0x8cc70208, 0x90befffa, 0xa4506ceb, 0xbef9a3f7, 0xc67178f2]
def H0 : List Nat := [0x6a09e667, 0xbb67ae85, 0x3c6ef372, 0xa54ff53a, 0x510e527f, 0x9b05688c, 0x1f83d9ab, 0x5be0cd19]

/-- Word i of a block of bytes. -/
def word (b : List Nat) (i : Nat) : Nat := b.getD (4 * i) 0 * 16777216 + b.getD (4 * i + 1) 0 * 65536 + b.getD (4 * i + 2) 0 * 256 + b.getD (4 * i + 3) 0
def words16 (b : List Nat) : List Nat := (List.range 16).map (word b)

/-- The word that follows n words. -/
def next (w : List Nat) (n : Nat) : Nat :=
  let x := w.getD (n - 15) 0
  let y := w.getD (n - 2) 0
  (w.getD (n - 16) 0 + w.getD (n - 7) 0 + (rotr x 7 ^^^ rotr x 18 ^^^ x / 8) + (rotr y 17 ^^^ rotr y 19 ^^^ y / 1024)) % M
def sched : Nat → List Nat → List Nat
  | 0, w => w
  | k + 1, w => sched k (w ++ [next w w.length])

def round (v : List Nat) (k w : Nat) : List Nat :=
  let a := v.getD 0 0
  let e := v.getD 4 0
  let t := (v.getD 7 0 + (rotr e 6 ^^^ rotr e 11 ^^^ rotr e 25) + ((e &&& v.getD 5 0) ^^^ ((M - 1 - e) &&& v.getD 6 0)) + k + w) % M
  let u := ((rotr a 2 ^^^ rotr a 13 ^^^ rotr a 22) + ((a &&& v.getD 1 0) ^^^ (a &&& v.getD 2 0) ^^^ (v.getD 1 0 &&& v.getD 2 0))) % M
  [(t + u) % M, a, v.getD 1 0, v.getD 2 0, (v.getD 3 0 + t) % M, e, v.getD 5 0, v.getD 6 0]
def rounds : List Nat → List Nat → List Nat → List Nat
  | k :: ks, w :: ws, v => rounds ks ws (round v k w)
  | _, _, v => v

/-- A state with a block taken in. -/
def block (s b : List Nat) : List Nat := List.zipWith (fun x y => (x + y) % M) s (rounds K (sched 48 (words16 b)) s)

/-- All whole blocks taken in. -/
def blocks : Nat → List Nat → List Nat → List Nat
  | 0, s, _ => s
  | k + 1, s, b => blocks k (block s (b.take 64)) (b.drop 64)

def be4 (x : Nat) : List Nat := [x / 16777216 % 256, x / 65536 % 256, x / 256 % 256, x % 256]
def len8 (n : Nat) : List Nat := [n * 8 / 2 ^ 56 % 256, n * 8 / 2 ^ 48 % 256, n * 8 / 2 ^ 40 % 256, n * 8 / 2 ^ 32 % 256, n * 8 / 2 ^ 24 % 256, n * 8 / 2 ^ 16 % 256, n * 8 / 2 ^ 8 % 256, n * 8 % 256]
/-- What is put behind n bytes. -/
def tail (n : Nat) : List Nat := 128 :: (List.replicate ((119 - n % 64) % 64) 0 ++ len8 n)
def sum (m : List Nat) : List Nat := (blocks ((m ++ tail m.length).length / 64) H0 (m ++ tail m.length)).flatMap be4

def pad (key : List Nat) (x : Nat) : List Nat :=
  let k := if 64 < key.length then sum key else key
  (k ++ List.replicate (64 - k.length) 0).map (· ^^^ x)
def tag (key msg : List Nat) : List Nat := sum (pad key 0x5c ++ sum (pad key 0x36 ++ msg))

/-- The first k blocks of what is derived; last: the one before them. -/
def expand (key info : List Nat) : Nat → Nat → List Nat → List Nat
  | 0, _, _ => []
  | k + 1, i, last => tag key (last ++ info ++ [i]) ++ expand key info k (i + 1) (tag key (last ++ info ++ [i]))
def derive (salt secret info : List Nat) (n : Nat) : List Nat := (expand (tag salt secret) info ((n + 31) / 32) 1 []).take n

end Sha
end Sac
