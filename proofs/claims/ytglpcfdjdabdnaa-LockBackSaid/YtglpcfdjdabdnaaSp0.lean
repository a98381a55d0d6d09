/-
  What a sum is: plain.
-/
import Derived.Test.YtglpcfdjdabdnaaAb29
namespace Go.Ab

abbrev W := BitVec 32
def rotr (w : W) (k : Nat) : W := w <<< (32 - k) ||| w >>> k

/-- The word of four bytes. -/
def be4 (a b c d : Int) : W := BitVec.ofInt 32 a <<< 24 ||| BitVec.ofInt 32 b <<< 16 ||| BitVec.ofInt 32 c <<< 8 ||| BitVec.ofInt 32 d
def be (l : List Int) (i : Nat) : W := be4 (l.getD (4 * i) 0) (l.getD (4 * i + 1) 0) (l.getD (4 * i + 2) 0) (l.getD (4 * i + 3) 0)

structure St where
  a : W
  b : W
  c : W
  d : W
  e : W
  f : W
  g : W
  h : W

def St.l (s : St) : List Int := [vw s.a, vw s.b, vw s.c, vw s.d, vw s.e, vw s.f, vw s.g, vw s.h]

def sig0 (x : W) : W := rotr x 7 ^^^ rotr x 18 ^^^ x >>> 3
def sig1 (y : W) : W := rotr y 17 ^^^ rotr y 19 ^^^ y >>> 10
def nextw (l : List W) (i : Nat) : W := l.getD (i - 16) 0 + sig0 (l.getD (i - 15) 0) + l.getD (i - 7) 0 + sig1 (l.getD (i - 2) 0)
def ext (l : List W) : List W := l ++ [nextw l l.length]
def wsN (m : List W) : Nat → List W
  | 0 => m
  | n + 1 => ext (wsN m n)
def words (b : List Int) : List W := (List.range 16).map (be b)
def sched (b : List Int) : List W := wsN (words b) 48

def kl : List Nat := [
    0x428a2f98, 0x71374491, 0xb5c0fbcf, 0xe9b5dba5, 0x3956c25b, 0x59f111f1, 0x923f82a4, 0xab1c5ed5,
    0xd807aa98, 0x12835b01, 0x243185be, 0x550c7dc3, 0x72be5d74, 0x80deb1fe, 0x9bdc06a7, 0xc19bf174,
    0xe49b69c1, 0xefbe4786, 0x0fc19dc6, 0x240ca1cc, 0x2de92c6f, 0x4a7484aa, 0x5cb0a9dc, 0x76f988da,
    0x983e5152, 0xa831c66d, 0xb00327c8, 0xbf597fc7, 0xc6e00bf3, 0xd5a79147, 0x06ca6351, 0x14292967,
    0x27b70a85, 0x2e1b2138, 0x4d2c6dfc, 0x53380d13, 0x650a7354, 0x766a0abb, 0x81c2c92e, 0x92722c85,
    0xa2bfe8a1, 0xa81a664b, 0xc24b8b70, 0xc76c51a3, 0xd192e819, 0xd6990624, 0xf40e3585, 0x106aa070,
    0x19a4c116, 0x1e376c08, 0x2748774c, 0x34b0bcb5, 0x391c0cb3, 0x4ed8aa4a, 0x5b9cca4f, 0x682e6ff3,
    0x748f82ee, 0x78a5636f, 0x84c87814, 0x8cc70208, 0x90befffa, 0xa4506ceb, 0xbef9a3f7, 0xc67178f2]
def kw (i : Nat) : W := BitVec.ofNat 32 (kl.getD i 0)
def kint : List Int := kl.map fun (n : Nat) => (n : Int)

def rnd (s : St) (k w : W) : St :=
  let t := s.h + (rotr s.e 6 ^^^ rotr s.e 11 ^^^ rotr s.e 25) + (s.g ^^^ s.e &&& (s.f ^^^ s.g)) + k + w
  let r := rotr s.a 2 ^^^ rotr s.a 13 ^^^ rotr s.a 22
  let most := s.a &&& s.b ||| s.c &&& (s.a ||| s.b)
  ⟨t + r + most, s.a, s.b, s.c, s.d + t, s.e, s.f, s.g⟩
def rounds (ws : List W) (s : St) : Nat → St
  | 0 => s
  | n + 1 => rnd (rounds ws s n) (kw n) (ws.getD n 0)
def mixS (s : St) (b : List Int) : St :=
  let v := rounds (sched b) s 64
  ⟨v.a + s.a, v.b + s.b, v.c + s.c, v.d + s.d, v.e + s.e, v.f + s.f, v.g + s.g, v.h + s.h⟩

def first0 : St := ⟨0x6a09e667, 0xbb67ae85, 0x3c6ef372, 0xa54ff53a, 0x510e527f, 0x9b05688c, 0x1f83d9ab, 0x5be0cd19⟩

def blocksN : Nat → St → List Int → St
  | 0, s, _ => s
  | n + 1, s, l => blocksN n (mixS s (l.take 64)) (l.drop 64)
def blocks (s : St) (l : List Int) : St := blocksN (l.length / 64) s l

def byt (w : W) (k : Nat) : Int := vw ((w >>> (24 - 8 * k)).setWidth 8)
def by4 (w : W) : List Int := [byt w 0, byt w 1, byt w 2, byt w 3]
def outb (s : St) : List Int := by4 s.a ++ by4 s.b ++ by4 s.c ++ by4 s.d ++ by4 s.e ++ by4 s.f ++ by4 s.g ++ by4 s.h

/-- A number's eight bytes. -/
def be8 (n : Int) : List Int := [n / 2 ^ 56 % 256, n / 2 ^ 48 % 256, n / 2 ^ 40 % 256, n / 2 ^ 32 % 256, n / 2 ^ 24 % 256, n / 2 ^ 16 % 256, n / 2 ^ 8 % 256, n % 256]

def padn (n : Nat) : Nat := (119 - n % 64) % 64
def pad (b : List Int) : List Int := b ++ 128 :: (List.replicate (padn b.length) 0 ++ be8 (8 * b.length))
def sha (b : List Int) : List Int := outb (blocks first0 (pad b))
def tagp (parts : List (List Int)) : List Int := parts.flatMap fun p => be8 p.length ++ p
def tagb (name : List Int) (parts : List (List Int)) : List Int := be8 name.length ++ name ++ tagp parts
def tag (name : List Int) (parts : List (List Int)) : List Int := sha (tagb name parts)

theorem outb_length (s : St) : (outb s).length = 32 := rfl
theorem sha_length (b : List Int) : (sha b).length = 32 := rfl
theorem be8_length (n : Int) : (be8 n).length = 8 := rfl
theorem ext_length (l : List W) : (ext l).length = l.length + 1 := by simp [ext]
theorem wsN_length (m : List W) : ∀ n, (wsN m n).length = m.length + n
  | 0 => rfl
  | n + 1 => by rw [wsN, ext_length, wsN_length m n]; omega
theorem words_length (b : List Int) : (words b).length = 16 := by simp [words]

theorem blocksN_append : ∀ (n : Nat) (s : St) (a b : List Int), a.length = 64 * n → ∀ m, blocksN (n + m) s (a ++ b) = blocksN m (blocksN n s a) b
  | 0, s, a, b, h, m => by
    have : a = [] := List.eq_nil_of_length_eq_zero (by omega)
    subst this
    simp [blocksN]
  | n + 1, s, a, b, h, m => by
    rw [show n + 1 + m = (n + m) + 1 by omega, blocksN, blocksN]
    rw [List.take_append_of_le_length (by omega), List.drop_append_of_le_length (by omega)]
    exact blocksN_append n _ _ _ (by simp; omega) m

theorem blocks_append (s : St) (a b : List Int) (h : a.length % 64 = 0) : blocks s (a ++ b) = blocks (blocks s a) b := by
  unfold blocks
  have e : (a ++ b).length / 64 = a.length / 64 + b.length / 64 := by simp; omega
  rw [e]
  exact blocksN_append _ _ _ _ (by omega) _

theorem blocks_step (s : St) (l : List Int) (h : 64 ≤ l.length) : blocks s l = blocks (mixS s (l.take 64)) (l.drop 64) := by
  unfold blocks
  rw [show l.length / 64 = (l.drop 64).length / 64 + 1 by simp; omega]
  rfl
theorem blocks_end (s : St) (l : List Int) (h : l.length < 64) : blocks s l = s := by
  unfold blocks
  rw [show l.length / 64 = 0 by omega]
  rfl

def Byte (x : Int) : Prop := 0 ≤ x ∧ x < 256
def Bytes (l : List Int) : Prop := ∀ x ∈ l, Byte x

theorem byte_vw (w : BitVec 8) : Byte (vw w) := ⟨vw_nonneg w, vw_lt w⟩
theorem Byte.vw {x : Int} (h : Byte x) : x = vw (BitVec.ofInt 8 x) := by
  rw [vw_ofInt]
  obtain ⟨h1, h2⟩ := h
  omega
theorem bytes_outb (s : St) : Bytes (outb s) := by
  intro x hx
  simp only [outb, by4, List.mem_append, List.mem_cons, List.not_mem_nil, or_false] at hx
  rcases hx with ((((((hx | hx) | hx) | hx) | hx) | hx) | hx) | hx <;> rcases hx with rfl | rfl | rfl | rfl <;> exact byte_vw _
theorem bytes_sha (b : List Int) : Bytes (sha b) := bytes_outb _
theorem bytes_be8 (n : Int) : Bytes (be8 n) := by
  intro x hx
  simp only [be8, List.mem_cons, List.not_mem_nil, or_false] at hx
  rcases hx with rfl | rfl | rfl | rfl | rfl | rfl | rfl | rfl <;> exact ⟨by omega, by omega⟩

end Go.Ab
