/- The plain mathematics of SHA-256 on 32-bit words (as whole numbers): no Go in sight. -/
import Derived.RowKit
import Derived.Laws.Entries
import Derived.Laws.BitsLemmas
namespace Go.Proofs.YtjpdagfdcniphaaGreatDoor.ShaS

/-- x, turned to the right by n -/
def rotr (x : Int) (n : Int) : Int := bits .or .u32 (x / 2 ^ n.toNat) (x * 2 ^ (32 - n).toNat % 4294967296)

theorem bits_range (op : BinOp) (x y : Int) : 0 ≤ bits op .u32 x y ∧ bits op .u32 x y < 4294967296 := by
  unfold bits
  split <;> simp [IntKind.wrap, IntKind.bits, IntKind.signed] <;> omega

theorem bits_or_comm (x y : Int) : bits .or .u32 x y = bits .or .u32 y x := by
  unfold bits
  show IntKind.u32.wrap ((BitVec.ofInt _ x ||| BitVec.ofInt _ y).toNat : Int) = IntKind.u32.wrap ((BitVec.ofInt _ y ||| BitVec.ofInt _ x).toNat : Int)
  rw [BitVec.or_comm]

theorem rotr_range (x n : Int) : 0 ≤ rotr x n ∧ rotr x n < 4294967296 := bits_range _ _ _

theorem wraps_u32 (n : Int) (h₀ : 0 ≤ n) (h₁ : n < 2 ^ 32) : IntKind.u32.wrap n = n := by rw [IntKind.wrap_u32]; omega
theorem u32_join (i : Nat) (x y : Int) (hx₀ : 0 ≤ x) (hx : x % 2 ^ i = 0) (hx₁ : x < 4294967296) (hy₀ : 0 ≤ y) (hy : y < 2 ^ i) (hy₁ : y < 4294967296) : bits .or .u32 x y = x + y :=
  bits_join .u32 32 (by decide) wraps_u32 i x y hx₀ hx hx₁ hy₀ hy hy₁

theorem join4w (a b c d : Int) (ha : 0 ≤ a ∧ a < 256) (hb : 0 ≤ b ∧ b < 256) (hc : 0 ≤ c ∧ c < 256) (hd : 0 ≤ d ∧ d < 256) :
    bits .or .u32 (bits .or .u32 (bits .or .u32 (IntKind.u32.wrap (IntKind.u32.wrap a * 16777216)) (IntKind.u32.wrap (IntKind.u32.wrap b * 65536))) (IntKind.u32.wrap (IntKind.u32.wrap c * 256))) (IntKind.u32.wrap d) = ((a * 256 + b) * 256 + c) * 256 + d := by
  obtain ⟨a0, a1⟩ := ha; obtain ⟨b0, b1⟩ := hb; obtain ⟨c0, c1⟩ := hc; obtain ⟨d0, d1⟩ := hd
  simp only [IntKind.wrap_u32]
  rw [show a % 4294967296 * 16777216 % 4294967296 = a * 16777216 by omega, show b % 4294967296 * 65536 % 4294967296 = b * 65536 by omega, show c % 4294967296 * 256 % 4294967296 = c * 256 by omega, show d % 4294967296 = d by omega]
  rw [u32_join 24 (a * 16777216) (b * 65536) (by omega) (by omega) (by omega) (by omega) (by omega) (by omega)]
  rw [u32_join 16 _ (c * 256) (by omega) (by omega) (by omega) (by omega) (by omega) (by omega)]
  rw [u32_join 8 _ d (by omega) (by omega) (by omega) (by omega) (by omega) (by omega)]
  omega

/-- a word of four bytes -/
def word (b : List Int) (i : Nat) : Int := ((b.getD (4*i) 0 * 256 + b.getD (4*i+1) 0) * 256 + b.getD (4*i+2) 0) * 256 + b.getD (4*i+3) 0

def Byte (x : Int) : Prop := 0 ≤ x ∧ x < 256

def g0 (x : Int) : Int := bits .xor .u32 (bits .xor .u32 (rotr x 7) (rotr x 18)) (x / 8)
def g1 (y : Int) : Int := bits .xor .u32 (bits .xor .u32 (rotr y 17) (rotr y 19)) (y / 1024)

/-- the word behind those that are there -/
def nextW (l : List Int) (t : Nat) : Int :=
  (g1 (l.getD (t-2) 0) + l.getD (t-7) 0 + g0 (l.getD (t-15) 0) + l.getD (t-16) 0) % 4294967296

/-- the first words of a block -/
def wl (b : List Int) : Nat → List Int
  | 0 => []
  | k + 1 => wl b k ++ [if k < 16 then word b k else nextW (wl b k) k]

theorem wl_length (b : List Int) (k : Nat) : (wl b k).length = k := by
  induction k with
  | zero => rfl
  | succ k ih => simp [wl, ih]

def W32 (x : Int) : Prop := 0 ≤ x ∧ x < 4294967296
def Bytes (b : List Int) : Prop := ∀ x ∈ b, Byte x

theorem getD_byte {b : List Int} (h : Bytes b) (i : Nat) : Byte (b.getD i 0) := by
  by_cases hi : i < b.length
  · rw [List.getD_eq_getElem?_getD, List.getElem?_eq_getElem hi]; exact h _ (List.getElem_mem hi)
  · rw [List.getD_eq_getElem?_getD, List.getElem?_eq_none (by omega)]; exact ⟨by decide, by decide⟩

theorem word_range {b : List Int} (h : Bytes b) (i : Nat) : W32 (word b i) := by
  have h0 := getD_byte h (4*i); have h1 := getD_byte h (4*i+1); have h2 := getD_byte h (4*i+2); have h3 := getD_byte h (4*i+3)
  unfold word; unfold Byte at *; constructor <;> omega

theorem nextW_range (l : List Int) (t : Nat) : W32 (nextW l t) := by unfold nextW; constructor <;> omega

theorem wl_range {b : List Int} (h : Bytes b) (k : Nat) : ∀ x ∈ wl b k, W32 x := by
  induction k with
  | zero => intro x hx; simp [wl] at hx
  | succ k ih =>
    intro x hx
    simp only [wl, List.mem_append, List.mem_singleton] at hx
    rcases hx with hx | rfl
    · exact ih x hx
    · split
      · exact word_range h _
      · exact nextW_range _ _

/-- one round over the eight registers -/
def oneX (e : Int) : Int := bits .xor .u32 (bits .xor .u32 (rotr e 6) (rotr e 11)) (rotr e 25)
def oneY (e f g : Int) : Int := bits .xor .u32 (bits .and .u32 e f) (bits .and .u32 (bits .xor .u32 IntKind.u32.max e) g)
def twoX (a : Int) : Int := bits .xor .u32 (bits .xor .u32 (rotr a 2) (rotr a 13)) (rotr a 22)
def twoY (a b c : Int) : Int := bits .xor .u32 (bits .xor .u32 (bits .and .u32 a b) (bits .and .u32 a c)) (bits .and .u32 b c)
def one (s : List Int) (k w : Int) : Int := (s.getD 7 0 + oneX (s.getD 4 0) + oneY (s.getD 4 0) (s.getD 5 0) (s.getD 6 0) + k + w) % 4294967296
def two (s : List Int) : Int := (twoX (s.getD 0 0) + twoY (s.getD 0 0) (s.getD 1 0) (s.getD 2 0)) % 4294967296
def rnd (s : List Int) (k w : Int) : List Int :=
  [(one s k w + two s) % 4294967296, s.getD 0 0, s.getD 1 0, s.getD 2 0, (s.getD 3 0 + one s k w) % 4294967296, s.getD 4 0, s.getD 5 0, s.getD 6 0]

def ks : List Int := [
  0x428a2f98, 0x71374491, 0xb5c0fbcf, 0xe9b5dba5, 0x3956c25b, 0x59f111f1, 0x923f82a4, 0xab1c5ed5,
  0xd807aa98, 0x12835b01, 0x243185be, 0x550c7dc3, 0x72be5d74, 0x80deb1fe, 0x9bdc06a7, 0xc19bf174,
  0xe49b69c1, 0xefbe4786, 0x0fc19dc6, 0x240ca1cc, 0x2de92c6f, 0x4a7484aa, 0x5cb0a9dc, 0x76f988da,
  0x983e5152, 0xa831c66d, 0xb00327c8, 0xbf597fc7, 0xc6e00bf3, 0xd5a79147, 0x06ca6351, 0x14292967,
  0x27b70a85, 0x2e1b2138, 0x4d2c6dfc, 0x53380d13, 0x650a7354, 0x766a0abb, 0x81c2c92e, 0x92722c85,
  0xa2bfe8a1, 0xa81a664b, 0xc24b8b70, 0xc76c51a3, 0xd192e819, 0xd6990624, 0xf40e3585, 0x106aa070,
  0x19a4c116, 0x1e376c08, 0x2748774c, 0x34b0bcb5, 0x391c0cb3, 0x4ed8aa4a, 0x5b9cca4f, 0x682e6ff3,
  0x748f82ee, 0x78a5636f, 0x84c87814, 0x8cc70208, 0x90befffa, 0xa4506ceb, 0xbef9a3f7, 0xc67178f2]
def iv : List Int := [0x6a09e667, 0xbb67ae85, 0x3c6ef372, 0xa54ff53a, 0x510e527f, 0x9b05688c, 0x1f83d9ab, 0x5be0cd19]

theorem ks_range : ∀ x ∈ ks, W32 x := by unfold W32 ks; decide
theorem iv_range : ∀ x ∈ iv, W32 x := by unfold W32 iv; decide

theorem rnd_length (s : List Int) (k w : Int) : (rnd s k w).length = 8 := rfl
theorem getD_range {s : List Int} (h : ∀ x ∈ s, W32 x) (i : Nat) : W32 (s.getD i 0) := by
  by_cases hi : i < s.length
  · rw [List.getD_eq_getElem?_getD, List.getElem?_eq_getElem hi]; exact h _ (List.getElem_mem hi)
  · rw [List.getD_eq_getElem?_getD, List.getElem?_eq_none (by omega)]; exact ⟨by decide, by decide⟩
theorem rnd_range {s : List Int} (h : ∀ x ∈ s, W32 x) (k w : Int) : ∀ x ∈ rnd s k w, W32 x := by
  intro x hx
  simp only [rnd, List.mem_cons, List.not_mem_nil, or_false] at hx
  rcases hx with rfl | rfl | rfl | rfl | rfl | rfl | rfl | rfl
  · constructor <;> omega
  · exact getD_range h 0
  · exact getD_range h 1
  · exact getD_range h 2
  · constructor <;> omega
  · exact getD_range h 4
  · exact getD_range h 5
  · exact getD_range h 6

/-- the registers behind t rounds -/
def rounds (s : List Int) (w : List Int) : Nat → List Int
  | 0 => s
  | t + 1 => rnd (rounds s w t) (ks.getD t 0) (w.getD t 0)
theorem rounds_length {s : List Int} (h : s.length = 8) (w : List Int) (t : Nat) : (rounds s w t).length = 8 := by
  cases t with
  | zero => exact h
  | succ t => rfl
theorem rounds_range {s : List Int} (h : ∀ x ∈ s, W32 x) (w : List Int) (t : Nat) : ∀ x ∈ rounds s w t, W32 x := by
  induction t with
  | zero => exact h
  | succ t ih => exact rnd_range ih _ _

/-- the registers behind a block -/
def block (r : List Int) (b : List Int) : List Int := (List.range 8).map fun i => ((rounds r (wl b 64) 64).getD i 0 + r.getD i 0) % 4294967296

theorem block_length (r b : List Int) : (block r b).length = 8 := by simp [block]
theorem block_range (r b : List Int) : ∀ x ∈ block r b, W32 x := by
  intro x hx
  obtain ⟨i, _, rfl⟩ := List.mem_map.1 hx
  constructor <;> omega

/-- the first i registers added up -/
def addTo (S r : List Int) : Nat → List Int
  | 0 => S
  | i + 1 => (addTo S r i).set i ((S.getD i 0 + r.getD i 0) % 4294967296)
theorem addTo_length (S r : List Int) (i : Nat) : (addTo S r i).length = S.length := by
  induction i with
  | zero => rfl
  | succ i ih => simp [addTo, ih]
theorem addTo_later (S r : List Int) (i : Nat) : ∀ j, i ≤ j → (addTo S r i).getD j 0 = S.getD j 0 := by
  induction i with
  | zero => intro j _; rfl
  | succ i ih =>
    intro j hj
    rw [← ih j (by omega)]
    simp only [addTo, List.getD_eq_getElem?_getD, List.getElem?_set_ne (show i ≠ j by omega)]
theorem addTo_all (S r : List Int) (h : S.length = 8) : addTo S r 8 = (List.range 8).map fun i => (S.getD i 0 + r.getD i 0) % 4294967296 := by
  match S, h with
  | [a, b, c, d, e, f, g, i], _ => rfl

/-- how many noughts stand in what is behind a text -/
def padZ (n : Nat) : Nat := (64 - (n + 9) % 64) % 64
/-- the first k of a number's eight bytes -/
def be8 (x : Int) (k : Nat) : List Int := (List.range k).map fun j => x / 2 ^ (8 * (7 - j)) % 256
def pad (n : Nat) : List Int := 128 :: (List.replicate (padZ n) 0 ++ be8 (n * 8 : Int) 8)
theorem be8_succ (x : Int) (k : Nat) : be8 x (k + 1) = be8 x k ++ [x / 2 ^ (8 * (7 - k)) % 256] := by simp [be8, List.range_succ]
theorem be8_length (x : Int) (k : Nat) : (be8 x k).length = k := by simp [be8]
theorem pad_length (n : Nat) : (pad n).length = padZ n + 9 := by simp [pad, be8_length]
theorem pad_whole (n : Nat) : (n + (pad n).length) % 64 = 0 := by rw [pad_length]; unfold padZ; omega
theorem pad_bytes (n : Nat) : Bytes (pad n) := by
  intro x hx
  simp only [pad, List.mem_cons, List.mem_append] at hx
  rcases hx with rfl | hx | hx
  · exact ⟨by decide, by decide⟩
  · obtain ⟨_, rfl⟩ := List.mem_replicate.1 hx; exact ⟨by decide, by decide⟩
  · obtain ⟨j, _, rfl⟩ := List.mem_map.1 hx; exact ⟨by omega, by omega⟩

/-- the registers behind the first k blocks -/
def regs (all : List Int) : Nat → List Int
  | 0 => iv
  | k + 1 => block (regs all k) ((all.drop (64 * k)).take 64)
theorem regs_length (all : List Int) (k : Nat) : (regs all k).length = 8 := by
  cases k with
  | zero => rfl
  | succ k => exact block_length _ _
theorem regs_range (all : List Int) (k : Nat) : ∀ x ∈ regs all k, W32 x := by
  cases k with
  | zero => exact iv_range
  | succ k => exact block_range _ _
/-- the first i registers, byte by byte -/
def outB (r : List Int) (i : Nat) : List Int := (List.range i).flatMap fun j => [r.getD j 0 / 16777216 % 256, r.getD j 0 / 65536 % 256, r.getD j 0 / 256 % 256, r.getD j 0 % 256]
theorem outB_succ (r : List Int) (i : Nat) : outB r (i + 1) = outB r i ++ [r.getD i 0 / 16777216 % 256, r.getD i 0 / 65536 % 256, r.getD i 0 / 256 % 256, r.getD i 0 % 256] := by
  simp [outB, List.range_succ]
theorem outB_length (r : List Int) (i : Nat) : (outB r i).length = 4 * i := by
  induction i with
  | zero => rfl
  | succ i ih => rw [outB_succ, List.length_append, ih]; simp; omega
/-- the digest of a text -/
def sum (l : List Int) : List Int := outB (regs (l ++ pad l.length) ((l ++ pad l.length).length / 64)) 8
theorem sum_length (l : List Int) : (sum l).length = 32 := outB_length _ 8
theorem sum_bytes (l : List Int) : Bytes (sum l) := by
  intro x hx
  obtain ⟨j, _, hx⟩ := List.mem_flatMap.1 hx
  simp only [List.mem_cons, List.not_mem_nil, or_false] at hx
  rcases hx with rfl | rfl | rfl | rfl <;> exact ⟨by omega, by omega⟩

/-- the first k bytes of a word -/
def pw (b : List Int) (i : Nat) : Nat → Int
  | 0 => 0
  | k + 1 => pw b i k * 256 + b.getD (4 * i + k) 0
theorem pw_all (b : List Int) (i : Nat) : pw b i 4 = word b i := by simp [pw, word]
theorem pw_small {b : List Int} (h : Bytes b) (i k : Nat) (hk : k < 4) : 0 ≤ pw b i k ∧ pw b i k < 16777216 := by
  have h0 := getD_byte h (4 * i); have h1 := getD_byte h (4 * i + 1); have h2 := getD_byte h (4 * i + 2)
  unfold Byte at *
  match k, hk with
  | 0, _ => simp only [pw]; omega
  | 1, _ => simp only [pw, Nat.add_zero]; omega
  | 2, _ => simp only [pw, Nat.add_zero]; omega
  | 3, _ => simp only [pw, Nat.add_zero]; omega
theorem pw_step (x b : Int) (h0 : 0 ≤ x) (h1 : x < 16777216) (b0 : 0 ≤ b) (b1 : b < 256) : bits .or .u32 (x * 256) b = x * 256 + b := by
  exact u32_join 8 _ b (by omega) (by omega) (by omega) (by omega) (by omega) (by omega)
/-- an array in which the first i words stand, and k bytes of the next one -/
def arrW (b : List Int) (i k : Nat) : List Int := wl b i ++ pw b i k :: List.replicate (63 - i) 0
theorem arrW_length (b : List Int) (i k : Nat) (h : i < 64) : (arrW b i k).length = 64 := by simp [arrW, wl_length]; omega
theorem arrW_at (b : List Int) (i k : Nat) : (arrW b i k).getD i 0 = pw b i k := by
  simp [arrW, List.getD_eq_getElem?_getD, List.getElem?_append_right, wl_length]
theorem arrW_set (b : List Int) (i k : Nat) (v : Int) : (arrW b i k).set i v = wl b i ++ v :: List.replicate (63 - i) 0 := by
  unfold arrW
  rw [List.set_append_right _ _ (by rw [wl_length]; exact Nat.le_refl _), wl_length, Nat.sub_self]
  rfl
theorem arrW_next (b : List Int) (i : Nat) (h : i < 16) : arrW b i 4 = arrW b (i + 1) 0 := by
  simp only [arrW, wl, if_pos h, pw_all, List.append_assoc, List.singleton_append]
  rw [show 63 - i = (63 - (i + 1)) + 1 by omega, List.replicate_succ]
  rfl

/-- an array in which the first t words stand -/
def arrT (b : List Int) (t : Nat) : List Int := wl b t ++ List.replicate (64 - t) 0
theorem arrW_arrT (b : List Int) : arrW b 16 0 = arrT b 16 := rfl
theorem arrT_length (b : List Int) (t : Nat) (h : t ≤ 64) : (arrT b t).length = 64 := by simp [arrT, wl_length]; omega
theorem arrT_at (b : List Int) (t j : Nat) (h : j < t) : (arrT b t).getD j 0 = (wl b t).getD j 0 := by
  simp only [arrT, List.getD_eq_getElem?_getD]
  rw [List.getElem?_append_left (by rw [wl_length]; exact h)]
theorem arrT_all (b : List Int) : arrT b 64 = wl b 64 := by simp [arrT]
theorem arrT_next (b : List Int) (t : Nat) (h0 : 16 ≤ t) (h : t < 64) : (arrT b t).set t (nextW (wl b t) t) = arrT b (t + 1) := by
  unfold arrT
  rw [List.set_append_right _ _ (by rw [wl_length]; exact Nat.le_refl _), wl_length, Nat.sub_self, show 64 - t = (64 - (t + 1)) + 1 by omega, List.replicate_succ, List.set_cons_zero]
  simp only [wl, if_neg (show ¬ t < 16 by omega), List.append_assoc, List.singleton_append]
theorem arrT_range {b : List Int} (h : Bytes b) (t : Nat) : ∀ x ∈ arrT b t, W32 x := by
  intro x hx
  rcases List.mem_append.1 hx with hx | hx
  · exact wl_range h t x hx
  · obtain ⟨_, rfl⟩ := List.mem_replicate.1 hx; exact ⟨by decide, by decide⟩

end Go.Proofs.YtjpdagfdcniphaaGreatDoor.ShaS
