/-
  Words of 64 bits as numbers, bit by bit: plain laws, no program.
-/
import Derived.Test.YtbhhbddmokddeaaKit
namespace Go.Proofs.Ytbhhbddmokddeaa
open Go.RowKit

/-- The number whose bit j is f j, for j below n. -/
def ofB (f : Nat → Bool) : Nat → Nat
  | 0 => 0
  | n + 1 => ofB f n + if f n then 2 ^ n else 0

theorem ofB_lt (f : Nat → Bool) : ∀ n, ofB f n < 2 ^ n
  | 0 => by simp [ofB]
  | n + 1 => by
    have := ofB_lt f n
    rw [ofB, Nat.pow_succ]
    split <;> omega

theorem testBit_ofB (f : Nat → Bool) : ∀ n j, (ofB f n).testBit j = (decide (j < n) && f j)
  | 0, j => by simp [ofB]
  | n + 1, j => by
    have h := ofB_lt f n
    have e : ofB f (n + 1) = 2 ^ n * (if f n then 1 else 0) + ofB f n := by
      rw [ofB]
      split <;> omega
    rw [e, Nat.testBit_two_pow_mul_add _ h, testBit_ofB f n j]
    by_cases hj : j < n
    · rw [if_pos hj]
      simp [hj, Nat.lt_succ_of_lt hj]
    · rw [if_neg hj]
      by_cases hj' : j = n
      · subst hj'
        cases hf : f j <;> simp
      · have : ¬ j < n + 1 := by omega
        have hp : 0 < j - n := by omega
        simp only [this, decide_false, Bool.false_and]
        split
        · rw [Nat.testBit_lt_two_pow]
          exact Nat.lt_of_lt_of_le (by decide : 1 < 2 ^ 1) (Nat.pow_le_pow_right (by omega) hp)
        · simp

theorem ofB_congr {f g : Nat → Bool} : ∀ {n}, (∀ j, j < n → f j = g j) → ofB f n = ofB g n
  | 0, _ => rfl
  | n + 1, h => by rw [ofB, ofB, ofB_congr fun j hj => h j (by omega), h n (by omega)]

/-- The lowest bit first. -/
theorem ofB_cons (f : Nat → Bool) : ∀ n, ofB f (n + 1) = (if f 0 then 1 else 0) + 2 * ofB (fun j => f (j + 1)) n
  | 0 => by simp [ofB]
  | n + 1 => by
    rw [ofB, ofB_cons f n, ofB, Nat.mul_add, Nat.pow_succ]
    split <;> split <;> omega

theorem eq_of_bits {x y n : Nat} (hx : x < 2 ^ n) (hy : y < 2 ^ n) (h : ∀ j, j < n → x.testBit j = y.testBit j) : x = y := by
  refine Nat.eq_of_testBit_eq fun j => ?_
  by_cases hj : j < n
  · exact h j hj
  · have hp : 2 ^ n ≤ 2 ^ j := Nat.pow_le_pow_right (by omega) (by omega)
    rw [Nat.testBit_lt_two_pow (by omega), Nat.testBit_lt_two_pow (by omega)]

/-! ### words -/

def bitAt (ws : List Nat) (i : Nat) : Bool := (ws.getD (i / 64) 0).testBit (i % 64)

def Bnd (ws : List Nat) : Prop := ∀ x ∈ ws, x < 2 ^ 64

theorem Bnd.getD {ws : List Nat} (h : Bnd ws) (i : Nat) : ws.getD i 0 < 2 ^ 64 := by
  rw [List.getD_eq_getElem?_getD]
  by_cases hi : i < ws.length
  · rw [List.getElem?_eq_getElem hi]
    exact h _ (List.getElem_mem _)
  · rw [List.getElem?_eq_none (by omega)]
    decide

theorem words_ext {xs ys : List Nat} (hl : xs.length = ys.length) (hx : Bnd xs) (hy : Bnd ys) (h : ∀ i, i < 64 * xs.length → bitAt xs i = bitAt ys i) : xs = ys := by
  refine List.ext_getElem hl fun i h1 h2 => ?_
  refine eq_of_bits (n := 64) (hx _ (List.getElem_mem _)) (hy _ (List.getElem_mem _)) fun j hj => ?_
  have := h (64 * i + j) (by omega)
  unfold bitAt at this
  rw [show (64 * i + j) / 64 = i by omega, show (64 * i + j) % 64 = j by omega] at this
  simpa [List.getD, h1, h2] using this

theorem bitAt_out {ws : List Nat} {i : Nat} (h : 64 * ws.length ≤ i) : bitAt ws i = false := by
  unfold bitAt
  rw [List.getD_eq_getElem?_getD, List.getElem?_eq_none (by omega)]
  simp

def getF (ws : List Nat) (a k : Nat) : Nat := ofB (fun j => bitAt ws (a + j)) k

def setF (ws : List Nat) (a k v : Nat) : List Nat :=
  (List.range ws.length).map fun i => ofB (fun j => if a ≤ 64 * i + j ∧ 64 * i + j < a + k then v.testBit (64 * i + j - a) else (ws.getD i 0).testBit j) 64

theorem setF_length (ws : List Nat) (a k v : Nat) : (setF ws a k v).length = ws.length := by simp [setF]

theorem setF_bnd (ws : List Nat) (a k v : Nat) : Bnd (setF ws a k v) := by
  intro x hx
  obtain ⟨i, _, rfl⟩ := List.mem_map.1 hx
  exact ofB_lt _ 64

theorem setF_getD (ws : List Nat) (a k v : Nat) {i : Nat} (hi : i < ws.length) : (setF ws a k v).getD i 0 = ofB (fun j => if a ≤ 64 * i + j ∧ 64 * i + j < a + k then v.testBit (64 * i + j - a) else (ws.getD i 0).testBit j) 64 := by
  rw [List.getD_eq_getElem?_getD, setF, List.getElem?_map, List.getElem?_range hi]
  rfl

theorem bitAt_setF (ws : List Nat) (a k v i : Nat) (hk : a + k ≤ 64 * ws.length) : bitAt (setF ws a k v) i = if a ≤ i ∧ i < a + k then v.testBit (i - a) else bitAt ws i := by
  by_cases hi : i < 64 * ws.length
  · unfold bitAt
    rw [setF_getD _ _ _ _ (by omega), testBit_ofB, decide_eq_true (by omega), Bool.true_and]
    rw [show 64 * (i / 64) + i % 64 = i by omega]
  · rw [bitAt_out (by rw [setF_length]; omega), if_neg (by omega), bitAt_out (by omega)]

/-- What a list of words must be to be 'setF'. -/
theorem eq_setF {ws rs : List Nat} {a k v : Nat} (hk : a + k ≤ 64 * ws.length) (hl : rs.length = ws.length) (hb : Bnd rs) (h : ∀ i, i < 64 * ws.length → bitAt rs i = if a ≤ i ∧ i < a + k then v.testBit (i - a) else bitAt ws i) : rs = setF ws a k v :=
  words_ext (by rw [hl, setF_length]) hb (setF_bnd _ _ _ _) fun i hi => by rw [h i (by omega), bitAt_setF _ _ _ _ _ hk]

theorem setF_zero {ws : List Nat} {a v : Nat} (ha : a ≤ 64 * ws.length) (hb : Bnd ws) : setF ws a 0 v = ws :=
  (eq_setF (by omega) rfl hb fun i _ => by rw [if_neg (by omega)]).symm

theorem getF_lt (ws : List Nat) (a k : Nat) : getF ws a k < 2 ^ k := ofB_lt _ _

theorem testBit_getF (ws : List Nat) (a k j : Nat) : (getF ws a k).testBit j = (decide (j < k) && bitAt ws (a + j)) := testBit_ofB _ _ _

theorem getF_cons (ws : List Nat) (a k : Nat) : getF ws a (k + 1) = (if bitAt ws a then 1 else 0) + 2 * getF ws (a + 1) k := by
  unfold getF
  rw [ofB_cons]
  congr 2
  exact ofB_congr fun j _ => by rw [show a + (j + 1) = a + 1 + j by omega]

/-! ### the machine's operations on words, as numbers -/

theorem and64 {a b : Nat} (ha : a < 2 ^ 64) (hb : b < 2 ^ 64) : bits .and .u64 (a : Int) (b : Int) = ((a &&& b : Nat) : Int) := by
  have hx : a &&& b < 2 ^ 64 := Nat.and_lt_two_pow _ hb
  have h1 : (BitVec.ofInt 64 (a : Int)).toNat = a := by
    rw [BitVec.ofInt_natCast, BitVec.toNat_ofNat]; exact Nat.mod_eq_of_lt (by omega)
  have h2 : (BitVec.ofInt 64 (b : Int)).toNat = b := by
    rw [BitVec.ofInt_natCast, BitVec.toNat_ofNat]; exact Nat.mod_eq_of_lt (by omega)
  show IntKind.u64.wrap ((BitVec.ofInt 64 (a : Int) &&& BitVec.ofInt 64 (b : Int)).toNat : Int) = _
  rw [BitVec.toNat_and, h1, h2, IntKind.wrap_u64]
  omega

theorem or64 {a b : Nat} (ha : a < 2 ^ 64) (hb : b < 2 ^ 64) : bits .or .u64 (a : Int) (b : Int) = ((a ||| b : Nat) : Int) := by
  have hx : a ||| b < 2 ^ 64 := Nat.or_lt_two_pow ha hb
  have h1 : (BitVec.ofInt 64 (a : Int)).toNat = a := by
    rw [BitVec.ofInt_natCast, BitVec.toNat_ofNat]; exact Nat.mod_eq_of_lt (by omega)
  have h2 : (BitVec.ofInt 64 (b : Int)).toNat = b := by
    rw [BitVec.ofInt_natCast, BitVec.toNat_ofNat]; exact Nat.mod_eq_of_lt (by omega)
  show IntKind.u64.wrap ((BitVec.ofInt 64 (a : Int) ||| BitVec.ofInt 64 (b : Int)).toNat : Int) = _
  rw [BitVec.toNat_or, h1, h2, IntKind.wrap_u64]
  omega

/-- a without the bits of b. -/
def andn (a b : Nat) : Nat := a &&& (b ^^^ (2 ^ 64 - 1))

theorem testBit_andn {a b j : Nat} (ha : a < 2 ^ 64) : (andn a b).testBit j = (a.testBit j && !b.testBit j) := by
  unfold andn
  rw [Nat.testBit_and, Nat.testBit_xor, Nat.testBit_two_pow_sub_one]
  by_cases hj : j < 64
  · simp [hj]
  · have hp : 2 ^ 64 ≤ 2 ^ j := Nat.pow_le_pow_right (by omega) (by omega)
    rw [Nat.testBit_lt_two_pow (by omega : a < 2 ^ j)]
    simp

theorem andn_lt {a b : Nat} (ha : a < 2 ^ 64) : andn a b < 2 ^ 64 := Nat.lt_of_le_of_lt Nat.and_le_left ha

theorem andn64 {a b : Nat} (ha : a < 2 ^ 64) (hb : b < 2 ^ 64) : bits .andNot .u64 (a : Int) (b : Int) = ((andn a b : Nat) : Int) := by
  have hx : andn a b < 2 ^ 64 := andn_lt ha
  have h1 : (BitVec.ofInt 64 (a : Int)).toNat = a := by
    rw [BitVec.ofInt_natCast, BitVec.toNat_ofNat]; exact Nat.mod_eq_of_lt (by omega)
  have h2 : (BitVec.ofInt 64 (b : Int)).toNat = b := by
    rw [BitVec.ofInt_natCast, BitVec.toNat_ofNat]; exact Nat.mod_eq_of_lt (by omega)
  show IntKind.u64.wrap ((BitVec.ofInt 64 (a : Int) &&& ~~~ BitVec.ofInt 64 (b : Int)).toNat : Int) = _
  have e : (BitVec.ofInt 64 (a : Int) &&& ~~~ BitVec.ofInt 64 (b : Int)).toNat = andn a b := by
    refine eq_of_bits (n := 64) (BitVec.isLt _) hx fun j hj => ?_
    rw [BitVec.toNat_and, Nat.testBit_and, h1, testBit_andn ha, BitVec.toNat_not, h2, show 2 ^ 64 - 1 - b = 2 ^ 64 - (b + 1) by omega, Nat.testBit_two_pow_sub_succ hb]
    simp [hj]
  rw [e, IntKind.wrap_u64]
  omega

theorem shr64 (x s : Nat) : ((x : Int) / 2 ^ s) = ((x >>> s : Nat) : Int) := by
  rw [Nat.shiftRight_eq_div_pow]
  simp

theorem shl64 (x s : Nat) : IntKind.u64.wrap ((x : Int) * 2 ^ s) = ((x <<< s % 2 ^ 64 : Nat) : Int) := by
  rw [IntKind.wrap_u64, Nat.shiftLeft_eq]
  simp


theorem tb_out {x j : Nat} (hx : x < 2 ^ 64) (hj : 64 ≤ j) : x.testBit j = false :=
  Nat.testBit_lt_two_pow (Nat.lt_of_lt_of_le hx (Nat.pow_le_pow_right (by omega) hj))

theorem msk_lt {k : Nat} (hk : k ≤ 64) : 2 ^ k - 1 < 2 ^ 64 := by
  have : 2 ^ k ≤ 2 ^ 64 := Nat.pow_le_pow_right (by omega) hk
  have : 0 < 2 ^ k := Nat.two_pow_pos k
  omega

theorem get_one {ws : List Nat} {a k : Nat} (hk : a % 64 + k ≤ 64) : (ws.getD (a / 64) 0 >>> (a % 64)) &&& (2 ^ k - 1) = getF ws a k := by
  have hk64 : 2 ^ k ≤ 2 ^ 64 := Nat.pow_le_pow_right (by omega) (by omega)
  refine eq_of_bits (n := 64) (Nat.lt_of_le_of_lt Nat.and_le_right (msk_lt (by omega))) (Nat.lt_of_lt_of_le (getF_lt ws a k) hk64) fun j hj => ?_
  rw [Nat.testBit_and, Nat.testBit_shiftRight, Nat.testBit_two_pow_sub_one, testBit_getF]
  by_cases hjk : j < k
  · unfold bitAt
    rw [show (a + j) / 64 = a / 64 by omega, show (a + j) % 64 = a % 64 + j by omega]
    simp [hjk]
  · simp [hjk]

theorem get_two {ws : List Nat} {a k : Nat} (hb : Bnd ws) (hk : 64 < a % 64 + k) (hk' : k ≤ 64) :
    ((ws.getD (a / 64) 0 >>> (a % 64)) ||| (ws.getD (a / 64 + 1) 0 <<< (64 - a % 64) % 2 ^ 64)) &&& (2 ^ k - 1) = getF ws a k := by
  have hk64 : 2 ^ k ≤ 2 ^ 64 := Nat.pow_le_pow_right (by omega) hk'
  refine eq_of_bits (n := 64) (Nat.lt_of_le_of_lt Nat.and_le_right (msk_lt hk')) (Nat.lt_of_lt_of_le (getF_lt ws a k) hk64) fun j hj => ?_
  rw [Nat.testBit_and, Nat.testBit_or, Nat.testBit_shiftRight, Nat.testBit_mod_two_pow, Nat.testBit_shiftLeft, Nat.testBit_two_pow_sub_one, testBit_getF]
  by_cases hjk : j < k
  · by_cases hlow : a % 64 + j < 64
    · unfold bitAt
      rw [show (a + j) / 64 = a / 64 by omega, show (a + j) % 64 = a % 64 + j by omega]
      have : ¬ (64 - a % 64 ≤ j) := by omega
      simp [hjk, this]
    · unfold bitAt
      rw [show (a + j) / 64 = a / 64 + 1 by omega, show (a + j) % 64 = j - (64 - a % 64) by omega, tb_out (hb.getD _) (by omega)]
      have : 64 - a % 64 ≤ j := by omega
      simp [hjk, hj, this]
  · simp [hjk]

theorem bitAt_set {ws : List Nat} {i x p : Nat} (hi : i < ws.length) : bitAt (ws.set i x) p = if p / 64 = i then x.testBit (p % 64) else bitAt ws p := by
  unfold bitAt
  rw [List.getD_eq_getElem?_getD, List.getElem?_set]
  by_cases h : i = p / 64
  · rw [if_pos h, if_pos h.symm, if_pos (by omega)]
    rfl
  · rw [if_neg h, if_neg (fun e => h e.symm), List.getD_eq_getElem?_getD]

theorem Bnd.set {ws : List Nat} (h : Bnd ws) {i x : Nat} (hx : x < 2 ^ 64) : Bnd (ws.set i x) := by
  intro y hy
  rcases List.mem_or_eq_of_mem_set hy with hy | rfl
  · exact h y hy
  · exact hx

def lowW (x low k v : Nat) : Nat := andn x ((2 ^ k - 1) <<< low % 2 ^ 64) ||| ((v &&& (2 ^ k - 1)) <<< low % 2 ^ 64)
def highW (y low k v : Nat) : Nat := andn y ((2 ^ k - 1) >>> (64 - low)) ||| ((v &&& (2 ^ k - 1)) >>> (64 - low))

theorem lowW_lt {x low k v : Nat} (hx : x < 2 ^ 64) : lowW x low k v < 2 ^ 64 := Nat.or_lt_two_pow (andn_lt hx) (Nat.mod_lt _ (by decide))

theorem highW_lt {y low k v : Nat} (hy : y < 2 ^ 64) (hv : v < 2 ^ 64) : highW y low k v < 2 ^ 64 := by
  refine Nat.or_lt_two_pow (andn_lt hy) ?_
  rw [Nat.shiftRight_eq_div_pow]
  exact Nat.lt_of_le_of_lt (Nat.div_le_self _ _) (Nat.lt_of_le_of_lt Nat.and_le_left hv)

theorem testBit_lowW {x low k v j : Nat} (hx : x < 2 ^ 64) (hj : j < 64) : (lowW x low k v).testBit j = if low ≤ j ∧ j < low + k then v.testBit (j - low) else x.testBit j := by
  unfold lowW
  rw [Nat.testBit_or, testBit_andn hx, Nat.testBit_mod_two_pow, Nat.testBit_shiftLeft, Nat.testBit_mod_two_pow, Nat.testBit_shiftLeft, Nat.testBit_two_pow_sub_one, Nat.testBit_and, Nat.testBit_two_pow_sub_one]
  by_cases h1 : low ≤ j
  · by_cases h2 : j < low + k
    · have : j - low < k := by omega
      simp [hj, h1, h2, this]
    · have : ¬ j - low < k := by omega
      simp [hj, h1, h2, this]
  · simp [hj, h1]

theorem testBit_highW {y low k v j : Nat} (hy : y < 2 ^ 64) : (highW y low k v).testBit j = if 64 - low + j < k then v.testBit (64 - low + j) else y.testBit j := by
  unfold highW
  rw [Nat.testBit_or, testBit_andn hy, Nat.testBit_shiftRight, Nat.testBit_shiftRight, Nat.testBit_two_pow_sub_one, Nat.testBit_and, Nat.testBit_two_pow_sub_one]
  by_cases h1 : 64 - low + j < k
  · simp [h1]
  · simp [h1]

theorem set_one {ws : List Nat} {a k v : Nat} (hb : Bnd ws) (hk : a % 64 + k ≤ 64) (ha : a / 64 < ws.length) : ws.set (a / 64) (lowW (ws.getD (a / 64) 0) (a % 64) k v) = setF ws a k v := by
  refine eq_setF (by omega) (by simp) (hb.set (lowW_lt (hb.getD _))) fun i hi => ?_
  rw [bitAt_set ha]
  by_cases h : i / 64 = a / 64
  · rw [if_pos h, testBit_lowW (hb.getD _) (by omega)]
    by_cases h2 : a % 64 ≤ i % 64 ∧ i % 64 < a % 64 + k
    · rw [if_pos h2, if_pos (by omega), show i % 64 - a % 64 = i - a by omega]
    · rw [if_neg h2, if_neg (by omega)]
      unfold bitAt
      rw [h]
  · rw [if_neg h, if_neg (by omega)]

theorem set_two {ws : List Nat} {a k v : Nat} (hb : Bnd ws) (hv : v < 2 ^ 64) (hk : 64 < a % 64 + k) (hk' : k ≤ 64) (ha : a / 64 + 1 < ws.length) :
    (ws.set (a / 64) (lowW (ws.getD (a / 64) 0) (a % 64) k v)).set (a / 64 + 1) (highW (ws.getD (a / 64 + 1) 0) (a % 64) k v) = setF ws a k v := by
  refine eq_setF (by omega) (by simp) ((hb.set (lowW_lt (hb.getD _))).set (highW_lt (hb.getD _) hv)) fun i hi => ?_
  rw [bitAt_set (by simpa using ha), bitAt_set (by omega)]
  by_cases h : i / 64 = a / 64 + 1
  · rw [if_pos h, testBit_highW (hb.getD _)]
    by_cases h2 : 64 - a % 64 + i % 64 < k
    · rw [if_pos h2, if_pos (by omega), show 64 - a % 64 + i % 64 = i - a by omega]
    · rw [if_neg h2, if_neg (by omega)]
      unfold bitAt
      rw [h]
  · rw [if_neg h]
    by_cases h' : i / 64 = a / 64
    · rw [if_pos h', testBit_lowW (hb.getD _) (by omega)]
      by_cases h2 : a % 64 ≤ i % 64 ∧ i % 64 < a % 64 + k
      · rw [if_pos h2, if_pos (by omega), show i % 64 - a % 64 = i - a by omega]
      · rw [if_neg h2, if_neg (by omega)]
        unfold bitAt
        rw [h']
    · rw [if_neg h', if_neg (by omega)]

/-- The document's way to set one bit. -/
def setBit (ws : List Nat) (p : Nat) (b : Bool) : List Nat :=
  ws.set (p / 64) (if b then andn (ws.getD (p / 64) 0) (2 ^ (p % 64)) ||| 2 ^ (p % 64) else andn (ws.getD (p / 64) 0) (2 ^ (p % 64)))

theorem pow_lt64 {p : Nat} : 2 ^ (p % 64) < 2 ^ 64 := Nat.pow_lt_pow_right (by omega) (by omega)

theorem setBit_bnd {ws : List Nat} (hb : Bnd ws) (p : Nat) (b : Bool) : Bnd (setBit ws p b) := by
  refine hb.set ?_
  split
  · exact Nat.or_lt_two_pow (andn_lt (hb.getD _)) pow_lt64
  · exact andn_lt (hb.getD _)

theorem setBit_length (ws : List Nat) (p : Nat) (b : Bool) : (setBit ws p b).length = ws.length := by simp [setBit]

theorem bitAt_setBit {ws : List Nat} (hb : Bnd ws) {p : Nat} {b : Bool} (hp : p < 64 * ws.length) (i : Nat) : bitAt (setBit ws p b) i = if i = p then b else bitAt ws i := by
  have hx := hb.getD (p / 64)
  unfold setBit
  rw [bitAt_set (by omega)]
  by_cases h : i / 64 = p / 64
  · rw [if_pos h]
    have e : ∀ j, (2 ^ (p % 64)).testBit j = decide (p % 64 = j) := fun j => by rw [Nat.testBit_two_pow]
    have e2 : bitAt ws i = (ws.getD (p / 64) 0).testBit (i % 64) := by unfold bitAt; rw [h]
    rw [e2]
    generalize ws.getD (p / 64) 0 = x at *
    by_cases h2 : i = p
    · subst h2
      rw [if_pos rfl]
      cases b with
      | true => simp [Nat.testBit_or, e]
      | false => simp [testBit_andn hx, e]
    · rw [if_neg h2]
      have hne : ¬ p % 64 = i % 64 := by omega
      cases b with
      | true => simp [Nat.testBit_or, testBit_andn hx, e, hne]
      | false => simp [testBit_andn hx, e, hne]
  · rw [if_neg h, if_neg (by omega)]

end Go.Proofs.Ytbhhbddmokddeaa
