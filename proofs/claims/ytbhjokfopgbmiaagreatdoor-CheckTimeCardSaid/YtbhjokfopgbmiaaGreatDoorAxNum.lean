/- Numbers and texts. -/
import Derived.Test.YtbhjokfopgbmiaaGreatDoorAxRel
namespace Go.Ax
open Go

@[simp] theorem ilt_eq (a b : Int) : ilt a b = decide (a < b) := by
  cases a <;> cases b <;> simp only [ilt, natblt_eq] <;> (rw [eq_comm, Bool.eq_iff_iff]) <;> simp <;> omega
@[simp] theorem ieq_eq (a b : Int) : ieq a b = decide (a = b) := by
  cases a <;> cases b <;> simp only [ieq, natbeq_eq] <;> (rw [eq_comm, Bool.eq_iff_iff]) <;> simp <;> omega
@[simp] theorem kindEq_eq (a b : IntKind) : kindEq a b = decide (a = b) := by cases a <;> cases b <;> rfl

theorem wrap_fits (k : IntKind) (n : Int) (h1 : -(maxNeg k : Int) ≤ n) (h2 : n ≤ maxPos k) : k.wrap n = n := by
  cases k <;> simp only [maxNeg, maxPos] at h1 h2 <;> simp only [IntKind.wrap, IntKind.bits, IntKind.signed] <;>
    simp only [Bool.true_and, Bool.false_and, Bool.false_eq_true, if_false, decide_eq_true_eq, ge_iff_le] <;> (try split) <;> omega

@[simp] theorem wrapF_eq (k : IntKind) (n : Int) : wrapF k n = k.wrap n := by
  cases n with
  | ofNat m =>
    simp only [wrapF, natble_eq]
    by_cases h : m ≤ maxPos k
    · simp only [h, decide_true]
      rw [wrap_fits k _ (by simp) (by simp; omega)]
    · simp only [h, decide_false]
  | negSucc m =>
    simp only [wrapF, natblt_eq]
    by_cases h : m < maxNeg k
    · simp only [h, decide_true]
      rw [wrap_fits k _ (by omega) (by omega)]
    · simp only [h, decide_false]

theorem bitsOf_eq (k : IntKind) : bitsOf k = k.bits := by cases k <;> rfl

theorem toNat_ofInt_nat (b n : Nat) : (BitVec.ofInt b (Int.ofNat n)).toNat = n % 2 ^ b := by
  simp

theorem wrap_mod (k : IntKind) (n : Nat) : k.wrap ((n % 2 ^ k.bits : Nat) : Int) = k.wrap (n : Int) := by
  cases k <;> simp only [IntKind.wrap, IntKind.bits] <;> simp

theorem land_mod (a b k : Nat) : (a % 2 ^ k) &&& (b % 2 ^ k) = (a &&& b) % 2 ^ k := by
  apply Nat.eq_of_testBit_eq; intro i; simp [Nat.testBit_mod_two_pow]; cases decide (i < k) <;> simp
theorem lor_mod (a b k : Nat) : (a % 2 ^ k) ||| (b % 2 ^ k) = (a ||| b) % 2 ^ k := by
  apply Nat.eq_of_testBit_eq; intro i; simp [Nat.testBit_mod_two_pow]; cases decide (i < k) <;> simp
theorem xor_mod (a b k : Nat) : (a % 2 ^ k) ^^^ (b % 2 ^ k) = (a ^^^ b) % 2 ^ k := by
  apply Nat.eq_of_testBit_eq; intro i; simp [Nat.testBit_mod_two_pow]; cases decide (i < k) <;> simp

theorem streq_eq : ∀ a b : List Nat, streq a b = decide (a = b) := by
  intro a
  induction a with
  | nil => intro b; cases b <;> simp [streq]
  | cons x xs ih => intro b; cases b with
    | nil => simp [streq]
    | cons y ys =>
      show (Bool.rec false (streq xs ys) (Nat.beq x y) : Bool) = _
      rw [ih, natbeq_eq]
      by_cases h : x = y <;> simp [h]

theorem ofNat_inj {a b : Nat} (ha : a < 256) (hb : b < 256) (h : UInt8.ofNat a = UInt8.ofNat b) : a = b := by
  have := congrArg UInt8.toNat h
  simp [UInt8.toNat_ofNat'] at this
  omega
theorem bytesB_inj : ∀ (a b : List Nat), (∀ x ∈ a, x < 256) → (∀ x ∈ b, x < 256) → bytesB a = bytesB b → a = b := by
  intro a
  induction a with
  | nil => intro b _ _ h; cases b <;> simp_all [bytesB]
  | cons x xs ih => intro b ha hb h; cases b with
    | nil => simp [bytesB] at h
    | cons y ys =>
      simp only [bytesB, List.map_cons, List.cons.injEq] at h
      rw [ofNat_inj (ha x (by simp)) (hb y (by simp)) h.1, ih ys (fun z hz => ha z (by simp [hz])) (fun z hz => hb z (by simp [hz])) h.2]

theorem strlt_eq : ∀ (a b : List Nat), (∀ x ∈ a, x < 256) → (∀ x ∈ b, x < 256) → strlt a b = Op.bytesLess (bytesB a) (bytesB b) := by
  intro a
  induction a with
  | nil => intro b _ _; cases b <;> simp [strlt, bytesB, Op.bytesLess]
  | cons x xs ih => intro b ha hb; cases b with
    | nil => simp [strlt, bytesB, Op.bytesLess]
    | cons y ys =>
      have hx := ha x (by simp)
      have hy := hb y (by simp)
      show (Bool.rec (Bool.rec false (strlt xs ys) (Nat.beq x y)) true (Nat.blt x y) : Bool) = _
      rw [ih ys (fun z hz => ha z (by simp [hz])) (fun z hz => hb z (by simp [hz])), natbeq_eq, natblt_eq]
      simp only [bytesB, List.map_cons, Op.bytesLess]
      have e1 : (UInt8.ofNat x < UInt8.ofNat y) ↔ x < y := by
        rw [UInt8.lt_iff_toNat_lt]; simp only [UInt8.toNat_ofNat']; omega
      have e2 : (UInt8.ofNat x = UInt8.ofNat y) ↔ x = y := ⟨ofNat_inj hx hy, fun h => by rw [h]⟩
      by_cases h1 : x < y
      · simp [h1, e1]
      · by_cases h2 : x = y
        · simp [h2]
        · simp [h1, h2, e1, e2]

@[simp] theorem strV_toList (s : List Nat) : (strV s).toList = bytesB s := by simp [strV]
@[simp] theorem strV_size (s : List Nat) : (strV s).size = s.length := by simp [strV, bytesB, ByteArray.size]
theorem strV_get {s : List Nat} {k b : Nat} (hb : s[k]? = some b) : (strV s)[k]? = some (UInt8.ofNat b) := by
  have hlt : k < s.length := (List.getElem?_eq_some_iff.1 hb).1
  have := (List.getElem?_eq_some_iff.1 hb).2
  rw [ByteArray.getElem?_lt' _ _ (by simpa using hlt)]
  congr 1
  show (bytesB s).toArray[k]'_ = _
  simp [bytesB, this]
theorem strV_append (a b : List Nat) : strV a ++ strV b = strV (a ++ b) := by
  apply ByteArray.ext
  simp [strV, bytesB]

end Go.Ax
