/- Whole numbers and their bytes: plain laws. -/
import Derived.Test.YtfbpnbomcogkcaaQqSymB
set_option linter.unusedSimpArgs false
set_option linter.unusedVariables false
namespace Go.D

theorem u64_wrap (n : Int) : IntKind.u64.wrap n = n % 18446744073709551616 := by
  simp [IntKind.wrap, IntKind.signed, IntKind.bits]
theorem u8_wrap (n : Int) : IntKind.u8.wrap n = n % 256 := by
  simp [IntKind.wrap, IntKind.signed, IntKind.bits]

/-- A number on its side. -/
def zz (n : Int) : Int := if 0 ≤ n then 2 * n else -2 * n - 1

theorem ofInt_nat (x : Int) (h0 : 0 ≤ x) (h1 : x < 18446744073709551616) : (BitVec.ofInt 64 x).toNat = x.toNat := by
  rw [BitVec.toNat_ofInt]
  congr 1
  exact Int.emod_eq_of_lt h0 h1

theorem zz_raw {n : Int} (h1 : -9223372036854775808 ≤ n) (h2 : n ≤ 9223372036854775807) :
    IntKind.u64.wrap (((BitVec.ofInt IntKind.u64.bits (IntKind.u64.wrap (IntKind.u64.wrap n * 2 ^ min 1 IntKind.u64.bits)) ^^^ BitVec.ofInt IntKind.u64.bits (IntKind.u64.wrap (n.fdiv (2 ^ min 63 IntKind.i64.bits)))).toNat : Nat) : Int) = zz n := by
  have hb : IntKind.u64.bits = 64 := rfl
  have hb2 : IntKind.i64.bits = 64 := rfl
  rw [hb, hb2]
  have e1 : IntKind.u64.wrap (IntKind.u64.wrap n * 2 ^ min 1 64) = (2 * n) % 18446744073709551616 := by
    rw [show (min 1 64 : Nat) = 1 from rfl, u64_wrap, u64_wrap]; omega
  rw [e1]
  have ef : n.fdiv (2 ^ min 63 64) = if 0 ≤ n then 0 else -1 := by
    rw [show (min 63 64 : Nat) = 63 from rfl, show ((2 : Int) ^ 63) = 9223372036854775808 by decide, Int.fdiv_eq_ediv_of_nonneg n (by decide)]
    split <;> omega
  rw [ef]
  unfold zz
  by_cases h : 0 ≤ n
  · rw [if_pos h, if_pos h]
    have : BitVec.ofInt 64 (IntKind.u64.wrap 0) = 0#64 := by decide
    rw [this, BitVec.xor_zero, ofInt_nat _ (by omega) (by omega), u64_wrap]
    omega
  · rw [if_neg h, if_neg h]
    have : BitVec.ofInt 64 (IntKind.u64.wrap (-1)) = BitVec.allOnes 64 := by decide
    rw [this, BitVec.xor_allOnes, BitVec.toNat_not, ofInt_nat _ (by omega) (by omega), u64_wrap]
    omega

theorem turned_pos {n : Int} (h0 : 0 ≤ n) (h2 : n ≤ 9223372036854775807) : IntKind.u64.wrap (2 * IntKind.u64.wrap n) = zz n := by
  rw [u64_wrap, u64_wrap, zz, if_pos h0]; omega
theorem turned_neg {n : Int} (h0 : ¬ 0 ≤ n) (h1 : -9223372036854775808 ≤ n) : IntKind.u64.wrap (IntKind.u64.wrap (2 * IntKind.u64.wrap (IntKind.i64.wrap (0 - IntKind.i64.wrap (n + 1)))) + 1) = zz n := by
  rw [wrap64_id (x := n + 1) (by omega) (by omega), wrap64_id (by omega) (by omega), u64_wrap, u64_wrap, u64_wrap, zz, if_neg h0]; omega

/-- The bytes of a number that goes on. -/
def enc : Nat → Nat → List Int
  | 0, _ => []
  | f + 1, u => if u < 128 then [(u : Int)] else ((u % 128 + 128 : Nat) : Int) :: enc f (u / 128)

theorem or128 (u : Int) : IntKind.u8.wrap (((BitVec.ofInt IntKind.u8.bits (IntKind.u8.wrap u) ||| BitVec.ofInt IntKind.u8.bits 128).toNat : Nat) : Int) = u % 128 + 128 := by
  have hb : IntKind.u8.bits = 8 := rfl
  rw [hb, u8_wrap]
  have key : ∀ x : BitVec 8, (x ||| BitVec.ofInt 8 128).toNat = x.toNat % 128 + 128 := by decide
  rw [key, BitVec.toNat_ofInt, u8_wrap]
  omega
theorem shr7 (u : Int) (h0 : 0 ≤ u) : u.fdiv (2 ^ min 7 IntKind.u64.bits) = u / 128 := by
  rw [show (min 7 IntKind.u64.bits : Nat) = 7 from rfl, show ((2 : Int) ^ 7) = 128 by decide, Int.fdiv_eq_ediv_of_nonneg u (by decide)]
theorem rem128 (u : Int) (h0 : 0 ≤ u) : IntKind.u8.wrap (IntKind.u64.wrap (u.tmod 128 + 128)) = u % 128 + 128 := by
  rw [Int.tmod_eq_emod_of_nonneg h0, u8_wrap, u64_wrap]; omega

theorem app1_ints (l : List Int) (x : Int) : ints l ++ [.sc (.int .i64 x)] = ints (l ++ [x]) := by simp [ints]
theorem app1_u8s (l : List Int) (x : Int) : u8s l ++ [.sc (.int .u8 x)] = u8s (l ++ [x]) := by simp [u8s]
attribute [go_sem] app1_ints app1_u8s
end Go.D
namespace Go.D
/-- How a row that grew from nothing may be appended to. -/
def md {α : Type} : List α → Mode
  | [] => .full
  | _ => .own
theorem md_app {α : Type} (l : List α) (x : α) : md (l ++ [x]) = .own := by cases l <;> rfl
theorem enc_ne {f u : Nat} (h : 0 < f) : enc f u ≠ [] := by
  cases f with
  | zero => omega
  | succ f => unfold enc; split <;> simp
theorem md_enc {f u : Nat} (h : 0 < f) : md (enc f u) = .own := by
  have := enc_ne (u := u) h
  cases he : enc f u with
  | nil => exact absurd he this
  | cons => rfl
theorem u8_small {u : Nat} (h : u < 256) : IntKind.u8.wrap (u : Int) = u := by rw [u8_wrap]; omega
/-- A number's bytes. -/
def put (n : Int) : List Int := enc 10 (zz n).toNat
end Go.D
namespace Go.D
theorem bool_tf : (true == false) = false := rfl
theorem bool_ft : (false == true) = false := rfl
attribute [go_sem] bool_tf bool_ft

theorem enc_inj : ∀ {f u v : Nat}, u < 128 ^ f → v < 128 ^ f → enc f u = enc f v → u = v
  | 0, u, v, hu, hv, _ => by simp at hu hv; omega
  | f + 1, u, v, hu, hv, h => by
    rw [Nat.pow_succ] at hu hv
    unfold enc at h
    split at h <;> split at h
    · simp at h; omega
    · simp at h; omega
    · simp at h; omega
    · simp only [List.cons.injEq] at h
      have := enc_inj (f := f) (u := u / 128) (v := v / 128) (by omega) (by omega) h.2
      omega
theorem enc_mono : ∀ {f u v : Nat}, u ≤ v → v < 128 ^ f → (enc f u).length ≤ (enc f v).length
  | 0, _, _, _, _ => by simp [enc]
  | f + 1, u, v, h, hv => by
    rw [Nat.pow_succ] at hv
    unfold enc
    split <;> split
    · simp
    · simp
    · omega
    · simp only [List.length_cons]
      have := enc_mono (f := f) (u := u / 128) (v := v / 128) (by omega) (by omega)
      omega

def inI (n : Int) : Prop := -9223372036854775808 ≤ n ∧ n ≤ 9223372036854775807
theorem zz_lt {n : Int} (h : inI n) : (zz n).toNat < 128 ^ 10 := by
  obtain ⟨h1, h2⟩ := h
  unfold zz; split <;> omega
theorem zz_inj {m n : Int} (h : zz m = zz n) : m = n := by unfold zz at h; split at h <;> split at h <;> omega
theorem zz_nonneg (n : Int) : 0 ≤ zz n := by unfold zz; split <;> omega
theorem put_inj {m n : Int} (hm : inI m) (hn : inI n) (h : put m = put n) : m = n := by
  have := enc_inj (zz_lt hm) (zz_lt hn) h
  have a := zz_nonneg m
  have b := zz_nonneg n
  exact zz_inj (by omega)
theorem put_mono {m n : Int} (hn : inI n) (h : (0 ≤ m ∧ m ≤ n) ∨ (m < 0 ∧ n ≤ m)) : (put m).length ≤ (put n).length := by
  refine enc_mono ?_ (zz_lt hn)
  unfold zz
  split <;> split <;> omega
end Go.D
