/- Part of a proof: what the program's functions come to. -/
import Derived.Test.YtcpcbeeghjigkaaHV5
set_option linter.unusedVariables false
set_option linter.unusedSimpArgs false
namespace Go.Proofs.Ytcpcbeeghjigkaa.R3
open Go Go.Fw Go.Proofs
theorem wrap_u64 {n : Int} (h0 : 0 ≤ n) (h1 : n < 18446744073709551616) : IntKind.wrap .u64 n = n :=
  wrap_id (wf_iff.2 ⟨by simpa [IntKind.min, IntKind.signed] using h0, by simp [IntKind.max, IntKind.signed, IntKind.bits]; omega⟩)
theorem or_bytes {a c : Int} (h0 : 0 ≤ a) (h1 : a < 72057594037927936) (hc : Byte c) : bitOp .or .u64 (a * 256) c = a * 256 + c := by
  obtain ⟨a, rfl⟩ := Int.eq_ofNat_of_zero_le h0
  obtain ⟨c, rfl⟩ := Int.eq_ofNat_of_zero_le hc.1
  have hc2 : c < 256 := by have := hc.2; omega
  show IntKind.wrap .u64 ((BitVec.ofInt 64 ((a : Int) * 256) ||| BitVec.ofInt 64 (c : Int)).toNat : Int) = _
  have e : (BitVec.ofInt 64 ((a : Int) * 256) ||| BitVec.ofInt 64 (c : Int)).toNat = a * 256 + c := by
    rw [BitVec.toNat_or]
    have e1 : (BitVec.ofInt 64 ((a : Int) * 256)).toNat = a * 256 := by
      rw [show ((a : Int) * 256) = ((a * 256 : Nat) : Int) by omega, BitVec.ofInt_natCast, BitVec.toNat_ofNat]; omega
    have e2 : (BitVec.ofInt 64 (c : Int)).toNat = c := by
      rw [BitVec.ofInt_natCast, BitVec.toNat_ofNat]; omega
    rw [e1, e2]
    have := Nat.two_pow_add_eq_or_of_lt (i := 8) (b := c) (by omega) a
    rw [show a * 256 = 2 ^ 8 * a by omega]; exact this.symm
  rw [e]
  exact (wrap_u64 (by omega) (by omega)).trans (by omega)
/-- How many octets stand behind a first one. -/
def wd (c : Int) : Nat := if c < 253 then 0 else if c = 253 then 2 else if c = 254 then 4 else 8
theorem F90_byte {c : Int} (h : Byte c) : F90 c = some (wd c : Int) := by
  unfold F90 wd
  unfold Byte at h
  by_cases h1 : c < 253
  · simp [h1]
  · by_cases h2 : c = 253
    · subst h2; rfl
    · by_cases h3 : c = 254
      · subst h3; rfl
      · have : c = 255 := by omega
        subst this; rfl
theorem wd_le (c : Int) : wd c ≤ 8 := by unfold wd; (repeat' split) <;> omega
/-- What octets begin with: a number, how many octets it has, the fault. -/
def get1 : List Int → Int × Int × Int
  | [] => (0, 0, 3)
  | c :: r => if r.length < wd c then (0, 0, 3) else if wd c = 0 then (c, 1, 0) else
    if fst (bv 0 (r.take (wd c))) = c then (bv 0 (r.take (wd c)), (wd c : Int) + 1, 0) else (0, 0, 2)
end Go.Proofs.Ytcpcbeeghjigkaa.R3
