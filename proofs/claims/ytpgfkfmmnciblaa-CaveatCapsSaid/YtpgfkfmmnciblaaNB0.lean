/- Part of a proof: what the program's functions come to. -/
import Derived.Test.YtpgfkfmmnciblaaFwCtx
set_option linter.unusedVariables false
set_option linter.unusedSimpArgs false
namespace Go.Proofs.Ytpgfkfmmnciblaa.RB
open Go Go.Fw
theorem wrap_id {k : IntKind} {n : Int} (h : (Lit.int k n).wf = true) : k.wrap n = n := by
  have h' := wf_iff.1 h
  cases k <;> simp [IntKind.wrap, IntKind.min, IntKind.max, IntKind.signed, IntKind.bits] at h' ⊢ <;> omega
theorem wrap_i64 {n : Int} (h1 : -9223372036854775808 ≤ n) (h2 : n ≤ 9223372036854775807) : IntKind.wrap .i64 n = n :=
  wrap_id (wf_iff.2 ⟨by simp [IntKind.min, IntKind.signed, IntKind.bits]; omega, by simp [IntKind.max, IntKind.signed, IntKind.bits]; omega⟩)
theorem wrap_u64 {n : Int} (h0 : 0 ≤ n) (h1 : n < 18446744073709551616) : IntKind.wrap .u64 n = n :=
  wrap_id (wf_iff.2 ⟨by simpa [IntKind.min, IntKind.signed] using h0, by simp [IntKind.max, IntKind.signed, IntKind.bits]; omega⟩)
theorem wrap_u8 (n : Int) : IntKind.wrap .u8 n = n % 256 := by
  simp [IntKind.wrap, IntKind.signed, IntKind.bits]
theorem wrap_u16 (n : Int) : IntKind.wrap .u16 n = n % 65536 := by
  simp [IntKind.wrap, IntKind.signed, IntKind.bits]
theorem rd_get {t : Ty} {l : List t.den} {i : Int} (h0 : 0 ≤ i) (h1 : i < l.length) : ∃ (h : i.toNat < l.length), rd t l i = l[i.toNat] := by
  have h : i.toNat < l.length := by omega
  exact ⟨h, by unfold rd; rw [List.getD_eq_getElem?_getD, List.getElem?_eq_getElem h]; rfl⟩
theorem rd_nat {t : Ty} {l : List t.den} {i : Nat} (h1 : i < l.length) : rd t l (i : Int) = l[i] := by
  obtain ⟨h, e⟩ := rd_get (t := t) (l := l) (i := (i : Int)) (by omega) (by omega)
  rw [e]; simp
theorem inb_true {i : Int} {n : Nat} (h0 : 0 ≤ i) (h1 : i < n) : inb i n = true := by simp [inb, h0, h1]
def Byte (n : Int) : Prop := 0 ≤ n ∧ n < 256
def U64 (n : Int) : Prop := 0 ≤ n ∧ n < 18446744073709551616
theorem u64_of {n : Int} (h : (Lit.int .u64 n).wf = true) : U64 n := by
  have := wf_iff.1 h
  simp [IntKind.min, IntKind.max, IntKind.signed, IntKind.bits] at this
  exact ⟨this.1, by omega⟩
theorem u16_of {n : Int} (h : (Lit.int .u16 n).wf = true) : 0 ≤ n ∧ n < 65536 := by
  have := wf_iff.1 h
  simp [IntKind.min, IntKind.max, IntKind.signed, IntKind.bits] at this
  exact ⟨this.1, by omega⟩
theorem byte_of {n : Int} (h : (Lit.int .u8 n).wf = true) : Byte n := by
  have := wf_iff.1 h
  simp [IntKind.min, IntKind.max, IntKind.signed, IntKind.bits] at this
  exact ⟨this.1, by omega⟩
theorem i64_of {n : Int} (h : (Lit.int .i64 n).wf = true) : -9223372036854775808 ≤ n ∧ n ≤ 9223372036854775807 := by
  have := wf_iff.1 h
  simp [IntKind.min, IntKind.max, IntKind.signed, IntKind.bits] at this
  exact ⟨this.1, by omega⟩
/-- Two rows held against each other, element by element. -/
theorem same_loop {t : Ty} [DecidableEq t.den] {a b : List t.den} (hl : a.length ≤ 4611686018427387904) (hn : a.length = b.length) {G : t.den → t.den → (Bool → Option Bool) → Option Bool} (hG : ∀ i (h1 : i < a.length) (h2 : i < b.length) K, G a[i] b[i] K = K (decide (a[i] = b[i]))) :
    lfp (fun (rec1 : (Bool × Int) → Option Bool) (x1 : Bool × Int) =>
      bif decide (x1.2 < (a.length : Int)) then (
      bif inb x1.2 a.length then
      bif inb x1.2 b.length then
      G (rd t a x1.2) (rd t b x1.2) fun r =>
      bif (!r) then some false else rec1 (x1.1, (IntKind.wrap .i64 (x1.2 + 1)))
      else none
      else none)
      else some true) (false, 0) = some (decide (a = b)) := by
  refine lfp_rule (fun x => ∃ i : Nat, x.2 = (i : Int) ∧ i ≤ a.length ∧ a.take i = b.take i) (fun x => a.length - x.2.toNat) (fun _ => decide (a = b)) ?_ (false, 0) ⟨0, rfl, by omega, rfl⟩
  rintro ⟨y, i'⟩ ⟨i, rfl, hi, he⟩ rec hrec
  simp only
  by_cases hlt : i < a.length
  · have h1 : ((i : Int) < (b.length : Int)) := by omega
    have h2 : ((i : Int) < (a.length : Int)) := by omega
    have hlt2 : i < b.length := by omega
    simp only [h2, decide_true, cond_true, inb_true (Int.natCast_nonneg i) h1, inb_true (Int.natCast_nonneg i) h2, rd_nat hlt, rd_nat hlt2, hG i hlt hlt2]
    by_cases hx : a[i] = b[i]
    · simp only [hx, decide_true, Bool.not_true, cond_false]
      rw [wrap_i64 (n := (i : Int) + 1) (by omega) (by omega)]
      refine hrec _ ⟨i + 1, by simp, by omega, ?_⟩ (by simp only; omega)
      rw [List.take_add_one, List.take_add_one, he, List.getElem?_eq_getElem hlt, List.getElem?_eq_getElem hlt2, hx]
    · simp only [hx, decide_false, Bool.not_false, cond_true, Option.some.injEq]
      symm; rw [decide_eq_false_iff_not]
      intro hab; subst hab; exact hx rfl
  · have h1 : ¬ ((i : Int) < (a.length : Int)) := by omega
    simp only [h1, decide_false, cond_false, Option.some.injEq]
    symm; rw [decide_eq_true_iff]
    rw [List.take_of_length_le (by omega), List.take_of_length_le (by omega)] at he; exact he
theorem bif_t {α : Type} (a b : α) : (bif true then a else b) = a := rfl
end Go.Proofs.Ytpgfkfmmnciblaa.RB
