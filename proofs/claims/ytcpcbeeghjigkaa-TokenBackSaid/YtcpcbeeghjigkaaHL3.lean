/- Part of a proof: what the program's functions come to. -/
import Derived.Test.YtcpcbeeghjigkaaHL2
set_option linter.unusedVariables false
set_option linter.unusedSimpArgs false
namespace Go.Proofs.Ytcpcbeeghjigkaa.R3
open Go Go.Fw Go.Proofs RB
set_option maxRecDepth 20000
/-- The elements, each with its number's type. -/
def numd {α : Type} (f : α → List Int) : Nat → List α → List Rec
  | _, [] => []
  | i, x :: r => (((16 + i : Nat) : Int), f x) :: numd f (i + 1) r
theorem numd_len {α : Type} (f : α → List Int) : ∀ (l : List α) (i : Nat), (numd f i l).length = l.length
  | [], _ => rfl
  | x :: r, i => by simp [numd, numd_len f r]
theorem numd_snoc {α : Type} (f : α → List Int) : ∀ (l : List α) (i : Nat) (x : α), numd f i (l ++ [x]) = numd f i l ++ [(((16 + (i + l.length) : Nat) : Int), f x)]
  | [], i, x => by simp [numd]
  | y :: r, i, x => by
    rw [List.cons_append, numd, numd, numd_snoc f r (i + 1) x, List.cons_append, List.length_cons, show i + 1 + r.length = i + (r.length + 1) by omega]
theorem numd_mem {α : Type} (f : α → List Int) : ∀ (l : List α) (i : Nat) (q : Rec), q ∈ numd f i l → (∃ x ∈ l, q.2 = f x) ∧ 16 ≤ q.1 ∧ q.1 < 16 + i + l.length
  | [], i, q, h => by simp [numd] at h
  | y :: r, i, q, h => by
    rcases List.mem_cons.1 h with rfl | h
    · refine ⟨⟨y, by simp, rfl⟩, ?_, ?_⟩ <;> simp only [List.length_cons] <;> omega
    · obtain ⟨⟨x, hx, h1⟩, h2, h3⟩ := numd_mem f r (i + 1) q h
      refine ⟨⟨x, List.mem_cons_of_mem _ hx, h1⟩, h2, ?_⟩
      simp only [List.length_cons]; omega
theorem numd_sorted {α : Type} (f : α → List Int) : ∀ (l : List α) (i : Nat), Sorted (numd f i l) ∧ ∀ q ∈ numd f i l, (16 + i : Int) ≤ q.1
  | [], i => ⟨by simp [numd, Sorted], by simp [numd]⟩
  | y :: r, i => by
    obtain ⟨h1, h2⟩ := numd_sorted f r (i + 1)
    refine ⟨List.pairwise_cons.2 ⟨fun q hq => ?_, h1⟩, fun q hq => ?_⟩
    · have := h2 q hq; simp only; omega
    · rcases List.mem_cons.1 hq with rfl | hq
      · simp only; omega
      · have := h2 q hq; omega
def tokR (t : Tok) : List Rec := (1, enc1 t.1) :: (2, enc1 t.2.2) :: numd encC 0 t.2.1
theorem tokR_okV {t : Tok} (h : TokOk t) (hk : okK t) : ∀ r ∈ tokR t, OkV r := by
  intro r hr
  unfold tokR at hr
  have h16 := hk.1
  rcases List.mem_cons.1 hr with rfl | hr
  · exact ⟨⟨by simp only; omega, by simp only; omega⟩, enc1_byte h.1.1⟩
  rcases List.mem_cons.1 hr with rfl | hr
  · exact ⟨⟨by simp only; omega, by simp only; omega⟩, enc1_byte hk.2.1.1⟩
  obtain ⟨⟨c, hc, h1⟩, h2, h3⟩ := numd_mem encC _ _ _ hr
  refine ⟨⟨by omega, by omega⟩, ?_⟩
  rw [h1]
  exact encC_byte (h.2.1 c hc) (hk.2.2 c hc)
theorem tokR_okT {t : Tok} (hk : okK t) : okT (tokR t) := by
  have h16 := hk.1
  refine ⟨by simp [tokR, numd_len]; omega, fun r hr => ?_, ?_⟩
  · unfold tokR at hr
    rcases List.mem_cons.1 hr with rfl | hr
    · have := enc1_len t.1; simp only; omega
    rcases List.mem_cons.1 hr with rfl | hr
    · have := enc1_len t.2.2; simp only; omega
    obtain ⟨⟨c, hc, h1⟩, _⟩ := numd_mem encC _ _ _ hr
    have := encC_len c
    rw [h1]; omega
  · obtain ⟨h1, h2⟩ := numd_sorted encC t.2.1 0
    refine List.pairwise_cons.2 ⟨fun q hq => ?_, List.pairwise_cons.2 ⟨fun q hq => ?_, h1⟩⟩
    · rcases List.mem_cons.1 hq with rfl | hq
      · simp only; omega
      · have := h2 q hq; simp only; omega
    · have := h2 q hq; simp only; omega
theorem small_enc {n : Int} (h1 : n < 253) : enc1 n = [n] := by
  unfold enc1 fst wid
  simp [h1, dig]
theorem encR_small {r : Rec} (ht : r.1 < 253) (hv : r.2.length < 253) : (encR r).length = 2 + r.2.length := by
  unfold encR
  rw [small_enc ht, small_enc (by omega)]
  simp; omega
theorem tok_len {t : Tok} (hk : okK t) : ((tokR t).flatMap encR).length ≤ 486 := by
  have h16 := hk.1
  have hn : ∀ (l : List Cv) (i : Nat), i + l.length ≤ 16 → ((numd encC i l).flatMap encR).length ≤ 29 * l.length := by
    intro l
    induction l with
    | nil => intro i _; simp [numd]
    | cons c r ih =>
      intro i hi
      rw [List.length_cons] at hi
      have h1 := ih (i + 1) (by omega)
      have h2 := encC_len c
      have h3 := encR_small (r := (((16 + i : Nat) : Int), encC c)) (by simp only; omega) (by simp only; omega)
      rw [numd, List.flatMap_cons, List.length_append, h3, List.length_cons]
      simp only
      omega
  have h1 := enc1_len t.1
  have h2 := enc1_len t.2.2
  have h3 := hn t.2.1 0 (by omega)
  have e1 := encR_small (r := ((1 : Int), enc1 t.1)) (by simp only; omega) (by simp only; omega)
  have e2 := encR_small (r := ((2 : Int), enc1 t.2.2)) (by simp only; omega) (by simp only; omega)
  unfold tokR
  rw [List.flatMap_cons, List.length_append, List.flatMap_cons, List.length_append, e1, e2]
  simp only
  omega
def tokB (t : Tok) : List Int := (tokR t).flatMap encR
theorem putT_tok {t : Tok} (hk : okK t) : putT (tokR t) = (tokB t, 0) := by
  unfold putT
  have := tok_len hk
  rw [if_pos (tokR_okT hk), if_neg (by omega)]
  rfl
open Classical in
theorem F46_eq {t : Tok} (h : TokOk t) (hl : t.2.1.length ≤ 9223372036854775807) : F46 t = some (if okK t then (tokB t, 0) else ([], 1)) := by
  unfold F46
  simp only [Prod.eta, F43_eq h hl, Option.bind_some]
  by_cases hk : okK t
  · have hw : IntKind.wrap .u64 t.2.2 = t.2.2 := small_u64 hk.2.1.1 hk.2.1.2
    have h16 := hk.1
    simp only [hk, if_true, decide_true, Bool.not_true, cond_false, hw, F62_one h.1.1, F62_one hk.2.1.1, F63_eq h hk, Option.bind_some, both_self]
    refine lfp_rule (fun (x : List Rec × Int) => ∃ i : Nat, x.2 = (i : Int) ∧ i ≤ t.2.1.length ∧ x.1 = [(1, enc1 t.1), (2, enc1 t.2.2)] ++ numd encC 0 (t.2.1.take i)) (fun x => t.2.1.length - x.2.toNat) (fun _ => (tokB t, 0)) ?_ _ ⟨0, rfl, by omega, by simp [numd]⟩
    rintro ⟨y, i'⟩ ⟨i, hi', hi, hy⟩ rec hrec
    simp only at hi' hy
    subst hi'
    simp only [List.length_map]
    by_cases hlt : i < t.2.1.length
    · have k1 : ((i : Int) < (t.2.1.length : Int)) := by omega
      have hlm : i < (t.2.1.map encC).length := by simpa using hlt
      have hyl : y.length = 2 + i := by rw [hy]; simp [numd_len]; omega
      have k3 : (y.length + 1) * 32 ≤ LIM := by unfold LIM; omega
      simp only [k1, decide_true, cond_true, inb_true (Int.natCast_nonneg i) k1, rd_nat (t := .slice 5 (.int .u8)) hlm, k3]
      rw [small_u64 (n := (i : Int)) (by omega) (by omega), small_u64 (n := 16 + (i : Int)) (by omega) (by omega), RB.wrap_i64 (n := (i : Int) + 1) (by omega) (by omega)]
      refine hrec _ ⟨i + 1, by simp, by omega, ?_⟩ (by simp only; omega)
      rw [hy, List.take_succ_eq_append_getElem hlt, numd_snoc, List.append_assoc]
      simp only [List.length_take, List.getElem_map]
      congr 3
      rw [Nat.min_eq_left (by omega)]
      simp
    · have k1 : ¬ ((i : Int) < (t.2.1.length : Int)) := by omega
      have hie : i = t.2.1.length := by omega
      simp only [k1, decide_false, cond_false]
      have hyt : y = tokR t := by rw [hy, hie, List.take_length]; rfl
      rw [hyt, F73_eq (tokR_okV h hk), putT_tok hk]
      rfl
  · simp [hk]
theorem encR_ne (r : Rec) : encR r ≠ [] := by unfold encR enc1; simp
theorem encR_inj {r s : Rec} {X Y : List Int} (hr : OkV r) (hs : OkV s) (lr : r.2.length ≤ 4096) (ls : s.2.length ≤ 4096) (h : encR r ++ X = encR s ++ Y) : r = s ∧ X = Y := by
  unfold encR at h
  rw [List.append_assoc, List.append_assoc, List.append_assoc, List.append_assoc] at h
  obtain ⟨h1, h2⟩ := enc1_inj hr.1 hs.1 h
  obtain ⟨h3, h4⟩ := enc1_inj (a := (r.2.length : Int)) (b := (s.2.length : Int)) ⟨by omega, by omega⟩ ⟨by omega, by omega⟩ h2
  obtain ⟨h5, h6⟩ := List.append_inj h4 (by omega)
  exact ⟨Prod.ext h1 h5, h6⟩
theorem encs_inj : ∀ {l m : List Rec}, (∀ r ∈ l, OkV r ∧ r.2.length ≤ 4096) → (∀ r ∈ m, OkV r ∧ r.2.length ≤ 4096) → l.flatMap encR = m.flatMap encR → l = m
  | [], [], _, _, _ => rfl
  | [], b :: m, _, _, h => by simp only [List.flatMap_nil, List.flatMap_cons] at h; exact absurd (List.append_eq_nil_iff.1 h.symm).1 (encR_ne _)
  | a :: l, [], _, _, h => by simp only [List.flatMap_nil, List.flatMap_cons] at h; exact absurd (List.append_eq_nil_iff.1 h).1 (encR_ne _)
  | a :: l, b :: m, hl, hm, h => by
    rw [List.flatMap_cons, List.flatMap_cons] at h
    have ha := hl a (by simp)
    have hb := hm b (by simp)
    obtain ⟨h1, h2⟩ := encR_inj ha.1 hb.1 ha.2 hb.2 h
    rw [h1, encs_inj (fun n hn => hl n (List.mem_cons_of_mem _ hn)) (fun n hn => hm n (List.mem_cons_of_mem _ hn)) h2]
theorem numd_inj {α : Type} {f : α → List Int} : ∀ {l m : List α} {i : Nat}, (∀ x ∈ l, ∀ y ∈ m, f x = f y → x = y) → numd f i l = numd f i m → l = m
  | [], [], _, _, _ => rfl
  | [], _ :: _, _, _, h => by simp [numd] at h
  | _ :: _, [], _, _, h => by simp [numd] at h
  | x :: l, y :: m, i, hf, h => by
    simp only [numd, List.cons.injEq, Prod.mk.injEq, true_and] at h
    rw [hf x (by simp) y (by simp) h.1, numd_inj (fun a ha b hb => hf a (List.mem_cons_of_mem _ ha) b (List.mem_cons_of_mem _ hb)) h.2]
theorem tokB_inj {t u : Tok} (ht : TokOk t) (hu : TokOk u) (kt : okK t) (ku : okK u) (h : tokB t = tokB u) : t = u := by
  have := encs_inj (fun r hr => ⟨tokR_okV ht kt r hr, (tokR_okT kt).2.1 r hr⟩) (fun r hr => ⟨tokR_okV hu ku r hr, (tokR_okT ku).2.1 r hr⟩) h
  simp only [tokR, List.cons.injEq, Prod.mk.injEq, true_and] at this
  have h1 := kt.2.1
  have h2 := ku.2.1
  refine Prod.ext (enc1_inj0 ht.1 hu.1 this.1) (Prod.ext ?_ (enc1_inj0 ⟨h1.1, by omega⟩ ⟨h2.1, by omega⟩ this.2.1))
  exact numd_inj (fun x hx y hy hxy => encC_inj (ht.2.1 x hx) (hu.2.1 y hy) (kt.2.2 x hx) (ku.2.2 y hy) hxy) this.2.2
def fin (c : Cv) (rest : List Int) : Cv × Int := if rest ≠ [] ∨ chk c ≠ 0 then ((0, (0, 0)), 2) else (c, 0)
def getC2 (n a : Int) (b : List Int) : Cv × Int := if (get1 b).2.2 ≠ 0 then ((0, (0, 0)), (get1 b).2.2) else fin (n, (a, (get1 b).1)) (b.drop (get1 b).2.1.toNat)
def getC1 (n : Int) (b : List Int) : Cv × Int := if (get1 b).2.2 ≠ 0 then ((0, (0, 0)), (get1 b).2.2) else
  if n = 4 then getC2 n (get1 b).1 (b.drop (get1 b).2.1.toNat) else fin (n, ((get1 b).1, 0)) (b.drop (get1 b).2.1.toNat)
def getC (b : List Int) : Cv × Int := if (get1 b).2.2 ≠ 0 then ((0, (0, 0)), (get1 b).2.2) else
  if (get1 b).1 < 1 ∨ 5 < (get1 b).1 then ((0, (0, 0)), 2) else getC1 (get1 b).1 (b.drop (get1 b).2.1.toNat)
theorem pos_len (r : List Int) : decide ((0 : Int) < (r.length : Int)) = decide (r ≠ []) := by
  cases r with
  | nil => rfl
  | cons a r => rw [decide_eq_true (by simp only [List.length_cons]; omega), decide_eq_true (by simp)]
theorem fin_form (c : Cv) (rest : List Int) : (bif (decide (rest ≠ []) == false) then (bif (!decide (chk c = 0)) then some (((0, (0, 0)), 2) : Cv × Int) else some (c, 0)) else some ((0, (0, 0)), 2)) = some (fin c rest) := by
  unfold fin
  by_cases r0 : rest = []
  · by_cases ck : chk c = 0 <;> simp [r0, ck]
  · simp [r0]
theorem small5_i64 {n : Int} (h0 : 1 ≤ n) (h1 : n ≤ 5) : IntKind.wrap .i64 n = n := wrap_i64 (by omega) (by omega)
theorem small5_u64 {n : Int} (h0 : 1 ≤ n) (h1 : n ≤ 5) : IntKind.wrap .u64 n = n := wrap_u64 (by omega) (by omega)
/-- What reading one comes to. -/
theorem get1_casesQ {b : List Int} (h : ∀ n ∈ b, Byte n) : ((get1 b).2.2 = 0 ∧ U64 (get1 b).1 ∧ inb (get1 b).2.1 (b.length + 1) = true ∧ enc1 (get1 b).1 ++ b.drop (get1 b).2.1.toNat = b ∧ (b.drop (get1 b).2.1.toNat).length < b.length) ∨ ((get1 b).2.2 ≠ 0 ∧ decide ((get1 b).2.2 = 0) = false) := by
  rcases get1_ok h (y := (get1 b).1) (m := (get1 b).2.1) (e := (get1 b).2.2) rfl with ⟨h1, h2, h3, h4, h5, h6⟩ | ⟨h1, _⟩
  · left
    refine ⟨h1, ⟨h2, h3⟩, inb_true (by omega) (by omega), by rw [h6]; exact List.take_append_drop _ _, ?_⟩
    rw [List.length_drop]; omega
  · right; exact ⟨h1, decide_eq_false h1⟩
theorem drop_byte {b : List Int} (h : ∀ n ∈ b, Byte n) (k : Nat) : ∀ n ∈ b.drop k, Byte n := fun n hn => h n (List.mem_of_mem_drop hn)
theorem cv_small {k a b : Int} (h0 : 1 ≤ k) (h1 : k ≤ 5) (ha : U64 a) (hb : U64 b) : CvOk (k, (a, b)) := ⟨⟨by simp only; omega, by simp only; omega⟩, ha, hb⟩
theorem u64_0 : U64 0 := ⟨by omega, by omega⟩
def post28 (x : List Int × Int × Int × Int × List Int) : Cv × Int :=
  if x.2.2.2.1 = 0 then getC x.1 else if x.2.2.2.1 = 1 then getC1 (x.2.2.2.2.getD 0 0) x.1 else
  if x.2.2.2.1 = 2 then (if x.2.2.2.2.getD 0 0 = 4 then getC2 (x.2.2.2.2.getD 0 0) (x.2.2.2.2.getD 1 0) x.1 else fin (x.2.2.2.2.getD 0 0, (x.2.2.2.2.getD 1 0, 0)) x.1) else
  fin (x.2.2.2.2.getD 0 0, (x.2.2.2.2.getD 1 0, x.2.2.2.2.getD 2 0)) x.1
theorem F79_eq {b : List Int} (h : ∀ n ∈ b, Byte n) (hl : b.length ≤ 4611686018427387904) : F79 b = some (getC b) := by
  unfold F79
  refine (lfp_rule (fun x => (∀ n ∈ x.1, Byte n) ∧ x.1.length ≤ 4611686018427387904 ∧
    ((x.2.2.2.1 = 0 ∧ x.2.2.1 = 2 ∧ x.2.2.2.2 = [0, 0, 0]) ∨
     (∃ n, 1 ≤ n ∧ n ≤ 5 ∧ x.2.2.2.1 = 1 ∧ x.2.2.1 = (if n = 4 then 3 else 2) ∧ x.2.2.2.2 = [n, 0, 0]) ∨
     (∃ n a, 1 ≤ n ∧ n ≤ 5 ∧ U64 a ∧ x.2.2.2.1 = 2 ∧ x.2.2.1 = (if n = 4 then 3 else 2) ∧ x.2.2.2.2 = [n, a, 0]) ∨
     (∃ a c, U64 a ∧ U64 c ∧ x.2.2.2.1 = 3 ∧ x.2.2.1 = 3 ∧ x.2.2.2.2 = [4, a, c]))) (fun x => 3 - x.2.2.2.1.toNat) post28 ?_ (b, (0 : Int), (2 : Int), (0 : Int), [0, 0, 0]) ⟨h, hl, .inl ⟨rfl, rfl, rfl⟩⟩).trans (by simp [post28])
  rintro ⟨b, q, many, i, arr⟩ ⟨hb, hlen, hx⟩ rec hrec
  simp only at hb hlen hx
  have fin_ok : ∀ (n a c : Int), 1 ≤ n → n ≤ 5 → U64 a → U64 c → i = many → arr = [n, a, c] → (many = 2 ∨ many = 3) →
      (bif inb 0 3 then bif inb 1 3 then bif inb 2 3 then
        bif (decide (0 < (b.length : Int)) == false) then (
        (F69 ((IntKind.wrap .i64 (rd (.int .u64) arr 0)), ((rd (.int .u64) arr 1), (rd (.int .u64) arr 2)))).bind fun r3 =>
        bif (!decide (r3 = 0)) then some (((0, (0, 0)), 2) : Cv × Int)
        else some (((IntKind.wrap .i64 (rd (.int .u64) arr 0)), ((rd (.int .u64) arr 1), (rd (.int .u64) arr 2))), 0))
        else some ((0, (0, 0)), 2)
        else none else none else none) = some (fin (n, (a, c)) b) := by
    intro n a c hn hn2 ha hc hi harr hm
    subst harr
    have r0 : rd (.int .u64) [n, a, c] 0 = n := rfl
    have r1 : rd (.int .u64) [n, a, c] 1 = a := rfl
    have r2 : rd (.int .u64) [n, a, c] 2 = c := rfl
    rw [r0, r1, r2, small5_i64 hn hn2, F69_eq (cv_small hn hn2 ha hc)]
    simp only [show inb 0 3 = true from rfl, show inb 1 3 = true from rfl, show inb 2 3 = true from rfl, cond_true, pos_len, Option.bind_some]
    exact fin_form _ _
  rcases hx with ⟨hi, hm, harr⟩ | ⟨n, hn, hn2, hi, hm, harr⟩ | ⟨n, a, hn, hn2, ha, hi, hm, harr⟩ | ⟨a, c, ha, hc, hi, hm, harr⟩
  · subst hi; subst hm; subst harr
    simp only [show decide ((0 : Int) < 2) = true from rfl, cond_true, F101_eq hb hlen, Option.bind_some, post28, if_true, getC, decide_true, beq_self_eq_true, Bool.true_eq]
    rcases get1_casesQ hb with ⟨e0, hy, hin, hs, hlt⟩ | ⟨e0, e1⟩
    · simp only [e0, decide_true, Bool.not_true, cond_false, ne_eq, not_true_eq_false, if_false]
      by_cases q1 : (get1 b).1 < 1
      · simp [q1]
      by_cases q2 : 5 < (get1 b).1
      · simp [q2]
      simp only [q1, q2, decide_false, cond_false, or_self, if_false, hin, cond_true, show inb 0 3 = true from rfl]
      have h2 := drop_byte hb (get1 b).2.1.toNat
      have w1 : IntKind.wrap .i64 ((0 : Int) + 1) = 1 := by decide
      have w2 : IntKind.wrap .i64 ((2 : Int) + 1) = 3 := by decide
      have hset : ([0, 0, 0] : List Int).set (Int.toNat 0) (get1 b).1 = [(get1 b).1, 0, 0] := rfl
      by_cases q4 : (get1 b).1 = 4
      · simp only [q4, decide_true, cond_true, w1, w2]
        rw [← q4, hset, hrec (b.drop (get1 b).2.1.toNat, q, 3, 1, [(get1 b).1, 0, 0]) ⟨h2, by simp only; omega, .inr (.inl ⟨_, by omega, by omega, rfl, by simp [q4], rfl⟩)⟩ (by simp)]
        simp [post28]
      · simp only [q4, decide_false, cond_false, w1]
        rw [hset, hrec (b.drop (get1 b).2.1.toNat, q, 2, 1, [(get1 b).1, 0, 0]) ⟨h2, by simp only; omega, .inr (.inl ⟨_, by omega, by omega, rfl, by simp [q4], rfl⟩)⟩ (by simp)]
        simp [post28]
    · simp only [e1, decide_false, Bool.not_false, cond_true, e0, ne_eq, not_false_eq_true, if_true]
  · subst hi; subst harr
    have k1 : decide ((1 : Int) < many) = true := by rw [hm]; split <;> rfl
    simp only [k1, cond_true, F101_eq hb hlen, Option.bind_some, post28, getC1, show ¬ ((1 : Int) = 0) by omega, if_false, if_true, decide_false, List.getD_cons_zero, show (false == true) = false from rfl, cond_false]
    rcases get1_casesQ hb with ⟨e0, hy, hin, hs, hlt⟩ | ⟨e0, e1⟩
    · simp only [e0, decide_true, Bool.not_true, cond_false, ne_eq, not_true_eq_false, if_false, hin, cond_true, show inb 1 3 = true from rfl]
      have h2 := drop_byte hb (get1 b).2.1.toNat
      have w1 : IntKind.wrap .i64 ((1 : Int) + 1) = 2 := by decide
      have hset : ([n, 0, 0] : List Int).set (Int.toNat 1) (get1 b).1 = [n, (get1 b).1, 0] := rfl
      rw [w1, hset, hrec (b.drop (get1 b).2.1.toNat, q, many, 2, [n, (get1 b).1, 0]) ⟨h2, by simp only; omega, .inr (.inr (.inl ⟨n, _, by omega, by omega, hy, rfl, hm, rfl⟩))⟩ (by simp)]
      simp [post28]
    · simp only [e1, decide_false, Bool.not_false, cond_true, e0, ne_eq, not_false_eq_true, if_true]
  · subst hi
    by_cases q4 : n = 4
    · subst q4
      simp only [if_true] at hm
      subst hm; subst harr
      simp only [show decide ((2 : Int) < 3) = true from rfl, cond_true, F101_eq hb hlen, Option.bind_some, post28, getC2, show ¬ ((2 : Int) = 0) by omega, show ¬ ((2 : Int) = 1) by omega, if_false, if_true, decide_false, List.getD_cons_zero, List.getD_cons_succ, show (false == true) = false from rfl, cond_false]
      rcases get1_casesQ hb with ⟨e0, hy, hin, hs, hlt⟩ | ⟨e0, e1⟩
      · simp only [e0, decide_true, Bool.not_true, cond_false, ne_eq, not_true_eq_false, if_false, hin, cond_true, show inb 2 3 = true from rfl]
        have h2 := drop_byte hb (get1 b).2.1.toNat
        have w1 : IntKind.wrap .i64 ((2 : Int) + 1) = 3 := by decide
        have hset : ([4, a, 0] : List Int).set (Int.toNat 2) (get1 b).1 = [4, a, (get1 b).1] := rfl
        rw [w1, hset, hrec (b.drop (get1 b).2.1.toNat, q, 3, 3, [4, a, (get1 b).1]) ⟨h2, by simp only; omega, .inr (.inr (.inr ⟨a, _, ha, hy, rfl, rfl, rfl⟩))⟩ (by simp)]
        simp [post28]
      · simp only [e1, decide_false, Bool.not_false, cond_true, e0, ne_eq, not_false_eq_true, if_true]
    · rw [if_neg q4] at hm
      have f := fin_ok n a 0 hn hn2 ha u64_0 hm.symm harr (.inl hm)
      subst hm
      simp only [show decide ((2 : Int) < 2) = false from rfl, cond_false]
      refine f.trans ?_
      subst harr
      simp [post28, q4]
  · have f := fin_ok 4 a c (by omega) (by omega) ha hc (by omega) harr (.inr hm)
    subst hi; subst hm
    simp only [show decide ((3 : Int) < 3) = false from rfl, cond_false]
    refine f.trans ?_
    subst harr
    simp [post28]
theorem getC_enc {c : Cv} (hc : CvOk c) (h : chk c = 0) (m : List Int) : getC (encC c ++ m) = if m = [] then (c, 0) else ((0, (0, 0)), 2) := by
  have k := chk_kind h
  obtain ⟨n, a, b⟩ := c
  have hn : U64 n := ⟨by simp only at k; omega, by simp only at k; omega⟩
  have ha : U64 a := hc.2.1
  have hb : U64 b := hc.2.2
  simp only at k
  unfold getC encC
  simp only [List.append_assoc, get1_enc hn.1 hn.2, drop_enc, getC1, get1_enc ha.1 ha.2]
  have k1 : ¬ (n < 1 ∨ 5 < n) := by omega
  simp only [ne_eq, not_true_eq_false, if_false, k1]
  by_cases h4 : n = 4
  · subst h4
    simp only [if_true, getC2, get1_enc hb.1 hb.2, drop_enc, not_true_eq_false, if_false, fin, h]
    by_cases hm : m = [] <;> simp [hm]
  · simp only [h4, if_false, fin, List.nil_append]
    have : b = 0 := k.2.2.2.1 h4
    subst this
    by_cases hm : m = [] <;> simp [hm, h]
theorem getC_ok {b : List Int} (hb : ∀ n ∈ b, Byte n) {d : Cv} (h : getC b = (d, 0)) : chk d = 0 ∧ CvOk d ∧ encC d = b := by
  unfold getC at h
  rcases get1_casesQ hb with ⟨e0, hy, hi, hs, hlt⟩ | ⟨e0, e1⟩
  · rw [if_neg (fun hh => hh e0)] at h
    split at h
    · simp at h
    · rename_i q
      unfold getC1 at h
      have h2 := drop_byte hb (get1 b).2.1.toNat
      rcases get1_casesQ h2 with ⟨e0', hy', hi', hs', hlt'⟩ | ⟨e0', e1'⟩
      · rw [if_neg (fun hh => hh e0')] at h
        have h3 := drop_byte h2 (get1 (b.drop (get1 b).2.1.toNat)).2.1.toNat
        split at h
        · rename_i q4
          unfold getC2 at h
          rcases get1_casesQ h3 with ⟨e0'', hy'', hi'', hs'', hlt''⟩ | ⟨e0'', e1''⟩
          · rw [if_neg (fun hh => hh e0'')] at h
            unfold fin at h
            split at h
            · simp at h
            · rename_i hf
              simp only [ne_eq, not_or, Classical.not_not] at hf
              simp only [Prod.mk.injEq, and_true] at h
              subst h
              refine ⟨hf.2, cv_small (by omega) (by omega) hy' hy'', ?_⟩
              rw [hf.1, List.append_nil] at hs''
              simp only [encC, q4, if_true]
              rw [hs'', hs', ← q4, hs]
          · rw [if_pos e0''] at h
            simp only [Prod.mk.injEq] at h
            exact absurd h.2 e0''
        · rename_i q4
          unfold fin at h
          split at h
          · simp at h
          · rename_i hf
            simp only [ne_eq, not_or, Classical.not_not] at hf
            simp only [Prod.mk.injEq, and_true] at h
            subst h
            refine ⟨hf.2, cv_small (by omega) (by omega) hy' u64_0, ?_⟩
            rw [hf.1, List.append_nil] at hs'
            simp only [encC, q4, if_false, List.append_nil]
            rw [hs', hs]
      · rw [if_pos e0'] at h
        simp only [Prod.mk.injEq] at h
        exact absurd h.2 e0'
  · rw [if_pos e0] at h
    simp only [Prod.mk.injEq] at h
    exact absurd h.2 e0
end Go.Proofs.Ytcpcbeeghjigkaa.R3
