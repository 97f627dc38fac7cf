/- Part of a proof: what the program's functions come to. -/
import Derived.Test.YtcpcbeeghjigkaaEK3
set_option linter.unusedVariables false
set_option linter.unusedSimpArgs false
namespace Go.Proofs.Ytcpcbeeghjigkaa.R3
open Go Go.Fw Go.Proofs RB
set_option maxRecDepth 20000
theorem F10_true {a : List Tm} {root key : Int} {l : List Cv} (ha : a.length ≤ 9223372036854775807) (hr : U64 root) (hll : l.length ≤ 9223372036854775807) (hl : ∀ c ∈ l, CvOk c) : F10 (a, root, key, l) = some true := by
  unfold F10
  simp only [Prod.eta, both_self, F32_true, F15_eq ha, Option.bind_some, Bool.not_true, cond_false]
  cases fewA a with
  | false => rfl
  | true =>
    by_cases c1 : (16 : Int) < (l.length : Int)
    · simp [c1]
    · by_cases c2 : (l.length : Int) = 0
      · simp [c1, c2]
      · simp only [c1, c2, decide_false, Bool.not_true, cond_false, F34_eq (a := a) (key := key) hr hll hl, Option.bind_some]
        rcases h1 : boundA a root key l with ⟨b, u, e⟩
        simp only
        by_cases he : e = 0
        · subst he
          obtain ⟨va, vb, pb, lb, y, rfl, hlk, hcl, h16⟩ := boundA_ok h1
          have hyl := (look_mem (l := l.map encC) (y := y) vb _ (l.map encC) y (Nat.le_refl _) hlk).2.2
          obtain ⟨t, ts, hrev, hlk2⟩ := trN_look vb y y hyl (Nat.le_refl _)
          obtain ⟨e1, e2, e3⟩ := look_inj _ _ _ y (Nat.le_refl _) hlk2 hlk
          have hpath : pathA b (y : Int) = (key, enc1 root :: l.map encC, 0) := by
            unfold pathA
            rw [if_neg (by rintro (q | q | q); exact q vb; omega; omega), hrev, e1, e2, e3]
          have w1 : IntKind.wrap .i64 ((l.length : Int) + 1) = (l.length : Int) + 1 := RB.wrap_i64 (by omega) (by omega)
          have w2 : IntKind.wrap .i64 ((l.length : Int) - 1) = (l.length : Int) - 1 := RB.wrap_i64 (by omega) (by omega)
          have k1 : inb ((l.length : Int) - 1) (l.length + 1) = true := inb_true (by omega) (by omega)
          have k2 : ((enc1 root :: l.map encC).length : Int) = (l.length : Int) + 1 := by simp
          have k3 : ((l.length : Int) - 1).toNat = l.length - 1 := by omega
          have tk : TokOk (root, (l.take (l.length - 1), (y : Int))) := tokOk_mk hr vb hyl (fun c hc => hl c (List.mem_of_mem_take hc))
          have ok : okK (root, (l.take (l.length - 1), (y : Int))) := okK_mk vb hyl (fun c hc => hcl c (List.mem_of_mem_take hc)) (by rw [List.length_take]; omega)
          have hver : verA b key (root, (l.take (l.length - 1), (y : Int))) = (false, 0) := by
            rw [verA_eq vb ok]
            simp only [Prod.mk.injEq, and_true, decide_eq_false_iff_not]
            rintro ⟨z, h2, h3⟩
            have : y = z := by omega
            subst this
            obtain ⟨_, _, e6⟩ := look_inj _ _ _ y (Nat.le_refl _) h3 hlk
            have := congrArg List.length e6
            simp only [List.length_map, List.length_take] at this
            omega
          simp only [decide_true, Bool.not_true, cond_false, F30_eq, hpath, Option.bind_some, w1, w2, k1, k2, k3, cond_true, F35_eq tk (show (l.take (l.length - 1)).length ≤ 9223372036854775807 by rw [List.length_take]; omega), hver, Bool.not_false]
        · simp [he]
/-! ### there is room -/
theorem putA_go {a : List Tm} {n : Tm} (hv : valid a) (hu : n.2.1 < a.length) (ht : n.2.2.length ≤ 4096) (hl : a.length < 1048576) : (putA a n).2.2 = 0 := by
  unfold putA
  rw [if_neg (by rintro (q | q); exact q hv; omega), if_neg (by omega)]
  split
  · rfl
  · rw [if_neg (by omega)]
theorem fold_go (root key : Int) : ∀ (l : List Cv) (a : List Tm) (L : List Cv) (x : Nat), valid a → look a key (enc1 root) (L.map encC) = some x → (∀ c ∈ L, chk c = 0) → (∀ c ∈ l, chk c = 0) → (L ++ l).length ≤ 16 → a.length + l.length ≤ 1048576 →
    (l.foldl stepB (a, (root, (L, (x : Int))), 0)).2.2 = 0
  | [], a, L, x, hv, hlk, hc, hcl, h16, hlen => rfl
  | c :: r, a, L, x, hv, hlk, hc, hcl, h16, hlen => by
    rw [List.foldl_cons]
    have hs : stepB (a, (root, (L, (x : Int))), 0) c = bindA a (root, (L, (x : Int))) c := by simp [stepB]
    have hxl := (look_mem (l := L.map encC) (y := x) hv _ (L.map encC) x (Nat.le_refl _) hlk).2.2
    simp only [List.length_append, List.length_cons] at h16 hlen
    have hk : okK (root, (L, (x : Int))) := okK_mk hv hxl hc (by omega)
    have hcc := hcl c (by simp)
    have hgo : (putA a (0, ((x : Int), encC c))).2.2 = 0 := putA_go hv (by simp only; omega) (by have := encC_len c; simp only; omega) (by omega)
    rcases hp : putA a (0, ((x : Int), encC c)) with ⟨b1, x1, e1⟩
    rw [hp] at hgo
    simp only at hgo
    subst hgo
    have hb : bindA a (root, (L, (x : Int))) c = (b1, (root, (L ++ [c], x1)), 0) := by
      unfold bindA
      rw [if_neg (by rintro (q | q | q); exact q hcc; exact q hk; exact q hv), if_neg (by simp only; omega)]
      simp only [hp, if_true]
    rw [hs, hb]
    obtain ⟨_, _, hm, hx1, hpre, hbl, hvb⟩ := putA_ok hp
    subst hx1
    have hlk1 : look b1 key (enc1 root) ((L ++ [c]).map encC) = some (ix b1 (0, ((x : Int), encC c))) := by
      rw [List.map_append, List.map_singleton, look_append (look_mono hpre hlk), if_pos hm]
    exact fold_go root key r b1 (L ++ [c]) _ (hvb ⟨by simp only; omega, fun _ => rfl⟩) hlk1 (by
      intro d hd
      simp only [List.mem_append, List.mem_singleton] at hd
      rcases hd with hd | rfl
      · exact hc d hd
      · exact hcc) (fun d hd => hcl d (List.mem_cons_of_mem _ hd)) (by simp; omega) (by omega)
theorem boundA_go {a : List Tm} {root key : Int} {l : List Cv} (hv : valid a) (hcl : ∀ c ∈ l, chk c = 0) (h16 : l.length ≤ 16) (hlen : a.length + 1 + l.length ≤ 1048576) : (boundA a root key l).2.2 = 0 := by
  have hgo : (putA a (key, (-1, enc1 root))).2.2 = 0 := putA_go hv (by simp only; omega) (by have := enc1_len root; simp only; omega) (by omega)
  unfold boundA mintA
  rcases hp : putA a (key, (-1, enc1 root)) with ⟨b1, x1, e1⟩
  rw [hp] at hgo
  simp only at hgo
  subst hgo
  simp only [if_true]
  obtain ⟨va, _, hm, hx1, hpre, hbl, hvb⟩ := putA_ok hp
  subst hx1
  have hlk : look b1 key (enc1 root) (([] : List Cv).map encC) = some (ix b1 (key, (-1, enc1 root))) := by
    unfold look
    rw [if_pos hm]
    rfl
  exact fold_go root key l b1 [] _ (hvb ⟨by simp, fun q => by simp at q⟩) hlk (by simp) hcl (by simpa using h16) (by omega)
/-! ### made again, nothing is new -/
theorem bindA_again {a : List Tm} {root key : Int} {L : List Cv} {c : Cv} {x y : Nat} (hv : valid a) (hlk : look a key (enc1 root) (L.map encC) = some x) (hlk2 : look a key (enc1 root) ((L ++ [c]).map encC) = some y) (hc : ∀ d ∈ L, chk d = 0) (hcc : chk c = 0) (h16 : L.length < 16) :
    bindA a (root, (L, (x : Int))) c = (a, (root, (L ++ [c], (y : Int))), 0) := by
  have hxl := (look_mem (l := L.map encC) (y := x) hv _ (L.map encC) x (Nat.le_refl _) hlk).2.2
  have hk : okK (root, (L, (x : Int))) := okK_mk hv hxl hc (by omega)
  rw [List.map_append, List.map_singleton, look_append hlk] at hlk2
  by_cases hm : (0, ((x : Int), encC c)) ∈ a
  · rw [if_pos hm] at hlk2
    simp only [Option.some.injEq] at hlk2
    unfold bindA
    rw [if_neg (by rintro (q | q | q); exact q hcc; exact q hk; exact q hv), if_neg (by simp only; omega)]
    simp only [putA_same hv hm, if_true, hlk2]
  · rw [if_neg hm] at hlk2; simp at hlk2
theorem mintA_again {a : List Tm} {root key : Int} {x : Nat} (hv : valid a) (hlk : look a key (enc1 root) [] = some x) : mintA a root key = (a, (root, ([], (x : Int))), 0) := by
  unfold look at hlk
  split at hlk
  · rename_i hm
    simp only [wk, Option.some.injEq] at hlk
    unfold mintA
    simp only [putA_same hv hm, if_true, hlk]
  · simp at hlk
theorem look_pre {a : List Tm} {k : Int} {t s : List Int} {l : List (List Int)} {y : Nat} (h : look a k t (l ++ [s]) = some y) : ∃ z, look a k t l = some z := by
  obtain ⟨z, h1, _⟩ := look_snoc h
  exact ⟨z, h1⟩
theorem F11_true {a : List Tm} {root key : Int} {c d : Cv} (ha : a.length ≤ 9223372036854775807) (hr : U64 root) (hc : CvOk c) (hd : CvOk d) : F11 (a, root, key, c, d) = some true := by
  have l1 : ∀ x ∈ [c, d], CvOk x := by intro x hx; simp at hx; rcases hx with rfl | rfl; exact hc; exact hd
  have l2 : ∀ x ∈ [d, c], CvOk x := by intro x hx; simp at hx; rcases hx with rfl | rfl; exact hd; exact hc
  unfold F11
  simp only [Prod.eta, both_self, F32_true, F15_eq ha, Option.bind_some, Bool.not_true, cond_false]
  cases f1 : fewA a with
  | false => rfl
  | true =>
    have la : a.length ≤ 80 := by
      unfold fewA at f1; simp only [Bool.and_eq_true, decide_eq_true_eq] at f1; omega
    simp only [Bool.not_true, cond_false, F34_eq (key := key) hr (show [c, d].length ≤ 9223372036854775807 by simp) l1, F34_eq (key := key) hr (show [d, c].length ≤ 9223372036854775807 by simp) l2, Option.bind_some]
    rcases h1 : boundA a root key [c, d] with ⟨x, u, e⟩
    simp only
    by_cases he : e = 0
    · subst he
      obtain ⟨va, vx, px, lx, y1, rfl, hlk1, hcl, _⟩ := boundA_ok h1
      have hcc : chk c = 0 := hcl c (by simp)
      have hcd : chk d = 0 := hcl d (by simp)
      have hgo : (boundA x root key [d, c]).2.2 = 0 := boundA_go vx (by intro z hz; simp at hz; rcases hz with rfl | rfl; exact hcd; exact hcc) (by simp) (by simp at lx ⊢; omega)
      rcases h2 : boundA x root key [d, c] with ⟨y, w, e2⟩
      rw [h2] at hgo
      simp only at hgo
      subst hgo
      obtain ⟨_, vy, py, ly, y2, rfl, hlk2, _, _⟩ := boundA_ok h2
      have hA := look_mono py hlk1
      have eA : ([c, d] : List Cv).map encC = ([encC c] ++ [encC d]) := rfl
      obtain ⟨z1, hz1⟩ := look_pre (l := [encC c]) (s := encC d) hA
      obtain ⟨z0, hz0⟩ := look_pre (l := []) (s := encC c) hz1
      have m0 := mintA_again vy hz0
      have m1 := bindA_again (L := []) (c := c) vy hz0 hz1 (by simp) hcc (by simp)
      have m2 := bindA_again (L := [c]) (c := d) vy hz1 hA (by simpa using hcc) hcd (by simp)
      have t0 : TokOk (root, ([], (z0 : Int))) := tokOk_mk hr vy (look_mem (l := []) (y := z0) vy _ [] z0 (Nat.le_refl _) hz0).2.2 (by simp)
      have t1 : TokOk (root, ([c], (z1 : Int))) := tokOk_mk hr vy (look_mem (l := [encC c]) (y := z1) vy _ [encC c] z1 (Nat.le_refl _) hz1).2.2 (by simpa using hc)
      have hyl : y.length ≤ 1000 := by simp at lx ly; omega
      simp only [decide_true, Bool.not_true, cond_false, F37_eq (a := y) (key := key) hr.1, m0, Option.bind_some, F39_eq (a := y) t0 (show ([] : List Cv).length ≤ 9223372036854775807 by simp) hc, m1, List.nil_append,
        F39_eq (a := y) t1 (show [c].length ≤ 9223372036854775807 by simp) hd, m2, List.cons_append, beq_self_eq_true, cond_true,
        F45_eq (a := (root, ([c, d], (y1 : Int)))) (b := (root, ([c, d], (y1 : Int)))) (by simp), F45_eq (a := (root, ([c, d], (y1 : Int)))) (b := (root, ([d, c], (y2 : Int)))) (by simp), F25_eq (a := y) (b := y) (by omega)]
      have hcd2 : (decide (c.1 = d.1) && (decide (c.2.1 = d.2.1) && decide (c.2.2 = d.2.2))) = decide (c = d) := by
        rw [Bool.eq_iff_iff]
        simp only [Bool.and_eq_true, decide_eq_true_eq]
        constructor
        · rintro ⟨q1, q2, q3⟩; exact Prod.ext q1 (Prod.ext q2 q3)
        · intro q; rw [q]; exact ⟨rfl, rfl, rfl⟩
      simp only [hcd2]
      by_cases q : c = d
      · subst q
        have : y1 = y2 := by
          rw [hA] at hlk2
          simpa using hlk2
        simp [this]
      · have n1 : ¬ ((y1 : Int) = (y2 : Int)) := by
          intro hh
          have : y1 = y2 := by omega
          subst this
          obtain ⟨_, _, e3⟩ := look_inj _ _ _ y1 (Nat.le_refl _) hA hlk2
          simp only [List.map_cons, List.map_nil, List.cons.injEq, and_true] at e3
          exact q (encC_inj hc hd hcc hcd e3.1)
        have n2 : ¬ ((root, ([c, d], (y1 : Int))) = (root, ([d, c], (y2 : Int)))) := by
          intro hh
          simp only [Prod.mk.injEq] at hh
          exact n1 hh.2.2
        simp [q, n1, n2]
    · simp [he]
theorem pure10 (b : dens [.agg (.slice 39 (.pair (.int .u64) (.pair (.int .i64) (.slice 5 (.int .u8))))), .one (.int .u64), .one (.int .u64), .one (.slice 62 (.pair (.int .i64) (.pair (.int .u64) (.int .u64))))]) (h : Goods [.agg (.slice 39 (.pair (.int .u64) (.pair (.int .i64) (.slice 5 (.int .u8))))), .one (.int .u64), .one (.int .u64), .one (.slice 62 (.pair (.int .i64) (.pair (.int .u64) (.int .u64))))] b) : F10 b = some true := F10_true h.1.1 (u64_of h.2.1) h.2.2.2.1 (fun c hc => cv_of (h.2.2.2.2 c hc))
theorem pure11 (b : dens [.agg (.slice 39 (.pair (.int .u64) (.pair (.int .i64) (.slice 5 (.int .u8))))), .one (.int .u64), .one (.int .u64), .agg (.pair (.int .i64) (.pair (.int .u64) (.int .u64))), .agg (.pair (.int .i64) (.pair (.int .u64) (.int .u64)))]) (h : Goods [.agg (.slice 39 (.pair (.int .u64) (.pair (.int .i64) (.slice 5 (.int .u8))))), .one (.int .u64), .one (.int .u64), .agg (.pair (.int .i64) (.pair (.int .u64) (.int .u64))), .agg (.pair (.int .i64) (.pair (.int .u64) (.int .u64)))] b) : F11 b = some true := F11_true h.1.1 (u64_of h.2.1) (cv_of h.2.2.2.1) (cv_of h.2.2.2.2)
end Go.Proofs.Ytcpcbeeghjigkaa.R3
