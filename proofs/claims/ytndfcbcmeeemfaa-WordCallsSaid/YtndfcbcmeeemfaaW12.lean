/-
  THE LAW WordCas as a contract.
-/
import Derived.Test.YtndfcbcmeeemfaaW11
import Derived.Test.YtndfcbcmeeemfaaR6
namespace Go.Proofs.Ytndfcbcmeeemfaa.Abs
open Go
set_option maxRecDepth 10000

/-- Sums of words. -/
def sumW (g : Nat → Int) : Nat → Int
  | 0 => 0
  | j + 1 => IntKind.u64.wrap (sumW g j + g j)
def sumI (g : Nat → Int) : Nat → Int
  | 0 => 0
  | j + 1 => sumI g j + g j
theorem sumW_eq (g : Nat → Int) (j : Nat) : sumW g j = sumI g j % 18446744073709551616 := by
  induction j with
  | zero => rfl
  | succ j ih => simp only [sumW, sumI, IntKind.wrap_u64, ih]; omega
def turned (g : Nat → Int) (n off : Nat) (j : Nat) : Int := g ((j + off) % n)
theorem sumI_turned (g : Nat → Int) (n off : Nat) (h : off < n) : ∀ k, k ≤ n → sumI (turned g n off) k = bif Nat.ble k (n - off) then sumI g (off + k) - sumI g off else sumI g n - sumI g off + sumI g (k - (n - off))
  | 0, _ => by simp [sumI, Nat.ble_eq_true_of_le (Nat.zero_le (n - off))]
  | k + 1, hk => by
    have ih := sumI_turned g n off h k (by omega)
    simp only [sumI, turned]
    rcases Nat.lt_or_ge k (n - off) with h1 | h1
    · have e1 : Nat.ble k (n - off) = true := Nat.ble_eq_true_of_le (by omega)
      have e2 : Nat.ble (k + 1) (n - off) = true := Nat.ble_eq_true_of_le (by omega)
      have e3 : (k + off) % n = off + k := by rw [Nat.mod_eq_of_lt (by omega)]; omega
      rw [ih, e1, e2, e3]
      simp only [cond_true]
      show sumI g (off + k) - sumI g off + g (off + k) = sumI g (off + k) + g (off + k) - sumI g off
      omega
    · have e2 : Nat.ble (k + 1) (n - off) = false := by
        cases h2 : Nat.ble (k + 1) (n - off) with
        | false => rfl
        | true => have := Nat.le_of_ble_eq_true h2; omega
      have e3 : (k + off) % n = k - (n - off) := by
        have : k + off = (k - (n - off)) + n := by omega
        rw [this, Nat.add_mod_right, Nat.mod_eq_of_lt (by omega)]
      have e4 : k + 1 - (n - off) = (k - (n - off)) + 1 := by omega
      rw [ih, e2, e3, e4]
      simp only [cond_false, sumI]
      rcases Nat.lt_or_ge (n - off) k with h3 | h3
      · have e1 : Nat.ble k (n - off) = false := by
          cases h2 : Nat.ble k (n - off) with
          | false => rfl
          | true => have := Nat.le_of_ble_eq_true h2; omega
        rw [e1]
        simp only [cond_false]
        omega
      · have e1 : Nat.ble k (n - off) = true := Nat.ble_eq_true_of_le h3
        have e5 : k = n - off := by omega
        rw [e1]
        simp only [cond_true]
        have e6 : off + k = n := by omega
        have e7 : k - (n - off) = 0 := by omega
        rw [e6, e7]
        simp only [sumI]
        omega
theorem sumW_turned (g : Nat → Int) (n off : Nat) (h : off < n) : sumW (turned g n off) n = sumW g n := by
  rw [sumW_eq, sumW_eq, sumI_turned g n off h n (Nat.le_refl _)]
  cases h1 : Nat.ble n (n - off) with
  | true =>
    have := Nat.le_of_ble_eq_true h1
    have e : off = 0 := by omega
    subst e
    simp [sumI]
  | false =>
    simp only [cond_false]
    have : n - (n - off) = off := by omega
    rw [this]
    congr 1
    omega

def offW (b : Int) (n : Nat) : Nat := (Int.tmod (Int.tmod b n + n) n).toNat

theorem offI (b : Int) (n : Nat) (h0 : 0 < n) (h1 : n ≤ 20) : IntKind.i64.wrap (Int.tmod b n + n) = Int.tmod b n + n ∧ 0 < Int.tmod b n + n ∧ Int.tmod (Int.tmod b n + n) n = offW b n ∧ offW b n < n := by
  have h2 := Int.tmod_lt_of_pos b (b := (n : Int)) (by omega)
  have h3 : -(n : Int) < Int.tmod b n := Int.lt_tmod_of_pos b (by omega)
  have h4 : 0 ≤ Int.tmod (Int.tmod b n + n) n := Int.tmod_nonneg _ (by omega)
  have h5 := Int.tmod_lt_of_pos (Int.tmod b n + n) (b := (n : Int)) (by omega)
  refine ⟨?_, by omega, ?_, ?_⟩
  · rw [IntKind.wrap_i64]; omega
  · unfold offW; omega
  · unfold offW; omega
theorem offW_lt (b : Int) (n : Nat) (h0 : 0 < n) (h1 : n ≤ 20) : offW b n < n := (offI b n h0 h1).2.2.2
theorem kW (b : Int) (n i : Nat) (h0 : i < n) (h1 : n ≤ 20) : Int.tmod (IntKind.i64.wrap (i + Int.tmod (IntKind.i64.wrap (Int.tmod b n + n)) n)) n = ((i + offW b n) % n : Nat) := by
  obtain ⟨h2, h3, h4, h5⟩ := offI b n (by omega) h1
  rw [h2, h4]
  have : IntKind.i64.wrap (i + offW b n) = ((i + offW b n : Nat) : Int) := by rw [IntKind.wrap_i64]; omega
  rw [this]
  rfl

structure CasS where
  i : Nat
  done : Int
  first : Int
  m : Nat → Int
def CasI (old : Int) (n : Nat) : Type := { j : CasS // j.i ≤ n ∧ j.m 1 = 0 ∧ (j.done = 0 ∧ j.m 0 = old ∨ j.done = 1 ∧ j.m 0 = j.first ∧ j.m 0 ≠ old) }

theorem cas3 (old : Int) (n : Nat) (ex : Bool) (news : Nat → Int) (by_ : Int) : PCall Try.prog 3 [iu old, .one (uS n ex news), iint by_] (.cv (ibool true)) := by
  refine PCall_of (ACall_body good Try.func3 rfl 131 rfl (by simp) ?_)
  refine AW_seq ?_
  refine AW_all good tabZ tabZ_ok rfl rfl ?_ ?_
  · repeat' (first | exact trivial | exact rfl | exact (fun _ _ => rfl) | apply And.intro | intro _)
    all_goals (first | omega | (rename_i hg; exact hg) | (rename_i hg; change (_ : Bool) = true; rw [hg]; rfl) | (change (_ : Bool) = true; simp_all; done) | (simp_all; done))
  refine AW_seq ?_
  refine AW_all good tabZ tabZ_ok rfl rfl ?_ ?_
  · repeat' (first | exact trivial | exact rfl | exact (fun _ _ => rfl) | apply And.intro | intro _)
    all_goals (first | omega | (rename_i hg; exact hg) | (rename_i hg; change (_ : Bool) = true; rw [hg]; rfl) | (change (_ : Bool) = true; simp_all; done) | (simp_all; done))
  refine AW_seq ?_
  refine AW_slot 1 (y := .cv (.one (uS (min n 20) false news))) rfl (SLe.cv (CLe.imm (ILe.sl ?_ (by simp) (.inr ⟨rfl, fun i j hi hj => ILe.of_eq ?_⟩)))) ?_
  · split <;> omega
  · show IV.val (.int .u64 (news (0 + i))) = IV.val (.int .u64 (news i))
    rw [Nat.zero_add]
  refine AW_eff good tabZ tabZ_ok et0 (et0_ok _) [1] rfl rfl ?_ ?_
  · repeat' (first | exact trivial | exact rfl | exact (fun _ _ => rfl) | apply And.intro | intro _)
    all_goals (first | omega | (rename_i hg; exact hg) | (rename_i hg; change (_ : Bool) = true; rw [hg]; rfl) | (change (_ : Bool) = true; simp_all; done) | (simp_all; done))
  refine AW_seq ?_
  refine AW_slot 7 (y := .cv (.one (uS 2 false fun i => bif Nat.beq i 0 then old else 0))) rfl (SLe.cv (CLe.imm (ILe.sl rfl (by simp) (.inr ⟨rfl, fun i j hi hj => ILe.of_eq ?_⟩)))) ?_
  · obtain rfl : j = 0 := by
      have : j < 1 := hj
      omega
    match i, hi with
    | 0, _ => rfl
    | 1, _ => rfl
  refine AW_all good tabZ tabZ_ok rfl rfl ?_ ?_
  · repeat' (first | exact trivial | exact rfl | exact (fun _ _ => rfl) | apply And.intro | intro _)
    all_goals (first | omega | (rename_i hg; exact hg) | (rename_i hg; change (_ : Bool) = true; rw [hg]; rfl) | (change (_ : Bool) = true; simp_all; done) | (simp_all; done))
  refine AW_seq ?_
  refine AW_all good tabZ tabZ_ok rfl rfl ?_ ?_
  · repeat' (first | exact trivial | exact rfl | exact (fun _ _ => rfl) | apply And.intro | intro _)
    all_goals (first | omega | (rename_i hg; exact hg) | (rename_i hg; change (_ : Bool) = true; rw [hg]; rfl) | (change (_ : Bool) = true; simp_all; done) | (simp_all; done))
  refine AW_seq ?_
  refine AW_seq ?_
  refine AW_all good tabZ tabZ_ok rfl rfl ?_ ?_
  · repeat' (first | exact trivial | exact rfl | exact (fun _ _ => rfl) | apply And.intro | intro _)
    all_goals (first | omega | (rename_i hg; exact hg) | (rename_i hg; change (_ : Bool) = true; rw [hg]; rfl) | (change (_ : Bool) = true; simp_all; done) | (simp_all; done))
  refine AW_block ?_
  refine AW_loopH 0 (fun j : CasI old (min n 20) => [(0, .cv (iu old)), (1, .cv (.one (uS (min n 20) false news))), (2, .cv (iint by_)), (7, .cv (.one (uS 2 false j.1.m))), (8, .cv (iint j.1.done)), (9, .cv (iu j.1.first)), (28, .cv (.one (uS (min n 20) false news))), (29, .cv (iint (min n 20 : Nat))), (30, .cv (iint j.1.i))]) (fun _ => []) (fun j => min n 20 - j.1.i) ⟨⟨0, 0, 0, fun i => bif Nat.beq i 0 then old else 0⟩, Nat.zero_le _, rfl, .inl ⟨rfl, rfl⟩⟩ [] rfl rfl ?_ trivial ?_
  · refine ⟨SLe.of_eq rfl, SLe.of_eq rfl, SLe.of_eq rfl, SLe.of_eq rfl, SLe.of_eq rfl, SLe.of_eq rfl, SLe.of_eq rfl, SLe.of_eq rfl, SLe.of_eq rfl, trivial⟩
  rintro ⟨⟨i, done, first, m⟩, hi, h1m, hd⟩
  try simp only at hi h1m hd
  refine AW_seq ?_
  refine AW_all good tabZ tabZ_ok rfl rfl ?_ ?_
  · repeat' (first | exact trivial | exact rfl | exact (fun _ _ => rfl) | apply And.intro | intro _)
    all_goals (first | omega | (rename_i hg; exact hg) | (rename_i hg; change (_ : Bool) = true; rw [hg]; rfl) | (change (_ : Bool) = true; simp_all; done) | (simp_all; done))
  refine AW_seq ?_
  refine AW_cond rfl (fun h1 => ?_) (fun h1 => ?_)
  · first
    | (exfalso; simp_all; done)
    | (
        refine AW_skip ?_
        refine AW_seq ?_
        refine AW_block ?_
        refine AW_seq ?_
        refine AW_all good tabZ tabZ_ok rfl rfl ?_ ?_
        · repeat' (first | exact trivial | exact rfl | exact (fun _ _ => rfl) | apply And.intro | intro _)
          all_goals (first | omega | (rename_i hg; exact hg) | (rename_i hg; change (_ : Bool) = true; rw [hg]; rfl) | (change (_ : Bool) = true; simp_all; done) | (simp_all; done))
        refine AW_seq ?_
        refine AW_seq ?_
        refine AW_all good tabZ tabZ_ok rfl rfl ?_ ?_
        · repeat' (first | exact trivial | exact rfl | exact (fun _ _ => rfl) | apply And.intro | intro _)
          all_goals (first | omega | (rename_i hg; exact hg) | (rename_i hg; change (_ : Bool) = true; rw [hg]; rfl) | (change (_ : Bool) = true; simp_all; done) | (simp_all; done))
        refine AW_cond rfl (fun h2 => ?_) (fun h2 => ?_)
        · first
          | (exfalso; simp_all; done)
          | (
              refine AW_exit ?_
              refine AW_all good tabZ tabZ_ok rfl rfl ?_ ?_
              · repeat' (first | exact trivial | exact rfl | exact (fun _ _ => rfl) | apply And.intro | intro _)
                all_goals (first | omega | (rename_i hg; exact hg) | (rename_i hg; change (_ : Bool) = true; rw [hg]; rfl) | (change (_ : Bool) = true; simp_all; done) | (simp_all; done))
              have hlt : i < min n 20 := by simpa using h1
              have hv : news i = old := by simpa using h2
              refine loopH_next ⟨⟨i + 1, done, first, m⟩, hlt, h1m, hd⟩ [] rfl rfl ⟨SLe.of_eq rfl, SLe.of_eq rfl, SLe.of_eq rfl, SLe.of_eq rfl, SLe.of_eq rfl, SLe.of_eq rfl, SLe.of_eq rfl, SLe.of_eq rfl, SLe.of_eq (congrArg (fun z => SV.cv (iint z)) (next_int i (min n 20) hlt (by simp only [maxLen]; omega))), trivial⟩ trivial ?_
              show min n 20 - (i + 1) < min n 20 - i
              omega
          )
        · first
          | (exfalso; simp_all; done)
          | (
              refine AW_skip ?_
              refine AW_seq ?_
              refine AW_all good tabZ tabZ_ok rfl rfl ?_ ?_
              · repeat' (first | exact trivial | exact rfl | exact (fun _ _ => rfl) | apply And.intro | intro _)
                all_goals (first | omega | (rename_i hg; exact hg) | (rename_i hg; change (_ : Bool) = true; rw [hg]; rfl) | (change (_ : Bool) = true; simp_all; done) | (simp_all; done))
              refine AW_seq ?_
              refine AW_seq ?_
              refine AW_all good tabZ tabZ_ok rfl rfl ?_ ?_
              · repeat' (first | exact trivial | exact rfl | exact (fun _ _ => rfl) | apply And.intro | intro _)
                all_goals (first | omega | (rename_i hg; exact hg) | (rename_i hg; change (_ : Bool) = true; rw [hg]; rfl) | (change (_ : Bool) = true; simp_all; done) | (simp_all; done))
              refine AW_cond rfl (fun h3 => ?_) (fun h3 => ?_)
              · first
                | (exfalso; simp_all; done)
                | (
                    refine AW_seq ?_
                    refine AW_all good tabZ tabZ_ok rfl rfl ?_ ?_
                    · repeat' (first | exact trivial | exact rfl | exact (fun _ _ => rfl) | apply And.intro | intro _)
                      all_goals (first | omega | (rename_i hg; exact hg) | (rename_i hg; change (_ : Bool) = true; rw [hg]; rfl) | (change (_ : Bool) = true; simp_all; done) | (simp_all; done))
                    refine AW_ret (bodyQ_ret rfl ?_ (Ends.intro rfl ?_ ?_))
                    · repeat' (first | exact trivial | exact rfl | exact (fun _ _ => rfl) | apply And.intro | intro _)
                      all_goals (first | omega | (rename_i hg; exact hg) | (rename_i hg; change (_ : Bool) = true; rw [hg]; rfl) | (change (_ : Bool) = true; simp_all; done) | (simp_all; done))
                    · repeat' (first | exact trivial | exact rfl | exact (fun _ _ => rfl) | apply And.intro | intro _)
                      all_goals (first | omega | (rename_i hg; exact hg) | (rename_i hg; change (_ : Bool) = true; rw [hg]; rfl) | (change (_ : Bool) = true; simp_all; done) | (simp_all; done))
                    exact absurd h3 (by decide)
                )
              · first
                | (exfalso; simp_all; done)
                | (
                    refine AW_skip ?_
                    refine AW_seq ?_
                    refine AW_all good tabZ tabZ_ok rfl rfl ?_ ?_
                    · repeat' (first | exact trivial | exact rfl | exact (fun _ _ => rfl) | apply And.intro | intro _)
                      all_goals (first | omega | (rename_i hg; exact hg) | (rename_i hg; change (_ : Bool) = true; rw [hg]; rfl) | (change (_ : Bool) = true; simp_all; done) | (simp_all; done))
                    refine AW_seq ?_
                    refine AW_all good tabZ tabZ_ok rfl rfl ?_ ?_
                    · repeat' (first | exact trivial | exact rfl | exact (fun _ _ => rfl) | apply And.intro | intro _)
                      all_goals (first | omega | (rename_i hg; exact hg) | (rename_i hg; change (_ : Bool) = true; rw [hg]; rfl) | (change (_ : Bool) = true; simp_all; done) | (simp_all; done))
                    refine AW_cond rfl (fun h4 => ?_) (fun h4 => ?_)
                    · first
                      | (exfalso; simp_all; done)
                      | (
                          refine AW_seq ?_
                          refine AW_all good tabZ tabZ_ok rfl rfl ?_ ?_
                          · repeat' (first | exact trivial | exact rfl | exact (fun _ _ => rfl) | apply And.intro | intro _)
                            all_goals (first | omega | (rename_i hg; exact hg) | (rename_i hg; change (_ : Bool) = true; rw [hg]; rfl) | (change (_ : Bool) = true; simp_all; done) | (simp_all; done))
                          refine AW_all good tabZ tabZ_ok rfl rfl ?_ ?_
                          · repeat' (first | exact trivial | exact rfl | exact (fun _ _ => rfl) | apply And.intro | intro _)
                            all_goals (first | omega | (rename_i hg; exact hg) | (rename_i hg; change (_ : Bool) = true; rw [hg]; rfl) | (change (_ : Bool) = true; simp_all; done) | (simp_all; done))
                          refine AW_all good tabZ tabZ_ok rfl rfl ?_ ?_
                          · repeat' (first | exact trivial | exact rfl | exact (fun _ _ => rfl) | apply And.intro | intro _)
                            all_goals (first | omega | (rename_i hg; exact hg) | (rename_i hg; change (_ : Bool) = true; rw [hg]; rfl) | (change (_ : Bool) = true; simp_all; done) | (simp_all; done))
                          have hlt : i < min n 20 := by simpa using h1
                          have hv : news i ≠ old := by simpa using h2
                          have hm0 : m 0 = old := by
                            have h := h4
                            cases hc : m 0 == old with
                            | true => simpa using hc
                            | false =>
                              exfalso
                              change ((casG old (news i) (m 0)).2 == 1) = true at h
                              simp [casG, hc] at h
                          have hd0 : done = 0 := by
                            rcases hd with h | h
                            · exact h.1
                            · exact absurd hm0 h.2.2
                          subst hd0
                          have hp : putW m 0 (casG old (news i) (m 0)).1 0 = news i := by
                            have h : (casG old (news i) (m 0)).1 = news i := by simp [casG, hm0]
                            rw [h]
                            rfl
                          refine loopH_next ⟨⟨i + 1, 1, news i, putW m 0 (casG old (news i) (m 0)).1⟩, hlt, h1m, .inr ⟨rfl, hp, fun h => hv (hp.symm.trans h)⟩⟩ [] rfl rfl ⟨SLe.of_eq rfl, SLe.of_eq rfl, SLe.of_eq rfl, SLe.of_eq rfl, SLe.of_eq rfl, SLe.of_eq rfl, SLe.of_eq rfl, SLe.of_eq rfl, SLe.of_eq (congrArg (fun z => SV.cv (iint z)) (next_int i (min n 20) hlt (by simp only [maxLen]; omega))), trivial⟩ trivial ?_
                          show min n 20 - (i + 1) < min n 20 - i
                          omega
                      )
                    · first
                      | (exfalso; simp_all; done)
                      | (
                          refine AW_skip ?_
                          refine AW_all good tabZ tabZ_ok rfl rfl ?_ ?_
                          · repeat' (first | exact trivial | exact rfl | exact (fun _ _ => rfl) | apply And.intro | intro _)
                            all_goals (first | omega | (rename_i hg; exact hg) | (rename_i hg; change (_ : Bool) = true; rw [hg]; rfl) | (change (_ : Bool) = true; simp_all; done) | (simp_all; done))
                          have hlt : i < min n 20 := by simpa using h1
                          have hm0 : m 0 ≠ old := by
                            have h := h4
                            intro hc
                            change ((casG old (news i) (m 0)).2 == 1) = false at h
                            simp [casG, hc] at h
                          have hp : putW m 0 (casG old (news i) (m 0)).1 0 = m 0 := by
                            have hb : (m 0 == old) = false := by simpa using hm0
                            have h : (casG old (news i) (m 0)).1 = m 0 := by simp [casG, hb]
                            rw [h]
                            rfl
                          have hd' : done = 0 ∧ putW m 0 (casG old (news i) (m 0)).1 0 = old ∨ done = 1 ∧ putW m 0 (casG old (news i) (m 0)).1 0 = first ∧ putW m 0 (casG old (news i) (m 0)).1 0 ≠ old := by rw [hp]; exact hd
                          refine loopH_next ⟨⟨i + 1, done, first, putW m 0 (casG old (news i) (m 0)).1⟩, hlt, h1m, hd'⟩ [] rfl rfl ⟨SLe.of_eq rfl, SLe.of_eq rfl, SLe.of_eq rfl, SLe.of_eq rfl, SLe.of_eq rfl, SLe.of_eq rfl, SLe.of_eq rfl, SLe.of_eq rfl, SLe.of_eq (congrArg (fun z => SV.cv (iint z)) (next_int i (min n 20) hlt (by simp only [maxLen]; omega))), trivial⟩ trivial ?_
                          show min n 20 - (i + 1) < min n 20 - i
                          omega
                      )
                )
          )
    )
  · first
    | (exfalso; simp_all; done)
    | (
        refine AW_exit ?_
        refine AW_seq ?_
        refine AW_all good tabZ tabZ_ok rfl rfl ?_ ?_
        · repeat' (first | exact trivial | exact rfl | exact (fun _ _ => rfl) | apply And.intro | intro _)
          all_goals (first | omega | (rename_i hg; exact hg) | (rename_i hg; change (_ : Bool) = true; rw [hg]; rfl) | (change (_ : Bool) = true; simp_all; done) | (simp_all; done))
        refine AW_seq ?_
        refine AW_seq ?_
        refine AW_all good tabZ tabZ_ok rfl rfl ?_ ?_
        · repeat' (first | exact trivial | exact rfl | exact (fun _ _ => rfl) | apply And.intro | intro _)
          all_goals (first | omega | (rename_i hg; exact hg) | (rename_i hg; change (_ : Bool) = true; rw [hg]; rfl) | (change (_ : Bool) = true; simp_all; done) | (simp_all; done))
        refine AW_block ?_
        refine AW_loopH 0 (fun j : { j : Nat × (Nat → Int) // j.1 ≤ min n 20 ∧ j.2 0 = m 0 ∧ j.2 1 = sumW (turned news (min n 20) (offW by_ (min n 20))) j.1 } => [(0, .cv (iu old)), (1, .cv (.one (uS (min n 20) false news))), (2, .cv (iint by_)), (7, .cv (.one (uS 2 false j.1.2))), (8, .cv (iint done)), (9, .cv (iu first)), (15, .cv (iu (sumW news j.1.1))), (53, .cv (.one (uS (min n 20) false news))), (54, .cv (iint (min n 20 : Nat))), (55, .cv (iint j.1.1))]) (fun _ => []) (fun j => min n 20 - j.1.1) ⟨⟨0, m⟩, Nat.zero_le _, rfl, h1m⟩ [] rfl rfl ?_ trivial ?_
        · exact ⟨SLe.of_eq rfl, SLe.of_eq rfl, SLe.of_eq rfl, SLe.of_eq rfl, SLe.of_eq rfl, SLe.of_eq rfl, SLe.of_eq rfl, SLe.of_eq rfl, SLe.of_eq rfl, SLe.of_eq rfl, trivial⟩
        clear h1 hi h1m
        rintro ⟨⟨i, m2⟩, hi, h2m, h2s⟩
        try simp only at hi h2m h2s
        refine AW_seq ?_
        refine AW_all good tabZ tabZ_ok rfl rfl ?_ ?_
        · repeat' (first | exact trivial | exact rfl | exact (fun _ _ => rfl) | apply And.intro | intro _)
          all_goals (first | omega | (rename_i hg; exact hg) | (rename_i hg; change (_ : Bool) = true; rw [hg]; rfl) | (change (_ : Bool) = true; simp_all; done) | (simp_all; done))
        refine AW_seq ?_
        refine AW_cond rfl (fun h5 => ?_) (fun h5 => ?_)
        · first
          | (exfalso; simp_all; done)
          | (
              refine AW_skip ?_
              refine AW_seq ?_
              refine AW_block ?_
              refine AW_seq ?_
              refine AW_all good tabZ tabZ_ok rfl rfl ?_ ?_
              · repeat' (first | exact trivial | exact rfl | exact (fun _ _ => rfl) | apply And.intro | intro _)
                all_goals (first | omega | (rename_i hg; exact hg) | (rename_i hg; change (_ : Bool) = true; rw [hg]; rfl) | (change (_ : Bool) = true; simp_all; done) | (simp_all; done))
              refine AW_seq ?_
              have hlt : i < min n 20 := by simpa using h5
              have hoff := offW_lt by_ (min n 20) (by omega) (by omega)
              have hmod : (i + offW by_ (min n 20)) % min n 20 < min n 20 := Nat.mod_lt _ (by omega)
              refine AW_all good tabZ tabZ_ok rfl rfl ?_ ?_
              · repeat' (first | exact trivial | exact rfl | exact (fun _ _ => rfl) | apply And.intro | intro _)
                all_goals (first | omega | (rename_i hg; exact hg) | (rename_i hg; change (_ : Bool) = true; rw [hg]; rfl) | (change (_ : Bool) = true; simp_all; done) | (simp_all; done))
              refine AW_seq ?_
              refine AW_slot 17 (y := .cv (iint ((i + offW by_ (min n 20)) % min n 20 : Nat))) rfl (SLe.of_eq (congrArg (fun z => SV.cv (iint z)) (kW by_ (min n 20) i hlt (by omega)))) ?_
              refine AW_all good tabZ tabZ_ok rfl rfl ?_ ?_
              · repeat' (first | exact trivial | exact rfl | exact (fun _ _ => rfl) | apply And.intro | intro _)
                all_goals (first | omega | (rename_i hg; exact hg) | (rename_i hg; change (_ : Bool) = true; rw [hg]; rfl) | (change (_ : Bool) = true; simp_all; done) | (simp_all; done))
              refine AW_seq ?_
              refine AW_seq ?_
              refine AW_all good tabZ tabZ_ok rfl rfl ?_ ?_
              · repeat' (first | exact trivial | exact rfl | exact (fun _ _ => rfl) | apply And.intro | intro _)
                all_goals (first | omega | (rename_i hg; exact hg) | (rename_i hg; change (_ : Bool) = true; rw [hg]; rfl) | (change (_ : Bool) = true; simp_all; done) | (simp_all; done))
              refine AW_cond rfl (fun h6 => ?_) (fun h6 => ?_)
              · first
                | (exfalso; simp_all; done)
                | (
                    refine AW_seq ?_
                    refine AW_all good tabZ tabZ_ok rfl rfl ?_ ?_
                    · repeat' (first | exact trivial | exact rfl | exact (fun _ _ => rfl) | apply And.intro | intro _)
                      all_goals (first | omega | (rename_i hg; exact hg) | (rename_i hg; change (_ : Bool) = true; rw [hg]; rfl) | (change (_ : Bool) = true; simp_all; done) | (simp_all; done))
                    refine AW_ret (bodyQ_ret rfl ?_ (Ends.intro rfl ?_ ?_))
                    · repeat' (first | exact trivial | exact rfl | exact (fun _ _ => rfl) | apply And.intro | intro _)
                      all_goals (first | omega | (rename_i hg; exact hg) | (rename_i hg; change (_ : Bool) = true; rw [hg]; rfl) | (change (_ : Bool) = true; simp_all; done) | (simp_all; done))
                    · repeat' (first | exact trivial | exact rfl | exact (fun _ _ => rfl) | apply And.intro | intro _)
                      all_goals (first | omega | (rename_i hg; exact hg) | (rename_i hg; change (_ : Bool) = true; rw [hg]; rfl) | (change (_ : Bool) = true; simp_all; done) | (simp_all; done))
                    exact absurd h6 (by decide)
                )
              · first
                | (exfalso; simp_all; done)
                | (
                    refine AW_skip ?_
                    refine AW_seq ?_
                    refine AW_all good tabZ tabZ_ok rfl rfl ?_ ?_
                    · repeat' (first | exact trivial | exact rfl | exact (fun _ _ => rfl) | apply And.intro | intro _)
                      all_goals (first | omega | (rename_i hg; exact hg) | (rename_i hg; change (_ : Bool) = true; rw [hg]; rfl) | (change (_ : Bool) = true; simp_all; done) | (simp_all; done))
                    refine AW_all good tabZ tabZ_ok rfl rfl ?_ ?_
                    · repeat' (first | exact trivial | exact rfl | exact (fun _ _ => rfl) | apply And.intro | intro _)
                      all_goals (first | omega | (rename_i hg; exact hg) | (rename_i hg; change (_ : Bool) = true; rw [hg]; rfl) | (change (_ : Bool) = true; simp_all; done) | (simp_all; done))
                    refine AW_all good tabZ tabZ_ok rfl rfl ?_ ?_
                    · repeat' (first | exact trivial | exact rfl | exact (fun _ _ => rfl) | apply And.intro | intro _)
                      all_goals (first | omega | (rename_i hg; exact hg) | (rename_i hg; change (_ : Bool) = true; rw [hg]; rfl) | (change (_ : Bool) = true; simp_all; done) | (simp_all; done))
                    refine loopH_next ⟨⟨i + 1, putW m2 1 (IntKind.u64.wrap (m2 1 + news ((i + offW by_ (min n 20)) % min n 20)))⟩, hlt, h2m, ?_⟩ [] rfl rfl ⟨SLe.of_eq rfl, SLe.of_eq rfl, SLe.of_eq rfl, SLe.of_eq rfl, SLe.of_eq rfl, SLe.of_eq rfl, SLe.of_eq rfl, SLe.of_eq rfl, SLe.of_eq rfl, SLe.of_eq (congrArg (fun z => SV.cv (iint z)) (next_int i (min n 20) hlt (by simp only [maxLen]; omega))), trivial⟩ trivial ?_
                    · show IntKind.u64.wrap (m2 1 + news ((i + offW by_ (min n 20)) % min n 20)) = IntKind.u64.wrap (sumW (turned news (min n 20) (offW by_ (min n 20))) i + news ((i + offW by_ (min n 20)) % min n 20))
                      rw [h2s]
                    show min n 20 - (i + 1) < min n 20 - i
                    omega
                )
          )
        · first
          | (exfalso; simp_all; done)
          | (
              refine AW_exit ?_
              refine AW_seq ?_
              refine AW_seq ?_
              refine AW_all good tabZ tabZ_ok rfl rfl ?_ ?_
              · repeat' (first | exact trivial | exact rfl | exact (fun _ _ => rfl) | apply And.intro | intro _)
                all_goals (first | omega | (rename_i hg; exact hg) | (rename_i hg; change (_ : Bool) = true; rw [hg]; rfl) | (change (_ : Bool) = true; simp_all; done) | (simp_all; done))
              refine AW_cond rfl (fun h7 => ?_) (fun h7 => ?_)
              · first
                | (exfalso; simp_all; done)
                | (
                    refine AW_seq ?_
                    refine AW_all good tabZ tabZ_ok rfl rfl ?_ ?_
                    · repeat' (first | exact trivial | exact rfl | exact (fun _ _ => rfl) | apply And.intro | intro _)
                      all_goals (first | omega | (rename_i hg; exact hg) | (rename_i hg; change (_ : Bool) = true; rw [hg]; rfl) | (change (_ : Bool) = true; simp_all; done) | (simp_all; done))
                    refine AW_ret (bodyQ_ret rfl ?_ (Ends.intro rfl ?_ ?_))
                    · repeat' (first | exact trivial | exact rfl | exact (fun _ _ => rfl) | apply And.intro | intro _)
                      all_goals (first | omega | (rename_i hg; exact hg) | (rename_i hg; change (_ : Bool) = true; rw [hg]; rfl) | (change (_ : Bool) = true; simp_all; done) | (simp_all; done))
                    · repeat' (first | exact trivial | exact rfl | exact (fun _ _ => rfl) | apply And.intro | intro _)
                      all_goals (first | omega | (rename_i hg; exact hg) | (rename_i hg; change (_ : Bool) = true; rw [hg]; rfl) | (change (_ : Bool) = true; simp_all; done) | (simp_all; done))
                    have hi2 : i = min n 20 := by
                      have : ¬ i < min n 20 := by simpa using h5
                      omega
                    have hs : m2 1 = sumW news i := by
                      rw [h2s]
                      rcases Nat.eq_zero_or_pos (min n 20) with h | h
                      · rw [hi2, h]; rfl
                      · rw [hi2]; exact sumW_turned _ _ _ (offW_lt by_ (min n 20) h (by omega))
                    exfalso
                    have h7' : (m2 1 != sumW news i) = false := by rw [hs]; simp
                    have h8 : decide (done > 1) = false := by
                      rcases hd with h | h <;> simp [h.1]
                    change (bif (bif (m2 1 != sumW news i) then true else decide (done > 1)) then true else false) = true at h7
                    rw [h7', h8] at h7
                    exact absurd h7 (by decide)
                )
              · first
                | (exfalso; simp_all; done)
                | (
                    refine AW_skip ?_
                    refine AW_seq ?_
                    refine AW_all good tabZ tabZ_ok rfl rfl ?_ ?_
                    · repeat' (first | exact trivial | exact rfl | exact (fun _ _ => rfl) | apply And.intro | intro _)
                      all_goals (first | omega | (rename_i hg; exact hg) | (rename_i hg; change (_ : Bool) = true; rw [hg]; rfl) | (change (_ : Bool) = true; simp_all; done) | (simp_all; done))
                    refine AW_ret (bodyQ_ret rfl ?_ (Ends.intro rfl ?_ ?_))
                    · repeat' (first | exact trivial | exact rfl | exact (fun _ _ => rfl) | apply And.intro | intro _)
                      all_goals (first | omega | (rename_i hg; exact hg) | (rename_i hg; change (_ : Bool) = true; rw [hg]; rfl) | (change (_ : Bool) = true; simp_all; done) | (simp_all; done))
                    · repeat' (first | exact trivial | exact rfl | exact (fun _ _ => rfl) | apply And.intro | intro _)
                      all_goals (first | omega | (rename_i hg; exact hg) | (rename_i hg; change (_ : Bool) = true; rw [hg]; rfl) | (change (_ : Bool) = true; simp_all; done) | (simp_all; done))
                    refine ret_bool ?_
                    change (bif (bif done == 1 then m2 0 == first else false) then true else (bif done == 0 then m2 0 == old else false)) = true
                    rw [h2m]
                    rcases hd with h | h
                    · simp [h.1, h.2]
                    · simp [h.1, h.2.1]
                )
          )
    )
end Go.Proofs.Ytndfcbcmeeemfaa.Abs
