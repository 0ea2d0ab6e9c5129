/-
  THE LAW WordWrites as a contract.
-/
import Derived.Test.YtndfcbcmeeemfaaW12
import Derived.Test.YtndfcbcmeeemfaaR7
namespace Go.Proofs.Ytndfcbcmeeemfaa.Abs
open Go
set_option maxRecDepth 10000

/-- Steps as data. -/
def stepI (k at_ a b : Nat → Int) (i : Nat) : Nat → IV
  | 0 => .val (.int .i64 (k i))
  | 1 => .val (.int .i64 (at_ i))
  | 2 => .val (.int .u64 (a i))
  | _ => .val (.int .u64 (b i))
def stepS (n : Nat) (ex : Bool) (k at_ a b : Nat → Int) : AV := .imm (.sl 4 n ex (stepI k at_ a b))

/-- A map of words. -/
def domW (d : Nat → Bool) : List Int → Bool
  | [k] => decide (0 ≤ k) && d k.toNat
  | _ => false
def valW (m : Nat → Int) : List Int → Nat → IV
  | [k] => fun _ => .val (.int .u64 (m k.toNat))
  | _ => fun _ => ivDef

def nW (n0 : Int) : Nat := 1 + offW n0 8
theorem nW_le (n0 : Int) : nW n0 ≤ 8 ∧ 0 < nW n0 := by
  have := offW_lt n0 8 (by omega) (by omega)
  unfold nW
  omega
theorem nW_eq (n0 : Int) : IntKind.i64.wrap (1 + Int.tmod (IntKind.i64.wrap (Int.tmod n0 8 + 8)) 8) = ((nW n0 : Nat) : Int) := by
  obtain ⟨h1, h2, h3, h4⟩ := offI n0 8 (by omega) (by omega)
  have h1 : IntKind.i64.wrap (Int.tmod n0 8 + 8) = Int.tmod n0 8 + 8 := h1
  have h3 : Int.tmod (Int.tmod n0 8 + 8) 8 = offW n0 8 := h3
  rw [h1, h3, IntKind.wrap_i64]
  unfold nW
  omega
theorem atW (x : Int) (N : Nat) (h0 : 0 < N) (h1 : N ≤ 20) : ∃ A, A < N ∧ Int.tmod (IntKind.i64.wrap (Int.tmod x N + N)) N = ((A : Nat) : Int) := by
  obtain ⟨q1, q2, q3, q4⟩ := offI x N h0 h1
  exact ⟨offW x N, q4, by rw [q1, q3]⟩
theorem dom0 (ks : List Int) : domW (fun _ => false) ks = false := by
  unfold domW
  split <;> simp
theorem put_map (A : Nat) (x : Int) (d : Nat → Bool) (m : Nat → Int) : BLe (.mp false [.i64] false 1 (fun k' => eqI [(A : Int)] k' || domW d k') (fun k' => bif eqI [(A : Int)] k' then (fun j => [IV.val (.int .u64 x)].getD j ivDef) else valW m k')) (.mp false [.i64] false 1 (domW fun q => Nat.beq q A || d q) (valW (putW m A x))) := by
  have key : ∀ k : Int, (0 ≤ k ∧ Nat.beq k.toNat A = true) ↔ (A : Int) = k := by
    intro k
    constructor
    · rintro ⟨h1, h2⟩
      have := Nat.eq_of_beq_eq_true h2
      omega
    · intro h
      subst h
      exact ⟨by omega, by simp⟩
  refine BLe.mp (fun ks hl => ?_) (fun ks hk => ?_) (fun ks j hl hk hj => ILe.of_eq ?_)
  · match ks, hl with
    | [k], _ =>
      simp only [domW, eqI, Bool.and_true]
      by_cases h : (A : Int) = k
      · have := (key k).2 h
        simp [h, this.1, this.2]
      · have h2 : ((A : Int) == k) = false := by simpa using h
        rw [h2, Bool.false_or]
        by_cases h3 : 0 ≤ k
        · have : Nat.beq k.toNat A = false := by
            cases hb : Nat.beq k.toNat A with
            | false => rfl
            | true => exact absurd ((key k).1 ⟨h3, hb⟩) h
          rw [this, Bool.false_or]
        · simp [h3]
  · match ks, hk with
    | [k], _ => rfl
    | [], hk => simp [domW] at hk
    | _ :: _ :: _, hk => simp [domW] at hk
  · match ks, hl with
    | [k], _ =>
      obtain rfl : j = 0 := by omega
      simp only [eqI, Bool.and_true] at hk ⊢
      by_cases h : (A : Int) = k
      · have h2 : ((A : Int) == k) = true := by simpa using h
        rw [h2]
        subst h
        simp [valW, putW]
      · have h2 : ((A : Int) == k) = false := by simpa using h
        rw [h2, Bool.false_or] at hk
        simp only [domW, Bool.and_eq_true, decide_eq_true_eq] at hk
        have : Nat.beq k.toNat A = false := by
          cases hb : Nat.beq k.toNat A with
          | false => rfl
          | true => exact absurd ((key k).1 ⟨hk.1, hb⟩) h
        rw [h2]
        simp only [valW, putW, cond_false]
        have e : (A : Int).toNat = A := by omega
        rw [e, this]
        rfl
theorem badAt_in {N A : Nat} (hA : A < N) (hN : N ≤ 64) : badAt N A = false := by
  simp only [badAt]
  have q1 : decide ((N : Int) ≤ 64) = true := by rw [decide_eq_true_iff]; omega
  have q2 : decide ((A : Int) < 0) = false := by rw [decide_eq_false_iff_not]; omega
  have q3 : decide ((A : Int) ≥ N) = false := by rw [decide_eq_false_iff_not]; omega
  rw [q1, q2, q3]
  rfl
theorem writes_last (N : Nat) (m : Nat → Int) (d : Nat → Bool) (hd : ∀ k, k < N → d k = false → m k = 0) {q : Nat} (hq : q < N) (hN : N ≤ 64) :
    (bif (bif badAt N q then (1 : Int) else 0) != 0 then true else ((bif badAt N q then 0 else m q) != bif domW d [(q : Int)] then ivInt (valW m [(q : Int)] 0) else 0)) = false := by
  rw [badAt_in hq hN]
  have h1 : domW d [(q : Int)] = d q := by simp [domW]
  have h2 : ivInt (valW m [(q : Int)] 0) = m q := by simp [valW, ivInt]
  rw [h1, h2]
  cases h : d q with
  | true => simp
  | false => simp [hd q hq h]
structure WrS where
  i : Nat
  m : Nat → Int
  d : Nat → Bool
def WrI (n l : Nat) : Type := { j : WrS // j.i ≤ l ∧ ∀ k, k < n → j.d k = false → j.m k = 0 }

theorem writes5 (n0 : Int) (l : Nat) (ex : Bool) (k at_ a b : Nat → Int) : PCall Try.prog 5 [iint n0, .one (stepS l ex k at_ a b)] (.cv (ibool true)) := by
  refine PCall_of (ACall_body good Try.func5 rfl 77 rfl (by simp) ?_)
  refine AW_lenle 1 rfl (fun hl => ?_)
  refine AW_seq ?_
  refine AW_all good tabZ tabZ_ok rfl rfl ?_ ?_
  · repeat' (first | exact trivial | exact rfl | exact (fun _ _ => rfl) | apply And.intro | intro _)
    all_goals (first | omega | (rename_i hg; exact hg) | (rename_i hg; change (_ : Bool) = true; rw [hg]; rfl) | (change (_ : Bool) = true; simp_all; done) | (simp_all; done) | (show 8 * (N : Int) ≤ 281474976710656; omega))
  refine AW_seq ?_
  refine AW_all good tabZ tabZ_ok rfl rfl ?_ ?_
  · repeat' (first | exact trivial | exact rfl | exact (fun _ _ => rfl) | apply And.intro | intro _)
    all_goals (first | omega | (rename_i hg; exact hg) | (rename_i hg; change (_ : Bool) = true; rw [hg]; rfl) | (change (_ : Bool) = true; simp_all; done) | (simp_all; done) | (show 8 * (N : Int) ≤ 281474976710656; omega))
  refine AW_seq ?_
  have hN : nW n0 ≤ 8 ∧ 0 < nW n0 := nW_le n0
  refine AW_slot 0 (y := .cv (iint (nW n0 : Nat))) rfl (SLe.of_eq (congrArg (fun z => SV.cv (iint z)) (nW_eq n0))) ?_
  generalize hNe : nW n0 = N
  rw [hNe] at hN
  refine AW_eff good tabZ tabZ_ok et0 (et0_ok _) [1] rfl rfl ?_ ?_
  · repeat' (first | exact trivial | exact rfl | exact (fun _ _ => rfl) | apply And.intro | intro _)
    all_goals (first | omega | (rename_i hg; exact hg) | (rename_i hg; change (_ : Bool) = true; rw [hg]; rfl) | (change (_ : Bool) = true; simp_all; done) | (simp_all; done) | (show 8 * (N : Int) ≤ 281474976710656; omega))
  refine AW_seq ?_
  refine AW_slot 5 (y := .cv (.one (uS N false fun _ => 0))) rfl (SLe.cv (CLe.imm (ILe.sl (by omega) (by simp) (.inr ⟨rfl, fun i j hi hj => ILe.of_eq ?_⟩)))) ?_
  · obtain rfl : j = 0 := by
      have : j < 1 := hj
      omega
    rfl
  refine AW_all good tabZ tabZ_ok rfl rfl ?_ ?_
  · repeat' (first | exact trivial | exact rfl | exact (fun _ _ => rfl) | apply And.intro | intro _)
    all_goals (first | omega | (rename_i hg; exact hg) | (rename_i hg; change (_ : Bool) = true; rw [hg]; rfl) | (change (_ : Bool) = true; simp_all; done) | (simp_all; done) | (show 8 * (N : Int) ≤ 281474976710656; omega))
  refine AW_seq ?_
  refine AW_seq ?_
  refine AW_all good tabZ tabZ_ok rfl rfl ?_ ?_
  · repeat' (first | exact trivial | exact rfl | exact (fun _ _ => rfl) | apply And.intro | intro _)
    all_goals (first | omega | (rename_i hg; exact hg) | (rename_i hg; change (_ : Bool) = true; rw [hg]; rfl) | (change (_ : Bool) = true; simp_all; done) | (simp_all; done) | (show 8 * (N : Int) ≤ 281474976710656; omega))
  refine AW_block ?_
  refine AW_loopH 1 (fun j : WrI N l => [(0, .cv (iint N)), (5, .cv (.one (uS N false j.1.m))), (6, .cv (.one (.omp 0))), (23, .cv (.one (stepS l ex k at_ a b))), (24, .cv (iint l)), (25, .cv (iint j.1.i))]) (fun j => [(0, .mp false [.i64] false 1 (domW j.1.d) (valW j.1.m))]) (fun j => l - j.1.i) ⟨⟨0, fun _ => 0, fun _ => false⟩, Nat.zero_le _, fun _ _ _ => rfl⟩ [1] rfl rfl ?_ ?_ ?_
  · exact ⟨SLe.of_eq rfl, SLe.of_eq rfl, SLe.of_eq rfl, SLe.of_eq rfl, SLe.of_eq rfl, SLe.of_eq rfl, trivial⟩
  · exact ⟨⟨rfl, _, rfl, BLe.mp (fun ks _ => dom0 ks) (fun ks h => by rw [dom0] at h; cases h) (fun ks j _ h => by cases h)⟩, trivial⟩
  rintro ⟨⟨i, m, d⟩, hi, hd⟩
  try simp only at hi hd
  refine AW_seq ?_
  refine AW_all good tabZ tabZ_ok rfl rfl ?_ ?_
  · repeat' (first | exact trivial | exact rfl | exact (fun _ _ => rfl) | apply And.intro | intro _)
    all_goals (first | omega | (rename_i hg; exact hg) | (rename_i hg; change (_ : Bool) = true; rw [hg]; rfl) | (change (_ : Bool) = true; simp_all; done) | (simp_all; done) | (show 8 * (N : Int) ≤ 281474976710656; omega))
  refine AW_seq ?_
  refine AW_cond rfl (fun h1 => ?_) (fun h1 => ?_)
  · first
    | (exfalso; simp_all; done)
    | (
        refine AW_skip ?_
        refine AW_seq ?_
        refine AW_block ?_
        refine AW_seq ?_
        refine AW_all good tabZ tabZ_ok rfl rfl ?_ ?_
        · repeat' (first | exact trivial | exact rfl | exact (fun _ _ => rfl) | apply And.intro | intro _)
          all_goals (first | omega | (rename_i hg; exact hg) | (rename_i hg; change (_ : Bool) = true; rw [hg]; rfl) | (change (_ : Bool) = true; simp_all; done) | (simp_all; done) | (show 8 * (N : Int) ≤ 281474976710656; omega))
        refine AW_seq ?_
        refine AW_seq ?_
        refine AW_all good tabZ tabZ_ok rfl rfl ?_ ?_
        · repeat' (first | exact trivial | exact rfl | exact (fun _ _ => rfl) | apply And.intro | intro _)
          all_goals (first | omega | (rename_i hg; exact hg) | (rename_i hg; change (_ : Bool) = true; rw [hg]; rfl) | (change (_ : Bool) = true; simp_all; done) | (simp_all; done) | (show 8 * (N : Int) ≤ 281474976710656; omega))
        refine AW_cond rfl (fun h2 => ?_) (fun h2 => ?_)
        · first
          | (exfalso; simp_all; done)
          | (
              refine AW_exit ?_
              refine AW_seq ?_
              refine AW_seq ?_
              refine AW_all good tabZ tabZ_ok rfl rfl ?_ ?_
              · repeat' (first | exact trivial | exact rfl | exact (fun _ _ => rfl) | apply And.intro | intro _)
                all_goals (first | omega | (rename_i hg; exact hg) | (rename_i hg; change (_ : Bool) = true; rw [hg]; rfl) | (change (_ : Bool) = true; simp_all; done) | (simp_all; done) | (show 8 * (N : Int) ≤ 281474976710656; omega))
              refine AW_block ?_
              refine AW_loopH 1 (fun j : { i : Nat // i ≤ N } => [(0, .cv (iint N)), (5, .cv (.one (uS N false m))), (6, .cv (.one (.omp 0))), (56, .cv (iint N)), (57, .cv (iint j.1))]) (fun _ => [(0, .mp false [.i64] false 1 (domW d) (valW m))]) (fun j => N - j.1) ⟨0, Nat.zero_le _⟩ [0] rfl rfl ?_ ?_ ?_
              · exact ⟨SLe.of_eq rfl, SLe.of_eq rfl, SLe.of_eq rfl, SLe.of_eq rfl, SLe.of_eq rfl, trivial⟩
              · exact ⟨⟨rfl, _, rfl, BLe.of_eq rfl⟩, trivial⟩
              rintro ⟨q, hq⟩
              try simp only at hq
              refine AW_seq ?_
              refine AW_all good tabZ tabZ_ok rfl rfl ?_ ?_
              · repeat' (first | exact trivial | exact rfl | exact (fun _ _ => rfl) | apply And.intro | intro _)
                all_goals (first | omega | (rename_i hg; exact hg) | (rename_i hg; change (_ : Bool) = true; rw [hg]; rfl) | (change (_ : Bool) = true; simp_all; done) | (simp_all; done) | (show 8 * (N : Int) ≤ 281474976710656; omega))
              refine AW_seq ?_
              refine AW_cond rfl (fun h3 => ?_) (fun h3 => ?_)
              · first
                | (exfalso; simp_all; done)
                | (
                    refine AW_skip ?_
                    refine AW_seq ?_
                    refine AW_block ?_
                    refine AW_seq ?_
                    refine AW_all good tabZ tabZ_ok rfl rfl ?_ ?_
                    · repeat' (first | exact trivial | exact rfl | exact (fun _ _ => rfl) | apply And.intro | intro _)
                      all_goals (first | omega | (rename_i hg; exact hg) | (rename_i hg; change (_ : Bool) = true; rw [hg]; rfl) | (change (_ : Bool) = true; simp_all; done) | (simp_all; done) | (show 8 * (N : Int) ≤ 281474976710656; omega))
                    refine AW_seq ?_
                    refine AW_all good tabZ tabZ_ok rfl rfl ?_ ?_
                    · repeat' (first | exact trivial | exact rfl | exact (fun _ _ => rfl) | apply And.intro | intro _)
                      all_goals (first | omega | (rename_i hg; exact hg) | (rename_i hg; change (_ : Bool) = true; rw [hg]; rfl) | (change (_ : Bool) = true; simp_all; done) | (simp_all; done) | (show 8 * (N : Int) ≤ 281474976710656; omega))
                    refine AW_seq ?_
                    refine AW_all good tabZ tabZ_ok rfl rfl ?_ ?_
                    · repeat' (first | exact trivial | exact rfl | exact (fun _ _ => rfl) | apply And.intro | intro _)
                      all_goals (first | omega | (rename_i hg; exact hg) | (rename_i hg; change (_ : Bool) = true; rw [hg]; rfl) | (change (_ : Bool) = true; simp_all; done) | (simp_all; done) | (show 8 * (N : Int) ≤ 281474976710656; omega))
                    refine AW_cond rfl (fun h4 => ?_) (fun h4 => ?_)
                    · first
                      | (exfalso; simp_all; done)
                      | (
                          refine AW_seq ?_
                          refine AW_all good tabZ tabZ_ok rfl rfl ?_ ?_
                          · repeat' (first | exact trivial | exact rfl | exact (fun _ _ => rfl) | apply And.intro | intro _)
                            all_goals (first | omega | (rename_i hg; exact hg) | (rename_i hg; change (_ : Bool) = true; rw [hg]; rfl) | (change (_ : Bool) = true; simp_all; done) | (simp_all; done) | (show 8 * (N : Int) ≤ 281474976710656; omega))
                          refine AW_ret (bodyQ_ret rfl ?_ (Ends.intro rfl ?_ ?_))
                          · repeat' (first | exact trivial | exact rfl | exact (fun _ _ => rfl) | apply And.intro | intro _)
                            all_goals (first | omega | (rename_i hg; exact hg) | (rename_i hg; change (_ : Bool) = true; rw [hg]; rfl) | (change (_ : Bool) = true; simp_all; done) | (simp_all; done) | (show 8 * (N : Int) ≤ 281474976710656; omega))
                          · repeat' (first | exact trivial | exact rfl | exact (fun _ _ => rfl) | apply And.intro | intro _)
                            all_goals (first | omega | (rename_i hg; exact hg) | (rename_i hg; change (_ : Bool) = true; rw [hg]; rfl) | (change (_ : Bool) = true; simp_all; done) | (simp_all; done) | (show 8 * (N : Int) ≤ 281474976710656; omega))
                          have hlt : q < N := by simpa using h3
                          exact absurd ((writes_last N m d hd hlt (by omega)).symm.trans h4) (by decide)
                      )
                    · first
                      | (exfalso; simp_all; done)
                      | (
                          refine AW_skip ?_
                          refine AW_all good tabZ tabZ_ok rfl rfl ?_ ?_
                          · repeat' (first | exact trivial | exact rfl | exact (fun _ _ => rfl) | apply And.intro | intro _)
                            all_goals (first | omega | (rename_i hg; exact hg) | (rename_i hg; change (_ : Bool) = true; rw [hg]; rfl) | (change (_ : Bool) = true; simp_all; done) | (simp_all; done) | (show 8 * (N : Int) ≤ 281474976710656; omega))
                          have hlt : q < N := by simpa using h3
                          refine loopH_next ⟨q + 1, hlt⟩ [0] rfl rfl ⟨SLe.of_eq rfl, SLe.of_eq rfl, SLe.of_eq rfl, SLe.of_eq rfl, SLe.of_eq (congrArg (fun z => SV.cv (iint z)) (next_int q N hlt (by simp only [maxLen]; omega))), trivial⟩ ⟨⟨rfl, _, rfl, BLe.of_eq rfl⟩, trivial⟩ ?_
                          show N - (q + 1) < N - q
                          omega
                      )
                )
              · first
                | (exfalso; simp_all; done)
                | (
                    refine AW_exit ?_
                    refine AW_seq ?_
                    refine AW_all good tabZ tabZ_ok rfl rfl ?_ ?_
                    · repeat' (first | exact trivial | exact rfl | exact (fun _ _ => rfl) | apply And.intro | intro _)
                      all_goals (first | omega | (rename_i hg; exact hg) | (rename_i hg; change (_ : Bool) = true; rw [hg]; rfl) | (change (_ : Bool) = true; simp_all; done) | (simp_all; done) | (show 8 * (N : Int) ≤ 281474976710656; omega))
                    refine AW_ret (bodyQ_ret rfl ?_ (Ends.intro rfl ?_ ?_))
                    · repeat' (first | exact trivial | exact rfl | exact (fun _ _ => rfl) | apply And.intro | intro _)
                      all_goals (first | omega | (rename_i hg; exact hg) | (rename_i hg; change (_ : Bool) = true; rw [hg]; rfl) | (change (_ : Bool) = true; simp_all; done) | (simp_all; done) | (show 8 * (N : Int) ≤ 281474976710656; omega))
                    · repeat' (first | exact trivial | exact rfl | exact (fun _ _ => rfl) | apply And.intro | intro _)
                      all_goals (first | omega | (rename_i hg; exact hg) | (rename_i hg; change (_ : Bool) = true; rw [hg]; rfl) | (change (_ : Bool) = true; simp_all; done) | (simp_all; done) | (show 8 * (N : Int) ≤ 281474976710656; omega))
                    rfl
                )
          )
        · first
          | (exfalso; simp_all; done)
          | (
              refine AW_skip ?_
              refine AW_seq ?_
              refine AW_all good tabZ tabZ_ok rfl rfl ?_ ?_
              · repeat' (first | exact trivial | exact rfl | exact (fun _ _ => rfl) | apply And.intro | intro _)
                all_goals (first | omega | (rename_i hg; exact hg) | (rename_i hg; change (_ : Bool) = true; rw [hg]; rfl) | (change (_ : Bool) = true; simp_all; done) | (simp_all; done) | (show 8 * (N : Int) ≤ 281474976710656; omega))
              refine AW_seq ?_
              obtain ⟨A, hA, hAe⟩ := atW (at_ i) N hN.2 (by omega)
              refine AW_slot 9 (y := .cv (iint (A : Nat))) rfl (SLe.of_eq (congrArg (fun z => SV.cv (iint z)) hAe)) ?_
              refine AW_all good tabZ tabZ_ok rfl rfl ?_ ?_
              · repeat' (first | exact trivial | exact rfl | exact (fun _ _ => rfl) | apply And.intro | intro _)
                all_goals (first | omega | (rename_i hg; exact hg) | (rename_i hg; change (_ : Bool) = true; rw [hg]; rfl) | (change (_ : Bool) = true; simp_all; done) | (simp_all; done) | (show 8 * (N : Int) ≤ 281474976710656; omega))
              refine AW_seq ?_
              refine AW_seq ?_
              refine AW_all good tabZ tabZ_ok rfl rfl ?_ ?_
              · repeat' (first | exact trivial | exact rfl | exact (fun _ _ => rfl) | apply And.intro | intro _)
                all_goals (first | omega | (rename_i hg; exact hg) | (rename_i hg; change (_ : Bool) = true; rw [hg]; rfl) | (change (_ : Bool) = true; simp_all; done) | (simp_all; done) | (show 8 * (N : Int) ≤ 281474976710656; omega))
              refine AW_cond rfl (fun h5 => ?_) (fun h5 => ?_)
              · first
                | (exfalso; simp_all; done)
                | (
                    refine AW_seq ?_
                    refine AW_all good tabZ tabZ_ok rfl rfl ?_ ?_
                    · repeat' (first | exact trivial | exact rfl | exact (fun _ _ => rfl) | apply And.intro | intro _)
                      all_goals (first | omega | (rename_i hg; exact hg) | (rename_i hg; change (_ : Bool) = true; rw [hg]; rfl) | (change (_ : Bool) = true; simp_all; done) | (simp_all; done) | (show 8 * (N : Int) ≤ 281474976710656; omega))
                    refine AW_ret (bodyQ_ret rfl ?_ (Ends.intro rfl ?_ ?_))
                    · repeat' (first | exact trivial | exact rfl | exact (fun _ _ => rfl) | apply And.intro | intro _)
                      all_goals (first | omega | (rename_i hg; exact hg) | (rename_i hg; change (_ : Bool) = true; rw [hg]; rfl) | (change (_ : Bool) = true; simp_all; done) | (simp_all; done) | (show 8 * (N : Int) ≤ 281474976710656; omega))
                    · repeat' (first | exact trivial | exact rfl | exact (fun _ _ => rfl) | apply And.intro | intro _)
                      all_goals (first | omega | (rename_i hg; exact hg) | (rename_i hg; change (_ : Bool) = true; rw [hg]; rfl) | (change (_ : Bool) = true; simp_all; done) | (simp_all; done) | (show 8 * (N : Int) ≤ 281474976710656; omega))
                    rw [badAt_in hA (by omega)] at h5
                    exact absurd h5 (by decide)
                )
              · first
                | (exfalso; simp_all; done)
                | (
                    refine AW_skip ?_
                    have hb : badAt N A = false := badAt_in hA (by omega)
                    refine AW_slot 10 (y := .cv (.one (uS N false (putW m A (a i))))) rfl (SLe.of_eq (by rw [hb]; rfl)) ?_
                    refine AW_drwL good rfl tabZ tabZ_ok 6 rfl rfl rfl rfl rfl ?_ ?_
                    · repeat' (first | exact trivial | exact rfl | exact (fun _ _ => rfl) | apply And.intro | intro _)
                      all_goals (first | omega | (rename_i hg; exact hg) | (rename_i hg; change (_ : Bool) = true; rw [hg]; rfl) | (change (_ : Bool) = true; simp_all; done) | (simp_all; done))
                    refine AL_part good tabZ tabZ_ok et0 (et0_ok _) [] rfl rfl ?_ (AL_nil ?_)
                    · repeat' (first | exact trivial | exact rfl | exact (fun _ _ => rfl) | apply And.intro | intro _)
                      all_goals (first | omega | (rename_i hg; exact hg) | (rename_i hg; change (_ : Bool) = true; rw [hg]; rfl) | (change (_ : Bool) = true; simp_all; done) | (simp_all; done) | (show 8 * (N : Int) ≤ 281474976710656; omega))
                    refine AW_all good tabZ tabZ_ok rfl rfl ?_ ?_
                    · repeat' (first | exact trivial | exact rfl | exact (fun _ _ => rfl) | apply And.intro | intro _)
                      all_goals (first | omega | (rename_i hg; exact hg) | (rename_i hg; change (_ : Bool) = true; rw [hg]; rfl) | (change (_ : Bool) = true; simp_all; done) | (simp_all; done) | (show 8 * (N : Int) ≤ 281474976710656; omega))
                    have hlt : i < l := by simpa using h1
                    refine loopH_next ⟨⟨i + 1, putW m A (a i), fun q => Nat.beq q A || d q⟩, hlt, fun q hq hdq => ?_⟩ [0] rfl rfl ⟨SLe.of_eq rfl, SLe.of_eq rfl, SLe.of_eq rfl, SLe.of_eq rfl, SLe.of_eq rfl, SLe.of_eq (congrArg (fun z => SV.cv (iint z)) (next_int i l hlt hl)), trivial⟩ ⟨⟨rfl, _, rfl, ?_⟩, trivial⟩ ?_
                    · simp only [Bool.or_eq_false_iff] at hdq
                      show (bif Nat.beq q (A : Int).toNat then a i else m q) = 0
                      have : (A : Int).toNat = A := by omega
                      rw [this, hdq.1]
                      exact hd q hq hdq.2
                    · exact put_map A (a i) d m
                    show l - (i + 1) < l - i
                    omega
                )
          )
    )
  · first
    | (exfalso; simp_all; done)
    | (
        refine AW_exit ?_
        refine AW_seq ?_
        refine AW_seq ?_
        refine AW_all good tabZ tabZ_ok rfl rfl ?_ ?_
        · repeat' (first | exact trivial | exact rfl | exact (fun _ _ => rfl) | apply And.intro | intro _)
          all_goals (first | omega | (rename_i hg; exact hg) | (rename_i hg; change (_ : Bool) = true; rw [hg]; rfl) | (change (_ : Bool) = true; simp_all; done) | (simp_all; done) | (show 8 * (N : Int) ≤ 281474976710656; omega))
        refine AW_block ?_
        refine AW_loopH 1 (fun j : { i : Nat // i ≤ N } => [(0, .cv (iint N)), (5, .cv (.one (uS N false m))), (6, .cv (.one (.omp 0))), (56, .cv (iint N)), (57, .cv (iint j.1))]) (fun _ => [(0, .mp false [.i64] false 1 (domW d) (valW m))]) (fun j => N - j.1) ⟨0, Nat.zero_le _⟩ [0] rfl rfl ?_ ?_ ?_
        · exact ⟨SLe.of_eq rfl, SLe.of_eq rfl, SLe.of_eq rfl, SLe.of_eq rfl, SLe.of_eq rfl, trivial⟩
        · exact ⟨⟨rfl, _, rfl, BLe.of_eq rfl⟩, trivial⟩
        rintro ⟨q, hq⟩
        try simp only at hq
        refine AW_seq ?_
        refine AW_all good tabZ tabZ_ok rfl rfl ?_ ?_
        · repeat' (first | exact trivial | exact rfl | exact (fun _ _ => rfl) | apply And.intro | intro _)
          all_goals (first | omega | (rename_i hg; exact hg) | (rename_i hg; change (_ : Bool) = true; rw [hg]; rfl) | (change (_ : Bool) = true; simp_all; done) | (simp_all; done) | (show 8 * (N : Int) ≤ 281474976710656; omega))
        refine AW_seq ?_
        refine AW_cond rfl (fun h6 => ?_) (fun h6 => ?_)
        · first
          | (exfalso; simp_all; done)
          | (
              refine AW_skip ?_
              refine AW_seq ?_
              refine AW_block ?_
              refine AW_seq ?_
              refine AW_all good tabZ tabZ_ok rfl rfl ?_ ?_
              · repeat' (first | exact trivial | exact rfl | exact (fun _ _ => rfl) | apply And.intro | intro _)
                all_goals (first | omega | (rename_i hg; exact hg) | (rename_i hg; change (_ : Bool) = true; rw [hg]; rfl) | (change (_ : Bool) = true; simp_all; done) | (simp_all; done) | (show 8 * (N : Int) ≤ 281474976710656; omega))
              refine AW_seq ?_
              refine AW_all good tabZ tabZ_ok rfl rfl ?_ ?_
              · repeat' (first | exact trivial | exact rfl | exact (fun _ _ => rfl) | apply And.intro | intro _)
                all_goals (first | omega | (rename_i hg; exact hg) | (rename_i hg; change (_ : Bool) = true; rw [hg]; rfl) | (change (_ : Bool) = true; simp_all; done) | (simp_all; done) | (show 8 * (N : Int) ≤ 281474976710656; omega))
              refine AW_seq ?_
              refine AW_all good tabZ tabZ_ok rfl rfl ?_ ?_
              · repeat' (first | exact trivial | exact rfl | exact (fun _ _ => rfl) | apply And.intro | intro _)
                all_goals (first | omega | (rename_i hg; exact hg) | (rename_i hg; change (_ : Bool) = true; rw [hg]; rfl) | (change (_ : Bool) = true; simp_all; done) | (simp_all; done) | (show 8 * (N : Int) ≤ 281474976710656; omega))
              refine AW_cond rfl (fun h7 => ?_) (fun h7 => ?_)
              · first
                | (exfalso; simp_all; done)
                | (
                    refine AW_seq ?_
                    refine AW_all good tabZ tabZ_ok rfl rfl ?_ ?_
                    · repeat' (first | exact trivial | exact rfl | exact (fun _ _ => rfl) | apply And.intro | intro _)
                      all_goals (first | omega | (rename_i hg; exact hg) | (rename_i hg; change (_ : Bool) = true; rw [hg]; rfl) | (change (_ : Bool) = true; simp_all; done) | (simp_all; done) | (show 8 * (N : Int) ≤ 281474976710656; omega))
                    refine AW_ret (bodyQ_ret rfl ?_ (Ends.intro rfl ?_ ?_))
                    · repeat' (first | exact trivial | exact rfl | exact (fun _ _ => rfl) | apply And.intro | intro _)
                      all_goals (first | omega | (rename_i hg; exact hg) | (rename_i hg; change (_ : Bool) = true; rw [hg]; rfl) | (change (_ : Bool) = true; simp_all; done) | (simp_all; done) | (show 8 * (N : Int) ≤ 281474976710656; omega))
                    · repeat' (first | exact trivial | exact rfl | exact (fun _ _ => rfl) | apply And.intro | intro _)
                      all_goals (first | omega | (rename_i hg; exact hg) | (rename_i hg; change (_ : Bool) = true; rw [hg]; rfl) | (change (_ : Bool) = true; simp_all; done) | (simp_all; done) | (show 8 * (N : Int) ≤ 281474976710656; omega))
                    have hlt : q < N := by simpa using h6
                    exact absurd ((writes_last N m d hd hlt (by omega)).symm.trans h7) (by decide)
                )
              · first
                | (exfalso; simp_all; done)
                | (
                    refine AW_skip ?_
                    refine AW_all good tabZ tabZ_ok rfl rfl ?_ ?_
                    · repeat' (first | exact trivial | exact rfl | exact (fun _ _ => rfl) | apply And.intro | intro _)
                      all_goals (first | omega | (rename_i hg; exact hg) | (rename_i hg; change (_ : Bool) = true; rw [hg]; rfl) | (change (_ : Bool) = true; simp_all; done) | (simp_all; done) | (show 8 * (N : Int) ≤ 281474976710656; omega))
                    have hlt : q < N := by simpa using h6
                    refine loopH_next ⟨q + 1, hlt⟩ [0] rfl rfl ⟨SLe.of_eq rfl, SLe.of_eq rfl, SLe.of_eq rfl, SLe.of_eq rfl, SLe.of_eq (congrArg (fun z => SV.cv (iint z)) (next_int q N hlt (by simp only [maxLen]; omega))), trivial⟩ ⟨⟨rfl, _, rfl, BLe.of_eq rfl⟩, trivial⟩ ?_
                    show N - (q + 1) < N - q
                    omega
                )
          )
        · first
          | (exfalso; simp_all; done)
          | (
              refine AW_exit ?_
              refine AW_seq ?_
              refine AW_all good tabZ tabZ_ok rfl rfl ?_ ?_
              · repeat' (first | exact trivial | exact rfl | exact (fun _ _ => rfl) | apply And.intro | intro _)
                all_goals (first | omega | (rename_i hg; exact hg) | (rename_i hg; change (_ : Bool) = true; rw [hg]; rfl) | (change (_ : Bool) = true; simp_all; done) | (simp_all; done) | (show 8 * (N : Int) ≤ 281474976710656; omega))
              refine AW_ret (bodyQ_ret rfl ?_ (Ends.intro rfl ?_ ?_))
              · repeat' (first | exact trivial | exact rfl | exact (fun _ _ => rfl) | apply And.intro | intro _)
                all_goals (first | omega | (rename_i hg; exact hg) | (rename_i hg; change (_ : Bool) = true; rw [hg]; rfl) | (change (_ : Bool) = true; simp_all; done) | (simp_all; done) | (show 8 * (N : Int) ≤ 281474976710656; omega))
              · repeat' (first | exact trivial | exact rfl | exact (fun _ _ => rfl) | apply And.intro | intro _)
                all_goals (first | omega | (rename_i hg; exact hg) | (rename_i hg; change (_ : Bool) = true; rw [hg]; rfl) | (change (_ : Bool) = true; simp_all; done) | (simp_all; done) | (show 8 * (N : Int) ≤ 281474976710656; omega))
              rfl
          )
    )
end Go.Proofs.Ytndfcbcmeeemfaa.Abs
