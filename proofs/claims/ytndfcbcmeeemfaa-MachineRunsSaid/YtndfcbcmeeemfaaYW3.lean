/-
  THE LAW WordWrites as a contract.
-/
import Derived.Test.YtndfcbcmeeemfaaYW2
import Derived.Test.YtndfcbcmeeemfaaX5
namespace Go.Proofs.Ytndfcbcmeeemfaa.Abs
open Go
set_option maxRecDepth 10000

/-- Steps as data. -/
def stepI (k at_ a b : Nat → Int) (i : Nat) : Nat → IV
  | 0 => .val (.int .i64 (k i))
  | 1 => .val (.int .i64 (at_ i))
  | 2 => .val (.int .u64 (a i))
  | _ => .val (.int .u64 (b i))
def stepS (n : Nat) (ex : Bool) (k at_ a b : Nat → Int) : AV := .imm (.sl 4 n ex (stepI k at_ a b))

/-- A map of words. -/
def domW (d : Nat → Bool) : List Int → Bool
  | [k] => decide (0 ≤ k) && d k.toNat
  | _ => false
def valW (m : Nat → Int) : List Int → Nat → IV
  | [k] => fun _ => .val (.int .u64 (m k.toNat))
  | _ => fun _ => ivDef

def nW (n0 : Int) : Nat := 1 + offW n0 8
theorem nW_le (n0 : Int) : nW n0 ≤ 8 ∧ 0 < nW n0 := by
  have := offW_lt n0 8 (by omega) (by omega)
  unfold nW
  omega
theorem nW_eq (n0 : Int) : IntKind.i64.wrap (1 + Int.tmod (IntKind.i64.wrap (Int.tmod n0 8 + 8)) 8) = ((nW n0 : Nat) : Int) := by
  obtain ⟨h1, h2, h3, h4⟩ := offI n0 8 (by omega) (by omega)
  have h1 : IntKind.i64.wrap (Int.tmod n0 8 + 8) = Int.tmod n0 8 + 8 := h1
  have h3 : Int.tmod (Int.tmod n0 8 + 8) 8 = offW n0 8 := h3
  rw [h1, h3, IntKind.wrap_i64]
  unfold nW
  omega
theorem atW (x : Int) (N : Nat) (h0 : 0 < N) (h1 : N ≤ 20) : ∃ A, A < N ∧ Int.tmod (IntKind.i64.wrap (Int.tmod x N + N)) N = ((A : Nat) : Int) := by
  obtain ⟨q1, q2, q3, q4⟩ := offI x N h0 h1
  exact ⟨offW x N, q4, by rw [q1, q3]⟩
theorem dom0 (ks : List Int) : domW (fun _ => false) ks = false := by
  unfold domW
  split <;> simp
theorem put_map (A : Nat) (x : Int) (d : Nat → Bool) (m : Nat → Int) : BLe (.mp false [.i64] false 1 (fun k' => eqI [(A : Int)] k' || domW d k') (fun k' => bif eqI [(A : Int)] k' then (fun j => [IV.val (.int .u64 x)].getD j ivDef) else valW m k')) (.mp false [.i64] false 1 (domW fun q => Nat.beq q A || d q) (valW (putW m A x))) := by
  have key : ∀ k : Int, (0 ≤ k ∧ Nat.beq k.toNat A = true) ↔ (A : Int) = k := by
    intro k
    constructor
    · rintro ⟨h1, h2⟩
      have := Nat.eq_of_beq_eq_true h2
      omega
    · intro h
      subst h
      exact ⟨by omega, by simp⟩
  refine BLe.mp (fun ks hl => ?_) (fun ks hk => ?_) (fun ks j hl hk hj => ILe.of_eq ?_)
  · match ks, hl with
    | [k], _ =>
      simp only [domW, eqI, Bool.and_true]
      by_cases h : (A : Int) = k
      · have := (key k).2 h
        simp [h, this.1, this.2]
      · have h2 : ((A : Int) == k) = false := by simpa using h
        rw [h2, Bool.false_or]
        by_cases h3 : 0 ≤ k
        · have : Nat.beq k.toNat A = false := by
            cases hb : Nat.beq k.toNat A with
            | false => rfl
            | true => exact absurd ((key k).1 ⟨h3, hb⟩) h
          rw [this, Bool.false_or]
        · simp [h3]
  · match ks, hk with
    | [k], _ => rfl
    | [], hk => simp [domW] at hk
    | _ :: _ :: _, hk => simp [domW] at hk
  · match ks, hl with
    | [k], _ =>
      obtain rfl : j = 0 := by omega
      simp only [eqI, Bool.and_true] at hk ⊢
      by_cases h : (A : Int) = k
      · have h2 : ((A : Int) == k) = true := by simpa using h
        rw [h2]
        subst h
        simp [valW, putW]
      · have h2 : ((A : Int) == k) = false := by simpa using h
        rw [h2, Bool.false_or] at hk
        simp only [domW, Bool.and_eq_true, decide_eq_true_eq] at hk
        have : Nat.beq k.toNat A = false := by
          cases hb : Nat.beq k.toNat A with
          | false => rfl
          | true => exact absurd ((key k).1 ⟨hk.1, hb⟩) h
        rw [h2]
        simp only [valW, putW, cond_false]
        have e : (A : Int).toNat = A := by omega
        rw [e, this]
        rfl
theorem badAt_in {N A : Nat} (hA : A < N) (hN : N ≤ 64) : badAt N A = false := by
  simp only [badAt]
  have q1 : decide ((N : Int) ≤ 64) = true := by rw [decide_eq_true_iff]; omega
  have q2 : decide ((A : Int) < 0) = false := by rw [decide_eq_false_iff_not]; omega
  have q3 : decide ((A : Int) ≥ N) = false := by rw [decide_eq_false_iff_not]; omega
  rw [q1, q2, q3]
  rfl
theorem writes_last (N : Nat) (m : Nat → Int) (d : Nat → Bool) (hd : ∀ k, k < N → d k = false → m k = 0) {q : Nat} (hq : q < N) (hN : N ≤ 64) :
    (bif (bif badAt N q then (1 : Int) else 0) != 0 then true else ((bif badAt N q then 0 else m q) != bif domW d [(q : Int)] then ivInt (valW m [(q : Int)] 0) else 0)) = false := by
  rw [badAt_in hq hN]
  have h1 : domW d [(q : Int)] = d q := by simp [domW]
  have h2 : ivInt (valW m [(q : Int)] 0) = m q := by simp [valW, ivInt]
  rw [h1, h2]
  cases h : d q with
  | true => simp
  | false => simp [hd q hq h]
structure WrS where
  i : Nat
  m : Nat → Int
  d : Nat → Bool
def WrI (n l : Nat) : Type := { j : WrS // j.i ≤ l ∧ ∀ k, k < n → j.d k = false → j.m k = 0 }

theorem writes5 (n0 : Int) (l : Nat) (ex : Bool) (k at_ a b : Nat → Int) : PCall Try.prog 5 [iint n0, .one (stepS l ex k at_ a b)] (.cv (ibool true)) := by
  refine PCall_of (ACall_body good Try.func5 rfl 77 rfl (by simp) ?_)
  refine AW_lenle 1 rfl (fun hl => ?_)
  refine AW_seq ?_
  refine AW_all good tabZ tabZ_ok rfl rfl ?_ ?_
  · repeat' (first | exact trivial | exact rfl | exact (fun _ _ => rfl) | apply And.intro | intro _)
    all_goals (first | omega | (rename_i hg; exact hg) | (rename_i hg; change (_ : Bool) = true; rw [hg]; rfl) | (change (_ : Bool) = true; simp_all; done) | (simp_all; done) | (show 8 * (N : Int) ≤ 281474976710656; omega))
  refine AW_seq ?_
  refine AW_all good tabZ tabZ_ok rfl rfl ?_ ?_
  · repeat' (first | exact trivial | exact rfl | exact (fun _ _ => rfl) | apply And.intro | intro _)
    all_goals (first | omega | (rename_i hg; exact hg) | (rename_i hg; change (_ : Bool) = true; rw [hg]; rfl) | (change (_ : Bool) = true; simp_all; done) | (simp_all; done) | (show 8 * (N : Int) ≤ 281474976710656; omega))
  refine AW_seq ?_
  have hN : nW n0 ≤ 8 ∧ 0 < nW n0 := nW_le n0
  refine AW_slot 0 (y := .cv (iint (nW n0 : Nat))) rfl (SLe.of_eq (congrArg (fun z => SV.cv (iint z)) (nW_eq n0))) ?_
  generalize hNe : nW n0 = N
  rw [hNe] at hN
  refine AW_eff good tabZ tabZ_ok et0 (et0_ok _) [1] rfl rfl ?_ ?_
  · repeat' (first | exact trivial | exact rfl | exact (fun _ _ => rfl) | apply And.intro | intro _)
    all_goals (first | omega | (rename_i hg; exact hg) | (rename_i hg; change (_ : Bool) = true; rw [hg]; rfl) | (change (_ : Bool) = true; simp_all; done) | (simp_all; done) | (show 8 * (N : Int) ≤ 281474976710656; omega))
  refine AW_seq ?_
  refine AW_slot 5 (y := .cv (.one (uS N false fun _ => 0))) rfl (SLe.cv (CLe.imm (ILe.sl (by omega) (by simp) (.inr ⟨rfl, fun i j hi hj => ILe.of_eq ?_⟩)))) ?_
  · obtain rfl : j = 0 := by
      have : j < 1 := hj
      omega
    rfl
  refine AW_all good tabZ tabZ_ok rfl rfl ?_ ?_
  · repeat' (first | exact trivial | exact rfl | exact (fun _ _ => rfl) | apply And.intro | intro _)
    all_goals (first | omega | (rename_i hg; exact hg) | (rename_i hg; change (_ : Bool) = true; rw [hg]; rfl) | (change (_ : Bool) = true; simp_all; done) | (simp_all; done) | (show 8 * (N : Int) ≤ 281474976710656; omega))
  refine AW_seq ?_
  refine AW_seq ?_
  refine AW_all good tabZ tabZ_ok rfl rfl ?_ ?_
  · repeat' (first | exact trivial | exact rfl | exact (fun _ _ => rfl) | apply And.intro | intro _)
    all_goals (first | omega | (rename_i hg; exact hg) | (rename_i hg; change (_ : Bool) = true; rw [hg]; rfl) | (change (_ : Bool) = true; simp_all; done) | (simp_all; done) | (show 8 * (N : Int) ≤ 281474976710656; omega))
  refine AW_block ?_
  refine AW_loopH 1 (fun j : WrI N l => [(0, .cv (iint N)), (5, .cv (.one (uS N false j.1.m))), (6, .cv (.one (.omp 0))), (23, .cv (.one (stepS l ex k at_ a b))), (24, .cv (iint l)), (25, .cv (iint j.1.i))]) (fun j => [(0, .mp false [.i64] false 1 (domW j.1.d) (valW j.1.m))]) (fun j => l - j.1.i) ⟨⟨0, fun _ => 0, fun _ => false⟩, Nat.zero_le _, fun _ _ _ => rfl⟩ [1] rfl rfl ?_ ?_ ?_
  · exact ⟨SLe.of_eq rfl, SLe.of_eq rfl, SLe.of_eq rfl, SLe.of_eq rfl, SLe.of_eq rfl, SLe.of_eq rfl, trivial⟩
  · exact ⟨⟨rfl, _, rfl, BLe.mp (fun ks _ => dom0 ks) (fun ks h => by rw [dom0] at h; cases h) (fun ks j _ h => by cases h)⟩, trivial⟩
  rintro ⟨⟨i, m, d⟩, hi, hd⟩
  try simp only at hi hd
  refine AW_seq ?_
  refine AW_all good tabZ tabZ_ok rfl rfl ?_ ?_
  · repeat' (first | exact trivial | exact rfl | exact (fun _ _ => rfl) | apply And.intro | intro _)
    all_goals (first | omega | (rename_i hg; exact hg) | (rename_i hg; change (_ : Bool) = true; rw [hg]; rfl) | (change (_ : Bool) = true; simp_all; done) | (simp_all; done) | (show 8 * (N : Int) ≤ 281474976710656; omega))
  refine AW_seq ?_
  refine AW_cond rfl (fun h1 => ?_) (fun h1 => ?_)
  · first
    | (exfalso; simp_all; done)
    | (
        refine AW_skip ?_
        refine AW_seq ?_
        refine AW_block ?_
        refine AW_seq ?_
        refine AW_all good tabZ tabZ_ok rfl rfl ?_ ?_
        · repeat' (first | exact trivial | exact rfl | exact (fun _ _ => rfl) | apply And.intro | intro _)
          all_goals (first | omega | (rename_i hg; exact hg) | (rename_i hg; change (_ : Bool) = true; rw [hg]; rfl) | (change (_ : Bool) = true; simp_all; done) | (simp_all; done) | (show 8 * (N : Int) ≤ 281474976710656; omega))
        refine AW_seq ?_
        refine AW_seq ?_
        refine AW_all good tabZ tabZ_ok rfl rfl ?_ ?_
        · repeat' (first | exact trivial | exact rfl | exact (fun _ _ => rfl) | apply And.intro | intro _)
          all_goals (first | omega | (rename_i hg; exact hg) | (rename_i hg; change (_ : Bool) = true; rw [hg]; rfl) | (change (_ : Bool) = true; simp_all; done) | (simp_all; done) | (show 8 * (N : Int) ≤ 281474976710656; omega))
        refine AW_cond rfl (fun h2 => ?_) (fun h2 => ?_)
        · first
          | (exfalso; simp_all; done)
          | (
              refine AW_exit ?_
              refine AW_seq ?_
              refine AW_seq ?_
              refine AW_all good tabZ tabZ_ok rfl rfl ?_ ?_
              · repeat' (first | exact trivial | exact rfl | exact (fun _ _ => rfl) | apply And.intro | intro _)
                all_goals (first | omega | (rename_i hg; exact hg) | (rename_i hg; change (_ : Bool) = true; rw [hg]; rfl) | (change (_ : Bool) = true; simp_all; done) | (simp_all; done) | (show 8 * (N : Int) ≤ 281474976710656; omega))
              refine AW_block ?_
              refine AW_loopH 1 (fun j : { i : Nat // i ≤ N } => [(0, .cv (iint N)), (5, .cv (.one (uS N false m))), (6, .cv (.one (.omp 0))), (56, .cv (iint N)), (57, .cv (iint j.1))]) (fun _ => [(0, .mp false [.i64] false 1 (domW d) (valW m))]) (fun j => N - j.1) ⟨0, Nat.zero_le _⟩ [0] rfl rfl ?_ ?_ ?_
              · exact ⟨SLe.of_eq rfl, SLe.of_eq rfl, SLe.of_eq rfl, SLe.of_eq rfl, SLe.of_eq rfl, trivial⟩
              · exact ⟨⟨rfl, _, rfl, BLe.of_eq rfl⟩, trivial⟩
              rintro ⟨q, hq⟩
              try simp only at hq
              refine AW_seq ?_
              refine AW_all good tabZ tabZ_ok rfl rfl ?_ ?_
              · repeat' (first | exact trivial | exact rfl | exact (fun _ _ => rfl) | apply And.intro | intro _)
                all_goals (first | omega | (rename_i hg; exact hg) | (rename_i hg; change (_ : Bool) = true; rw [hg]; rfl) | (change (_ : Bool) = true; simp_all; done) | (simp_all; done) | (show 8 * (N : Int) ≤ 281474976710656; omega))
              refine AW_seq ?_
              refine AW_cond rfl (fun h3 => ?_) (fun h3 => ?_)
              · first
                | (exfalso; simp_all; done)
                | (
                    refine AW_skip ?_
                    refine AW_seq ?_
                    refine AW_block ?_
                    refine AW_seq ?_
                    refine AW_all good tabZ tabZ_ok rfl rfl ?_ ?_
                    · repeat' (first | exact trivial | exact rfl | exact (fun _ _ => rfl) | apply And.intro | intro _)
                      all_goals (first | omega | (rename_i hg; exact hg) | (rename_i hg; change (_ : Bool) = true; rw [hg]; rfl) | (change (_ : Bool) = true; simp_all; done) | (simp_all; done) | (show 8 * (N : Int) ≤ 281474976710656; omega))
                    refine AW_seq ?_
                    refine AW_all good tabZ tabZ_ok rfl rfl ?_ ?_
                    · repeat' (first | exact trivial | exact rfl | exact (fun _ _ => rfl) | apply And.intro | intro _)
                      all_goals (first | omega | (rename_i hg; exact hg) | (rename_i hg; change (_ : Bool) = true; rw [hg]; rfl) | (change (_ : Bool) = true; simp_all; done) | (simp_all; done) | (show 8 * (N : Int) ≤ 281474976710656; omega))
                    refine AW_seq ?_
                    refine AW_all good tabZ tabZ_ok rfl rfl ?_ ?_
                    · repeat' (first | exact trivial | exact rfl | exact (fun _ _ => rfl) | apply And.intro | intro _)
                      all_goals (first | omega | (rename_i hg; exact hg) | (rename_i hg; change (_ : Bool) = true; rw [hg]; rfl) | (change (_ : Bool) = true; simp_all; done) | (simp_all; done) | (show 8 * (N : Int) ≤ 281474976710656; omega))
                    refine AW_cond rfl (fun h4 => ?_) (fun h4 => ?_)
                    · first
                      | (exfalso; simp_all; done)
                      | (
                          refine AW_seq ?_
                          refine AW_all good tabZ tabZ_ok rfl rfl ?_ ?_
                          · repeat' (first | exact trivial | exact rfl | exact (fun _ _ => rfl) | apply And.intro | intro _)
                            all_goals (first | omega | (rename_i hg; exact hg) | (rename_i hg; change (_ : Bool) = true; rw [hg]; rfl) | (change (_ : Bool) = true; simp_all; done) | (simp_all; done) | (show 8 * (N : Int) ≤ 281474976710656; omega))
                          refine AW_ret (bodyQ_ret rfl ?_ (Ends.intro rfl ?_ ?_))
                          · repeat' (first | exact trivial | exact rfl | exact (fun _ _ => rfl) | apply And.intro | intro _)
                            all_goals (first | omega | (rename_i hg; exact hg) | (rename_i hg; change (_ : Bool) = true; rw [hg]; rfl) | (change (_ : Bool) = true; simp_all; done) | (simp_all; done) | (show 8 * (N : Int) ≤ 281474976710656; omega))
                          · repeat' (first | exact trivial | exact rfl | exact (fun _ _ => rfl) | apply And.intro | intro _)
                            all_goals (first | omega | (rename_i hg; exact hg) | (rename_i hg; change (_ : Bool) = true; rw [hg]; rfl) | (change (_ : Bool) = true; simp_all; done) | (simp_all; done) | (show 8 * (N : Int) ≤ 281474976710656; omega))
                          have hlt : q < N := by simpa using h3
                          exact absurd ((writes_last N m d hd hlt (by omega)).symm.trans h4) (by decide)
                      )
                    · first
                      | (exfalso; simp_all; done)
                      | (
                          refine AW_skip ?_
                          refine AW_all good tabZ tabZ_ok rfl rfl ?_ ?_
                          · repeat' (first | exact trivial | exact rfl | exact (fun _ _ => rfl) | apply And.intro | intro _)
                            all_goals (first | omega | (rename_i hg; exact hg) | (rename_i hg; change (_ : Bool) = true; rw [hg]; rfl) | (change (_ : Bool) = true; simp_all; done) | (simp_all; done) | (show 8 * (N : Int) ≤ 281474976710656; omega))
                          have hlt : q < N := by simpa using h3
                          refine loopH_next ⟨q + 1, hlt⟩ [0] rfl rfl ⟨SLe.of_eq rfl, SLe.of_eq rfl, SLe.of_eq rfl, SLe.of_eq rfl, SLe.of_eq (congrArg (fun z => SV.cv (iint z)) (next_int q N hlt (by simp only [maxLen]; omega))), trivial⟩ ⟨⟨rfl, _, rfl, BLe.of_eq rfl⟩, trivial⟩ ?_
                          show N - (q + 1) < N - q
                          omega
                      )
                )
              · first
                | (exfalso; simp_all; done)
                | (
                    refine AW_exit ?_
                    refine AW_seq ?_
                    refine AW_all good tabZ tabZ_ok rfl rfl ?_ ?_
                    · repeat' (first | exact trivial | exact rfl | exact (fun _ _ => rfl) | apply And.intro | intro _)
                      all_goals (first | omega | (rename_i hg; exact hg) | (rename_i hg; change (_ : Bool) = true; rw [hg]; rfl) | (change (_ : Bool) = true; simp_all; done) | (simp_all; done) | (show 8 * (N : Int) ≤ 281474976710656; omega))
                    refine AW_ret (bodyQ_ret rfl ?_ (Ends.intro rfl ?_ ?_))
                    · repeat' (first | exact trivial | exact rfl | exact (fun _ _ => rfl) | apply And.intro | intro _)
                      all_goals (first | omega | (rename_i hg; exact hg) | (rename_i hg; change (_ : Bool) = true; rw [hg]; rfl) | (change (_ : Bool) = true; simp_all; done) | (simp_all; done) | (show 8 * (N : Int) ≤ 281474976710656; omega))
                    · repeat' (first | exact trivial | exact rfl | exact (fun _ _ => rfl) | apply And.intro | intro _)
                      all_goals (first | omega | (rename_i hg; exact hg) | (rename_i hg; change (_ : Bool) = true; rw [hg]; rfl) | (change (_ : Bool) = true; simp_all; done) | (simp_all; done) | (show 8 * (N : Int) ≤ 281474976710656; omega))
                    rfl
                )
          )
        · first
          | (exfalso; simp_all; done)
          | (
              refine AW_skip ?_
              refine AW_seq ?_
              refine AW_all good tabZ tabZ_ok rfl rfl ?_ ?_
              · repeat' (first | exact trivial | exact rfl | exact (fun _ _ => rfl) | apply And.intro | intro _)
                all_goals (first | omega | (rename_i hg; exact hg) | (rename_i hg; change (_ : Bool) = true; rw [hg]; rfl) | (change (_ : Bool) = true; simp_all; done) | (simp_all; done) | (show 8 * (N : Int) ≤ 281474976710656; omega))
              refine AW_seq ?_
              obtain ⟨A, hA, hAe⟩ := atW (at_ i) N hN.2 (by omega)
              refine AW_slot 9 (y := .cv (iint (A : Nat))) rfl (SLe.of_eq (congrArg (fun z => SV.cv (iint z)) hAe)) ?_
              refine AW_all good tabZ tabZ_ok rfl rfl ?_ ?_
              · repeat' (first | exact trivial | exact rfl | exact (fun _ _ => rfl) | apply And.intro | intro _)
                all_goals (first | omega | (rename_i hg; exact hg) | (rename_i hg; change (_ : Bool) = true; rw [hg]; rfl) | (change (_ : Bool) = true; simp_all; done) | (simp_all; done) | (show 8 * (N : Int) ≤ 281474976710656; omega))
              refine AW_seq ?_
              refine AW_seq ?_
              refine AW_all good tabZ tabZ_ok rfl rfl ?_ ?_
              · repeat' (first | exact trivial | exact rfl | exact (fun _ _ => rfl) | apply And.intro | intro _)
                all_goals (first | omega | (rename_i hg; exact hg) | (rename_i hg; change (_ : Bool) = true; rw [hg]; rfl) | (change (_ : Bool) = true; simp_all; done) | (simp_all; done) | (show 8 * (N : Int) ≤ 281474976710656; omega))
              refine AW_cond rfl (fun h5 => ?_) (fun h5 => ?_)
              · first
                | (exfalso; simp_all; done)
                | (
                    refine AW_seq ?_
                    refine AW_all good tabZ tabZ_ok rfl rfl ?_ ?_
                    · repeat' (first | exact trivial | exact rfl | exact (fun _ _ => rfl) | apply And.intro | intro _)
                      all_goals (first | omega | (rename_i hg; exact hg) | (rename_i hg; change (_ : Bool) = true; rw [hg]; rfl) | (change (_ : Bool) = true; simp_all; done) | (simp_all; done) | (show 8 * (N : Int) ≤ 281474976710656; omega))
                    refine AW_ret (bodyQ_ret rfl ?_ (Ends.intro rfl ?_ ?_))
                    · repeat' (first | exact trivial | exact rfl | exact (fun _ _ => rfl) | apply And.intro | intro _)
                      all_goals (first | omega | (rename_i hg; exact hg) | (rename_i hg; change (_ : Bool) = true; rw [hg]; rfl) | (change (_ : Bool) = true; simp_all; done) | (simp_all; done) | (show 8 * (N : Int) ≤ 281474976710656; omega))
                    · repeat' (first | exact trivial | exact rfl | exact (fun _ _ => rfl) | apply And.intro | intro _)
                      all_goals (first | omega | (rename_i hg; exact hg) | (rename_i hg; change (_ : Bool) = true; rw [hg]; rfl) | (change (_ : Bool) = true; simp_all; done) | (simp_all; done) | (show 8 * (N : Int) ≤ 281474976710656; omega))
                    rw [badAt_in hA (by omega)] at h5
                    exact absurd h5 (by decide)
                )
              · first
                | (exfalso; simp_all; done)
                | (
                    refine AW_skip ?_
                    have hb : badAt N A = false := badAt_in hA (by omega)
                    refine AW_slot 10 (y := .cv (.one (uS N false (putW m A (a i))))) rfl (SLe.of_eq (by rw [hb]; rfl)) ?_
                    refine AW_drwL good rfl tabZ tabZ_ok 6 rfl rfl rfl rfl rfl ?_ ?_
                    · repeat' (first | exact trivial | exact rfl | exact (fun _ _ => rfl) | apply And.intro | intro _)
                      all_goals (first | omega | (rename_i hg; exact hg) | (rename_i hg; change (_ : Bool) = true; rw [hg]; rfl) | (change (_ : Bool) = true; simp_all; done) | (simp_all; done))
                    refine AL_part good tabZ tabZ_ok et0 (et0_ok _) [] rfl rfl ?_ (AL_nil ?_)
                    · repeat' (first | exact trivial | exact rfl | exact (fun _ _ => rfl) | apply And.intro | intro _)
                      all_goals (first | omega | (rename_i hg; exact hg) | (rename_i hg; change (_ : Bool) = true; rw [hg]; rfl) | (change (_ : Bool) = true; simp_all; done) | (simp_all; done) | (show 8 * (N : Int) ≤ 281474976710656; omega))
                    refine AW_all good tabZ tabZ_ok rfl rfl ?_ ?_
                    · repeat' (first | exact trivial | exact rfl | exact (fun _ _ => rfl) | apply And.intro | intro _)
                      all_goals (first | omega | (rename_i hg; exact hg) | (rename_i hg; change (_ : Bool) = true; rw [hg]; rfl) | (change (_ : Bool) = true; simp_all; done) | (simp_all; done) | (show 8 * (N : Int) ≤ 281474976710656; omega))
                    have hlt : i < l := by simpa using h1
                    refine loopH_next ⟨⟨i + 1, putW m A (a i), fun q => Nat.beq q A || d q⟩, hlt, fun q hq hdq => ?_⟩ [0] rfl rfl ⟨SLe.of_eq rfl, SLe.of_eq rfl, SLe.of_eq rfl, SLe.of_eq rfl, SLe.of_eq rfl, SLe.of_eq (congrArg (fun z => SV.cv (iint z)) (next_int i l hlt hl)), trivial⟩ ⟨⟨rfl, _, rfl, ?_⟩, trivial⟩ ?_
                    · simp only [Bool.or_eq_false_iff] at hdq
                      show (bif Nat.beq q (A : Int).toNat then a i else m q) = 0
                      have : (A : Int).toNat = A := by omega
                      rw [this, hdq.1]
                      exact hd q hq hdq.2
                    · exact put_map A (a i) d m
                    show l - (i + 1) < l - i
                    omega
                )
          )
    )
  · first
    | (exfalso; simp_all; done)
    | (
        refine AW_exit ?_
        refine AW_seq ?_
        refine AW_seq ?_
        refine AW_all good tabZ tabZ_ok rfl rfl ?_ ?_
        · repeat' (first | exact trivial | exact rfl | exact (fun _ _ => rfl) | apply And.intro | intro _)
          all_goals (first | omega | (rename_i hg; exact hg) | (rename_i hg; change (_ : Bool) = true; rw [hg]; rfl) | (change (_ : Bool) = true; simp_all; done) | (simp_all; done) | (show 8 * (N : Int) ≤ 281474976710656; omega))
        refine AW_block ?_
        refine AW_loopH 1 (fun j : { i : Nat // i ≤ N } => [(0, .cv (iint N)), (5, .cv (.one (uS N false m))), (6, .cv (.one (.omp 0))), (56, .cv (iint N)), (57, .cv (iint j.1))]) (fun _ => [(0, .mp false [.i64] false 1 (domW d) (valW m))]) (fun j => N - j.1) ⟨0, Nat.zero_le _⟩ [0] rfl rfl ?_ ?_ ?_
        · exact ⟨SLe.of_eq rfl, SLe.of_eq rfl, SLe.of_eq rfl, SLe.of_eq rfl, SLe.of_eq rfl, trivial⟩
        · exact ⟨⟨rfl, _, rfl, BLe.of_eq rfl⟩, trivial⟩
        rintro ⟨q, hq⟩
        try simp only at hq
        refine AW_seq ?_
        refine AW_all good tabZ tabZ_ok rfl rfl ?_ ?_
        · repeat' (first | exact trivial | exact rfl | exact (fun _ _ => rfl) | apply And.intro | intro _)
          all_goals (first | omega | (rename_i hg; exact hg) | (rename_i hg; change (_ : Bool) = true; rw [hg]; rfl) | (change (_ : Bool) = true; simp_all; done) | (simp_all; done) | (show 8 * (N : Int) ≤ 281474976710656; omega))
        refine AW_seq ?_
        refine AW_cond rfl (fun h6 => ?_) (fun h6 => ?_)
        · first
          | (exfalso; simp_all; done)
          | (
              refine AW_skip ?_
              refine AW_seq ?_
              refine AW_block ?_
              refine AW_seq ?_
              refine AW_all good tabZ tabZ_ok rfl rfl ?_ ?_
              · repeat' (first | exact trivial | exact rfl | exact (fun _ _ => rfl) | apply And.intro | intro _)
                all_goals (first | omega | (rename_i hg; exact hg) | (rename_i hg; change (_ : Bool) = true; rw [hg]; rfl) | (change (_ : Bool) = true; simp_all; done) | (simp_all; done) | (show 8 * (N : Int) ≤ 281474976710656; omega))
              refine AW_seq ?_
              refine AW_all good tabZ tabZ_ok rfl rfl ?_ ?_
              · repeat' (first | exact trivial | exact rfl | exact (fun _ _ => rfl) | apply And.intro | intro _)
                all_goals (first | omega | (rename_i hg; exact hg) | (rename_i hg; change (_ : Bool) = true; rw [hg]; rfl) | (change (_ : Bool) = true; simp_all; done) | (simp_all; done) | (show 8 * (N : Int) ≤ 281474976710656; omega))
              refine AW_seq ?_
              refine AW_all good tabZ tabZ_ok rfl rfl ?_ ?_
              · repeat' (first | exact trivial | exact rfl | exact (fun _ _ => rfl) | apply And.intro | intro _)
                all_goals (first | omega | (rename_i hg; exact hg) | (rename_i hg; change (_ : Bool) = true; rw [hg]; rfl) | (change (_ : Bool) = true; simp_all; done) | (simp_all; done) | (show 8 * (N : Int) ≤ 281474976710656; omega))
              refine AW_cond rfl (fun h7 => ?_) (fun h7 => ?_)
              · first
                | (exfalso; simp_all; done)
                | (
                    refine AW_seq ?_
                    refine AW_all good tabZ tabZ_ok rfl rfl ?_ ?_
                    · repeat' (first | exact trivial | exact rfl | exact (fun _ _ => rfl) | apply And.intro | intro _)
                      all_goals (first | omega | (rename_i hg; exact hg) | (rename_i hg; change (_ : Bool) = true; rw [hg]; rfl) | (change (_ : Bool) = true; simp_all; done) | (simp_all; done) | (show 8 * (N : Int) ≤ 281474976710656; omega))
                    refine AW_ret (bodyQ_ret rfl ?_ (Ends.intro rfl ?_ ?_))
                    · repeat' (first | exact trivial | exact rfl | exact (fun _ _ => rfl) | apply And.intro | intro _)
                      all_goals (first | omega | (rename_i hg; exact hg) | (rename_i hg; change (_ : Bool) = true; rw [hg]; rfl) | (change (_ : Bool) = true; simp_all; done) | (simp_all; done) | (show 8 * (N : Int) ≤ 281474976710656; omega))
                    · repeat' (first | exact trivial | exact rfl | exact (fun _ _ => rfl) | apply And.intro | intro _)
                      all_goals (first | omega | (rename_i hg; exact hg) | (rename_i hg; change (_ : Bool) = true; rw [hg]; rfl) | (change (_ : Bool) = true; simp_all; done) | (simp_all; done) | (show 8 * (N : Int) ≤ 281474976710656; omega))
                    have hlt : q < N := by simpa using h6
                    exact absurd ((writes_last N m d hd hlt (by omega)).symm.trans h7) (by decide)
                )
              · first
                | (exfalso; simp_all; done)
                | (
                    refine AW_skip ?_
                    refine AW_all good tabZ tabZ_ok rfl rfl ?_ ?_
                    · repeat' (first | exact trivial | exact rfl | exact (fun _ _ => rfl) | apply And.intro | intro _)
                      all_goals (first | omega | (rename_i hg; exact hg) | (rename_i hg; change (_ : Bool) = true; rw [hg]; rfl) | (change (_ : Bool) = true; simp_all; done) | (simp_all; done) | (show 8 * (N : Int) ≤ 281474976710656; omega))
                    have hlt : q < N := by simpa using h6
                    refine loopH_next ⟨q + 1, hlt⟩ [0] rfl rfl ⟨SLe.of_eq rfl, SLe.of_eq rfl, SLe.of_eq rfl, SLe.of_eq rfl, SLe.of_eq (congrArg (fun z => SV.cv (iint z)) (next_int q N hlt (by simp only [maxLen]; omega))), trivial⟩ ⟨⟨rfl, _, rfl, BLe.of_eq rfl⟩, trivial⟩ ?_
                    show N - (q + 1) < N - q
                    omega
                )
          )
        · first
          | (exfalso; simp_all; done)
          | (
              refine AW_exit ?_
              refine AW_seq ?_
              refine AW_all good tabZ tabZ_ok rfl rfl ?_ ?_
              · repeat' (first | exact trivial | exact rfl | exact (fun _ _ => rfl) | apply And.intro | intro _)
                all_goals (first | omega | (rename_i hg; exact hg) | (rename_i hg; change (_ : Bool) = true; rw [hg]; rfl) | (change (_ : Bool) = true; simp_all; done) | (simp_all; done) | (show 8 * (N : Int) ≤ 281474976710656; omega))
              refine AW_ret (bodyQ_ret rfl ?_ (Ends.intro rfl ?_ ?_))
              · repeat' (first | exact trivial | exact rfl | exact (fun _ _ => rfl) | apply And.intro | intro _)
                all_goals (first | omega | (rename_i hg; exact hg) | (rename_i hg; change (_ : Bool) = true; rw [hg]; rfl) | (change (_ : Bool) = true; simp_all; done) | (simp_all; done) | (show 8 * (N : Int) ≤ 281474976710656; omega))
              · repeat' (first | exact trivial | exact rfl | exact (fun _ _ => rfl) | apply And.intro | intro _)
                all_goals (first | omega | (rename_i hg; exact hg) | (rename_i hg; change (_ : Bool) = true; rw [hg]; rfl) | (change (_ : Bool) = true; simp_all; done) | (simp_all; done) | (show 8 * (N : Int) ≤ 281474976710656; omega))
              rfl
          )
    )
end Go.Proofs.Ytndfcbcmeeemfaa.Abs

/-
  THE CONTRACTS OF THE REFERENCE OF word: With, Do.
-/
namespace Go.Proofs.Ytndfcbcmeeemfaa.Abs
open Go
set_option maxRecDepth 10000

def withW (m : Nat → Int) (at_ v : Int) (i : Nat) : Int := bif (i : Int) == at_ then v else m i

theorem with44 (n : Nat) (ex : Bool) (m : Nat → Int) (at_ v : Int) (hn8 : n * 8 ≤ 140737488355328) : PCall Try.prog 44 [.one (uS n ex m), iint at_, iu v] (.cv (.one (uS n false (withW m at_ v)))) := by
  refine PCall_of (ACall_body good Try.func44 rfl 28 rfl (by simp) ?_)
  refine AW_lenle 0 rfl (fun hm => ?_)
  refine AW_seq ?_
  refine AW_all good tabZ tabZ_ok rfl rfl ?_ ?_
  · repeat' (first | exact trivial | exact rfl | exact (fun _ _ => rfl) | apply And.intro | intro _)
    all_goals (first | omega | (rename_i hg; exact hg) | (show (i + 1) * 8 ≤ 140737488355328; omega) | (rename_i hg; exact absurd hg (by omega)) | (change (_ : Bool) = true; simp_all; done))
  refine AW_seq ?_
  refine AW_all good tabZ tabZ_ok rfl rfl ?_ ?_
  · repeat' (first | exact trivial | exact rfl | exact (fun _ _ => rfl) | apply And.intro | intro _)
    all_goals (first | omega | (rename_i hg; exact hg) | (show (i + 1) * 8 ≤ 140737488355328; omega) | (rename_i hg; exact absurd hg (by omega)) | (change (_ : Bool) = true; simp_all; done))
  refine AW_seq ?_
  refine AW_seq ?_
  refine AW_all good tabZ tabZ_ok rfl rfl ?_ ?_
  · repeat' (first | exact trivial | exact rfl | exact (fun _ _ => rfl) | apply And.intro | intro _)
    all_goals (first | omega | (rename_i hg; exact hg) | (show (i + 1) * 8 ≤ 140737488355328; omega) | (rename_i hg; exact absurd hg (by omega)) | (change (_ : Bool) = true; simp_all; done))
  refine AW_block ?_
  refine AW_loopH 1 (fun j : { i : Nat // i ≤ n } => [(0, .cv (.one (uS n ex m))), (1, .cv (iint at_)), (2, .cv (iu v)), (7, .cv (.one (.osl 0 1 0 0 j.1 true))), (11, .cv (.one (uS n ex m))), (12, .cv (iint n)), (13, .cv (iint j.1))]) (fun j => [(0, .rows 22 1 j.1 fun i _ => .val (.int .u64 (withW m at_ v i)))]) (fun j => n - j.1) ⟨0, Nat.zero_le _⟩ [0] rfl rfl ?_ ?_ ?_
  · exact ⟨SLe.of_eq rfl, SLe.of_eq rfl, SLe.of_eq rfl, SLe.of_eq rfl, SLe.of_eq rfl, SLe.of_eq rfl, SLe.of_eq rfl, trivial⟩
  · exact ⟨⟨rfl, _, rfl, BLe.rows rfl (fun i j hi _ => absurd hi (Nat.not_lt_zero i))⟩, trivial⟩
  rintro ⟨i, hi⟩
  dsimp only
  refine AW_seq ?_
  refine AW_all good tabZ tabZ_ok rfl rfl ?_ ?_
  · repeat' (first | exact trivial | exact rfl | exact (fun _ _ => rfl) | apply And.intro | intro _)
    all_goals (first | omega | (rename_i hg; exact hg) | (show (i + 1) * 8 ≤ 140737488355328; omega) | (rename_i hg; exact absurd hg (by omega)) | (change (_ : Bool) = true; simp_all; done))
  refine AW_seq ?_
  refine AW_cond rfl (fun h1 => ?_) (fun h1 => ?_)
  · first
    | (exfalso; simp_all; done)
    | (
        refine AW_skip ?_
        refine AW_seq ?_
        refine AW_block ?_
        refine AW_seq ?_
        have hlt : i < n := by simpa using h1
        refine AW_all good tabZ tabZ_ok rfl rfl ?_ ?_
        · repeat' (first | exact trivial | exact rfl | exact (fun _ _ => rfl) | apply And.intro | intro _)
          all_goals omega
        refine AW_seq ?_
        refine AW_seq ?_
        refine AW_all good tabZ tabZ_ok rfl rfl ?_ ?_
        · repeat' (first | exact trivial | exact rfl | exact (fun _ _ => rfl) | apply And.intro | intro _)
          all_goals (first | omega | (rename_i hg; exact hg) | (show (i + 1) * 8 ≤ 140737488355328; omega) | (rename_i hg; exact absurd hg (by omega)) | (change (_ : Bool) = true; simp_all; done))
        refine AW_cond rfl (fun h2 => ?_) (fun h2 => ?_)
        · first
          | (exfalso; simp_all; done)
          | (
              refine AW_all good tabZ tabZ_ok rfl rfl ?_ ?_
              · repeat' (first | exact trivial | exact rfl | exact (fun _ _ => rfl) | apply And.intro | intro _)
                all_goals (first | omega | (rename_i hg; exact hg) | (show (i + 1) * 8 ≤ 140737488355328; omega) | (rename_i hg; exact absurd hg (by omega)) | (change (_ : Bool) = true; simp_all; done))
              refine AW_all good tabZ tabZ_ok rfl rfl ?_ ?_
              · repeat' (first | exact trivial | exact rfl | exact (fun _ _ => rfl) | apply And.intro | intro _)
                all_goals (first | omega | (rename_i hg; exact hg) | (show (i + 1) * 8 ≤ 140737488355328; omega) | (rename_i hg; exact absurd hg (by omega)) | (change (_ : Bool) = true; simp_all; done))
              refine AW_all good tabZ tabZ_ok rfl rfl ?_ ?_
              · repeat' (first | exact trivial | exact rfl | exact (fun _ _ => rfl) | apply And.intro | intro _)
                all_goals (first | omega | (rename_i hg; exact hg) | (show (i + 1) * 8 ≤ 140737488355328; omega) | (rename_i hg; exact absurd hg (by omega)) | (change (_ : Bool) = true; simp_all; done))
              refine loopH_next ⟨i + 1, hlt⟩ [2] rfl rfl ⟨SLe.of_eq rfl, SLe.of_eq rfl, SLe.of_eq rfl, SLe.of_eq rfl, SLe.of_eq rfl, SLe.of_eq rfl, SLe.of_eq (congrArg (fun z => SV.cv (iint z)) (next_int i n hlt hm)), trivial⟩ ⟨⟨rfl, _, rfl, BLe.rows rfl (fun q j hq hj => ILe.of_eq ?_)⟩, trivial⟩ ?_
              · obtain rfl : j = 0 := by
                  have : j < 1 := hj
                  omega
                have h2' : ((i : Int) == at_) = true := h2
                rcases Nat.lt_or_ge q i with h | h
                · have hb : Nat.blt q i = true := Nat.ble_eq_true_of_le h
                  show (bif Nat.blt q i then _ else _) = _
                  rw [hb]
                  rfl
                · obtain rfl : q = i := by omega
                  have hb : Nat.blt q q = false := by
                    cases hb : Nat.blt q q with
                    | false => rfl
                    | true => have : q < q := Nat.le_of_ble_eq_true hb; omega
                  have hz : q - q = 0 := Nat.sub_self q
                  show (bif Nat.blt q q then _ else _) = _
                  rw [hb]
                  simp only [hz]
                  show IV.val (.int .u64 _) = IV.val (.int .u64 (withW m at_ v q))
                  unfold withW
                  rw [h2']
                  rfl
              show n - (i + 1) < n - i
              omega
          )
        · first
          | (exfalso; simp_all; done)
          | (
              refine AW_skip ?_
              refine AW_all good tabZ tabZ_ok rfl rfl ?_ ?_
              · repeat' (first | exact trivial | exact rfl | exact (fun _ _ => rfl) | apply And.intro | intro _)
                all_goals (first | omega | (rename_i hg; exact hg) | (show (i + 1) * 8 ≤ 140737488355328; omega) | (rename_i hg; exact absurd hg (by omega)) | (change (_ : Bool) = true; simp_all; done))
              refine AW_all good tabZ tabZ_ok rfl rfl ?_ ?_
              · repeat' (first | exact trivial | exact rfl | exact (fun _ _ => rfl) | apply And.intro | intro _)
                all_goals (first | omega | (rename_i hg; exact hg) | (show (i + 1) * 8 ≤ 140737488355328; omega) | (rename_i hg; exact absurd hg (by omega)) | (change (_ : Bool) = true; simp_all; done))
              refine loopH_next ⟨i + 1, hlt⟩ [2] rfl rfl ⟨SLe.of_eq rfl, SLe.of_eq rfl, SLe.of_eq rfl, SLe.of_eq rfl, SLe.of_eq rfl, SLe.of_eq rfl, SLe.of_eq (congrArg (fun z => SV.cv (iint z)) (next_int i n hlt hm)), trivial⟩ ⟨⟨rfl, _, rfl, BLe.rows rfl (fun q j hq hj => ILe.of_eq ?_)⟩, trivial⟩ ?_
              · obtain rfl : j = 0 := by
                  have : j < 1 := hj
                  omega
                have h2' : ((i : Int) == at_) = false := h2
                rcases Nat.lt_or_ge q i with h | h
                · have hb : Nat.blt q i = true := Nat.ble_eq_true_of_le h
                  show (bif Nat.blt q i then _ else _) = _
                  rw [hb]
                  rfl
                · obtain rfl : q = i := by omega
                  have hb : Nat.blt q q = false := by
                    cases hb : Nat.blt q q with
                    | false => rfl
                    | true => have : q < q := Nat.le_of_ble_eq_true hb; omega
                  have hz : q - q = 0 := Nat.sub_self q
                  show (bif Nat.blt q q then _ else _) = _
                  rw [hb]
                  simp only [hz]
                  show IV.val (.int .u64 _) = IV.val (.int .u64 (withW m at_ v q))
                  unfold withW
                  rw [h2']
                  rfl
              show n - (i + 1) < n - i
              omega
          )
    )
  · first
    | (exfalso; simp_all; done)
    | (
        refine AW_exit ?_
        refine AW_seq ?_
        refine AW_all good tabZ tabZ_ok rfl rfl ?_ ?_
        · repeat' (first | exact trivial | exact rfl | exact (fun _ _ => rfl) | apply And.intro | intro _)
          all_goals (first | omega | (rename_i hg; exact hg) | (show (i + 1) * 8 ≤ 140737488355328; omega) | (rename_i hg; exact absurd hg (by omega)) | (change (_ : Bool) = true; simp_all; done))
        refine AW_ret (bodyQ_ret rfl ?_ (Ends.le rfl ?_ ?_))
        · repeat' (first | exact trivial | exact rfl | exact (fun _ _ => rfl) | apply And.intro | intro _)
          all_goals (first | omega | (rename_i hg; exact hg) | (show (i + 1) * 8 ≤ 140737488355328; omega) | (rename_i hg; exact absurd hg (by omega)) | (change (_ : Bool) = true; simp_all; done))
        · repeat' (first | exact trivial | exact rfl | exact (fun _ _ => rfl) | apply And.intro | intro _)
          all_goals (first | omega | (rename_i hg; exact hg) | (show (i + 1) * 8 ≤ 140737488355328; omega) | (rename_i hg; exact absurd hg (by omega)) | (change (_ : Bool) = true; simp_all; done))
        have he : i = n := by
          have : ¬ i < n := by simpa using h1
          omega
        subst he
        exact SLe.cv (CLe.imm (ILe.sl rfl id (.inr ⟨rfl, fun i j hi hj => ILe.of_eq (by rw [Nat.zero_add])⟩)))
    )

def tabA : Tab := tabAdd 44 (fun args => match args with
  | [.one (.imm (.sl 1 n _ cell)), .one (.imm (.val (.int .i64 at_))), .one (.imm (.val (.int .u64 v)))] => some (.cv (.one (uS n false (withW (wordsAt cell) at_ v))), isWords n cell ∧ n * 8 ≤ 140737488355328)
  | _ => none) tabZ
theorem tabA_ok : TabOk Try.prog tabA := by
  refine tabAdd_ok rfl (fun args r p h hp => ?_) tabZ_ok
  split at h
  · rename_i n ex cell at_ v
    simp only [Option.some.injEq, Prod.mk.injEq] at h; obtain ⟨rfl, rfl⟩ := h; exact (with44 n ex (wordsAt cell) at_ v hp.2).args (TLe.cons (words_le hp.1) (TLe.refl _))
  · cases h

theorem CLe.agg3 {a b c a' b' c' : AV} (h1 : CLe (.one a) (.one a')) (h2 : CLe (.one b) (.one b')) (h3 : CLe (.one c) (.one c')) : CLe (.agg [a, b, c]) (.agg [a', b', c']) := by
  rintro w O μ v ⟨cs, hv, hl, hr⟩
  refine ⟨cs, hv, hl, fun i y u hy hu => ?_⟩
  match i, hy with
  | 0, hy => simp at hy; subst hy; exact h1 w O μ u (hr 0 a u rfl hu)
  | 1, hy => simp at hy; subst hy; exact h2 w O μ u (hr 1 b u rfl hu)
  | 2, hy => simp at hy; subst hy; exact h3 w O μ u (hr 2 c u rfl hu)

/-- What the reference answers. -/
def refV (n : Nat) (m : Nat → Int) (k at_ x y : Int) : SV :=
  .cv (.agg [uS (bif badK k n at_ then 0 else n) false (withW m at_ (newW k x y (m at_.toNat))), .imm (.val (.int .u64 (bif badK k n at_ then 0 else ansW k x y (m at_.toNat)))), .imm (.val (.int .i64 (bif badK k n at_ then 1 else 0)))])

theorem withW_self {m : Nat → Int} {at_ : Int} (i : Nat) : m i = withW m at_ (m at_.toNat) i := by
  unfold withW
  cases h : (i : Int) == at_ with
  | false => rfl
  | true =>
    have : (i : Int) = at_ := by simpa using h
    subst this
    rfl

theorem uS_le {n n' : Nat} {ex : Bool} {a b : Nat → Int} (hn : n' = n) (h : ∀ i, a i = b i) : CLe (.one (uS n ex a)) (.one (uS n' false b)) :=
  CLe.imm (ILe.sl hn (by simp) (.inr ⟨rfl, fun i j _ _ => ILe.of_eq (by rw [h i])⟩))

theorem refbad (n : Nat) (k at_ : Int) : (bif bif bif bif decide ((n : Int) > 64) then true else decide (at_ < 0) then true else decide (at_ ≥ n) then true else decide (k < 1) then true else decide (k > 4)) = badK k n at_ := by
  have e : badK k n at_ = (decide ((n : Int) > 64) || (decide (at_ < 0) || (decide (at_ ≥ n) || (decide (k < 1) || decide (k > 4))))) := by
    rw [Bool.eq_iff_iff]
    simp only [badK, badAt, Bool.or_eq_true, Bool.not_eq_true', Bool.or_eq_false_iff, decide_eq_true_eq, decide_eq_false_iff_not, beq_eq_false_iff_ne]
    omega
  rw [e]
  cases decide ((n : Int) > 64) <;> cases decide (at_ < 0) <;> cases decide (at_ ≥ n) <;> cases decide (k < 1) <;> rfl
theorem notbad {n : Nat} {k at_ : Int} (h : badK k n at_ = false) : n ≤ 64 ∧ 0 ≤ at_ ∧ at_ < n := by
  simp only [badK, badAt, Bool.or_eq_false_iff, Bool.not_eq_false', decide_eq_true_eq, decide_eq_false_iff_not] at h
  omega
theorem four {n : Nat} {k at_ : Int} (h : badK k n at_ = false) (h1 : (k == 1) = false) (h2 : (k == 2) = false) (h3 : (k == 3) = false) : k = 4 := by
  simp only [badK, h1, h2, h3, Bool.false_or, Bool.or_eq_false_iff, Bool.not_eq_false'] at h
  simpa using h.1

theorem refdo24 (n : Nat) (ex : Bool) (m : Nat → Int) (k at_ x y : Int) : PCall Try.prog 24 [.one (uS n ex m), stepC k at_ x y] (refV n m k at_ x y) := by
  refine PCall_of (ACall_body good Try.func24 rfl 78 rfl (by simp) ?_)
  refine AW_seq ?_
  refine AW_all good tabA tabA_ok rfl rfl ?_ ?_
  · repeat' (first | exact trivial | exact rfl | exact (fun _ _ => rfl) | apply And.intro | intro _)
    all_goals (first | omega | (rename_i hg; exact hg) | (change (_ : Bool) = true; simp_all; done) | (simp_all; omega))
  refine AW_seq ?_
  refine AW_seq ?_
  refine AW_all good tabA tabA_ok rfl rfl ?_ ?_
  · repeat' (first | exact trivial | exact rfl | exact (fun _ _ => rfl) | apply And.intro | intro _)
    all_goals (first | omega | (rename_i hg; exact hg) | (change (_ : Bool) = true; simp_all; done) | (simp_all; omega))
  refine AW_cond rfl (fun h1 => ?_) (fun h1 => ?_)
  · first
    | (exfalso; simp_all; done)
    | (
        refine AW_seq ?_
        refine AW_all good tabA tabA_ok rfl rfl ?_ ?_
        · repeat' (first | exact trivial | exact rfl | exact (fun _ _ => rfl) | apply And.intro | intro _)
          all_goals (first | omega | (rename_i hg; exact hg) | (change (_ : Bool) = true; simp_all; done) | (simp_all; omega))
        refine AW_ret (bodyQ_ret rfl ?_ (Ends.le rfl ?_ ?_))
        · repeat' (first | exact trivial | exact rfl | exact (fun _ _ => rfl) | apply And.intro | intro _)
          all_goals (first | omega | (rename_i hg; exact hg) | (change (_ : Bool) = true; simp_all; done) | (simp_all; omega))
        · repeat' (first | exact trivial | exact rfl | exact (fun _ _ => rfl) | apply And.intro | intro _)
          all_goals (first | omega | (rename_i hg; exact hg) | (change (_ : Bool) = true; simp_all; done) | (simp_all; omega))
        have hb : badK k n at_ = true := (refbad n k at_).symm.trans h1
        unfold refV
        rw [hb]
        exact SLe.cv (CLe.agg3 (CLe.imm (ILe.sl rfl (by simp) (.inl rfl))) (CLe.of_eq rfl) (CLe.of_eq rfl))
    )
  · first
    | (exfalso; simp_all; done)
    | (
        refine AW_skip ?_
        refine AW_seq ?_
        have hb : badK k n at_ = false := (refbad n k at_).symm.trans h1
        have hn := notbad hb
        refine AW_all good tabA tabA_ok rfl rfl ?_ ?_
        · repeat' (first | exact trivial | exact rfl | exact (fun _ _ => rfl) | apply And.intro | intro _)
          all_goals (first | omega | (rename_i hg; exact hg) | (change (_ : Bool) = true; simp_all; done) | (simp_all; omega))
        refine AW_seq ?_
        refine AW_seq ?_
        refine AW_all good tabA tabA_ok rfl rfl ?_ ?_
        · repeat' (first | exact trivial | exact rfl | exact (fun _ _ => rfl) | apply And.intro | intro _)
          all_goals (first | omega | (rename_i hg; exact hg) | (change (_ : Bool) = true; simp_all; done) | (simp_all; omega))
        refine AW_block ?_
        refine AW_seq ?_
        refine AW_all good tabA tabA_ok rfl rfl ?_ ?_
        · repeat' (first | exact trivial | exact rfl | exact (fun _ _ => rfl) | apply And.intro | intro _)
          all_goals (first | omega | (rename_i hg; exact hg) | (change (_ : Bool) = true; simp_all; done) | (simp_all; omega))
        refine AW_cond rfl (fun h2 => ?_) (fun h2 => ?_)
        · first
          | (exfalso; simp_all; done)
          | (
              refine AW_seq ?_
              refine AW_all good tabA tabA_ok rfl rfl ?_ ?_
              · repeat' (first | exact trivial | exact rfl | exact (fun _ _ => rfl) | apply And.intro | intro _)
                all_goals (first | omega | (rename_i hg; exact hg) | (change (_ : Bool) = true; simp_all; done) | (simp_all; omega))
              refine AW_ret (bodyQ_ret rfl ?_ (Ends.le rfl ?_ ?_))
              · repeat' (first | exact trivial | exact rfl | exact (fun _ _ => rfl) | apply And.intro | intro _)
                all_goals (first | omega | (rename_i hg; exact hg) | (change (_ : Bool) = true; simp_all; done) | (simp_all; omega))
              · repeat' (first | exact trivial | exact rfl | exact (fun _ _ => rfl) | apply And.intro | intro _)
                all_goals (first | omega | (rename_i hg; exact hg) | (change (_ : Bool) = true; simp_all; done) | (simp_all; omega))
              obtain rfl : k = 1 := by simpa using h2
              unfold refV
              rw [hb]
              exact SLe.cv (CLe.agg3 (uS_le rfl fun i => withW_self i) (CLe.of_eq rfl) (CLe.of_eq rfl))
          )
        · first
          | (exfalso; simp_all; done)
          | (
              refine AW_seq ?_
              refine AW_all good tabA tabA_ok rfl rfl ?_ ?_
              · repeat' (first | exact trivial | exact rfl | exact (fun _ _ => rfl) | apply And.intro | intro _)
                all_goals (first | omega | (rename_i hg; exact hg) | (change (_ : Bool) = true; simp_all; done) | (simp_all; omega))
              refine AW_cond rfl (fun h3 => ?_) (fun h3 => ?_)
              · first
                | (exfalso; simp_all; done)
                | (
                    refine AW_seq ?_
                    refine AW_all good tabA tabA_ok rfl rfl ?_ ?_
                    · repeat' (first | exact trivial | exact rfl | exact (fun _ _ => rfl) | apply And.intro | intro _)
                      all_goals (first | omega | (rename_i hg; exact hg) | (change (_ : Bool) = true; simp_all; done) | (simp_all; omega))
                    refine AW_ret (bodyQ_ret rfl ?_ (Ends.le rfl ?_ ?_))
                    · repeat' (first | exact trivial | exact rfl | exact (fun _ _ => rfl) | apply And.intro | intro _)
                      all_goals (first | omega | (rename_i hg; exact hg) | (change (_ : Bool) = true; simp_all; done) | (simp_all; omega))
                    · repeat' (first | exact trivial | exact rfl | exact (fun _ _ => rfl) | apply And.intro | intro _)
                      all_goals (first | omega | (rename_i hg; exact hg) | (change (_ : Bool) = true; simp_all; done) | (simp_all; omega))
                    obtain rfl : k = 2 := by simpa using h3
                    unfold refV
                    rw [hb]
                    exact SLe.cv (CLe.agg3 (uS_le rfl fun i => rfl) (CLe.of_eq rfl) (CLe.of_eq rfl))
                )
              · first
                | (exfalso; simp_all; done)
                | (
                    refine AW_seq ?_
                    refine AW_all good tabA tabA_ok rfl rfl ?_ ?_
                    · repeat' (first | exact trivial | exact rfl | exact (fun _ _ => rfl) | apply And.intro | intro _)
                      all_goals (first | omega | (rename_i hg; exact hg) | (change (_ : Bool) = true; simp_all; done) | (simp_all; omega))
                    refine AW_cond rfl (fun h4 => ?_) (fun h4 => ?_)
                    · first
                      | (exfalso; simp_all; done)
                      | (
                          refine AW_seq ?_
                          refine AW_seq ?_
                          refine AW_all good tabA tabA_ok rfl rfl ?_ ?_
                          · repeat' (first | exact trivial | exact rfl | exact (fun _ _ => rfl) | apply And.intro | intro _)
                            all_goals (first | omega | (rename_i hg; exact hg) | (change (_ : Bool) = true; simp_all; done) | (simp_all; omega))
                          refine AW_cond rfl (fun h5 => ?_) (fun h5 => ?_)
                          · first
                            | (exfalso; simp_all; done)
                            | (
                                refine AW_seq ?_
                                refine AW_all good tabA tabA_ok rfl rfl ?_ ?_
                                · repeat' (first | exact trivial | exact rfl | exact (fun _ _ => rfl) | apply And.intro | intro _)
                                  all_goals (first | omega | (rename_i hg; exact hg) | (change (_ : Bool) = true; simp_all; done) | (simp_all; omega))
                                refine AW_ret (bodyQ_ret rfl ?_ (Ends.le rfl ?_ ?_))
                                · repeat' (first | exact trivial | exact rfl | exact (fun _ _ => rfl) | apply And.intro | intro _)
                                  all_goals (first | omega | (rename_i hg; exact hg) | (change (_ : Bool) = true; simp_all; done) | (simp_all; omega))
                                · repeat' (first | exact trivial | exact rfl | exact (fun _ _ => rfl) | apply And.intro | intro _)
                                  all_goals (first | omega | (rename_i hg; exact hg) | (change (_ : Bool) = true; simp_all; done) | (simp_all; omega))
                                obtain rfl : k = 3 := by simpa using h4
                                have e : (m at_.toNat == x) = false := by simpa using h5
                                have e1 : newW 3 x y (m at_.toNat) = m at_.toNat := by simp [newW, casG, e]
                                have e2 : ansW 3 x y (m at_.toNat) = 0 := by simp [ansW, casG, e]
                                unfold refV
                                rw [hb, e1, e2]
                                exact SLe.cv (CLe.agg3 (uS_le rfl fun i => withW_self i) (CLe.of_eq rfl) (CLe.of_eq rfl))
                            )
                          · first
                            | (exfalso; simp_all; done)
                            | (
                                refine AW_skip ?_
                                refine AW_seq ?_
                                refine AW_all good tabA tabA_ok rfl rfl ?_ ?_
                                · repeat' (first | exact trivial | exact rfl | exact (fun _ _ => rfl) | apply And.intro | intro _)
                                  all_goals (first | omega | (rename_i hg; exact hg) | (change (_ : Bool) = true; simp_all; done) | (simp_all; omega))
                                refine AW_ret (bodyQ_ret rfl ?_ (Ends.le rfl ?_ ?_))
                                · repeat' (first | exact trivial | exact rfl | exact (fun _ _ => rfl) | apply And.intro | intro _)
                                  all_goals (first | omega | (rename_i hg; exact hg) | (change (_ : Bool) = true; simp_all; done) | (simp_all; omega))
                                · repeat' (first | exact trivial | exact rfl | exact (fun _ _ => rfl) | apply And.intro | intro _)
                                  all_goals (first | omega | (rename_i hg; exact hg) | (change (_ : Bool) = true; simp_all; done) | (simp_all; omega))
                                obtain rfl : k = 3 := by simpa using h4
                                have e : (m at_.toNat == x) = true := by simpa using h5
                                have e1 : newW 3 x y (m at_.toNat) = y := by simp [newW, casG, e]
                                have e2 : ansW 3 x y (m at_.toNat) = 1 := by simp [ansW, casG, e]
                                unfold refV
                                rw [hb, e1, e2]
                                exact SLe.cv (CLe.agg3 (uS_le rfl fun i => rfl) (CLe.of_eq rfl) (CLe.of_eq rfl))
                            )
                      )
                    · first
                      | (exfalso; simp_all; done)
                      | (
                          refine AW_skip ?_
                          refine AW_seq ?_
                          refine AW_all good tabA tabA_ok rfl rfl ?_ ?_
                          · repeat' (first | exact trivial | exact rfl | exact (fun _ _ => rfl) | apply And.intro | intro _)
                            all_goals (first | omega | (rename_i hg; exact hg) | (change (_ : Bool) = true; simp_all; done) | (simp_all; omega))
                          refine AW_ret (bodyQ_ret rfl ?_ (Ends.le rfl ?_ ?_))
                          · repeat' (first | exact trivial | exact rfl | exact (fun _ _ => rfl) | apply And.intro | intro _)
                            all_goals (first | omega | (rename_i hg; exact hg) | (change (_ : Bool) = true; simp_all; done) | (simp_all; omega))
                          · repeat' (first | exact trivial | exact rfl | exact (fun _ _ => rfl) | apply And.intro | intro _)
                            all_goals (first | omega | (rename_i hg; exact hg) | (change (_ : Bool) = true; simp_all; done) | (simp_all; omega))
                          obtain rfl : k = 4 := four hb h2 h3 h4
                          unfold refV
                          rw [hb]
                          exact SLe.cv (CLe.agg3 (uS_le rfl fun i => rfl) (CLe.of_eq rfl) (CLe.of_eq rfl))
                      )
                )
          )
    )
end Go.Proofs.Ytndfcbcmeeemfaa.Abs

/-
  THE LAW WordCalls as a contract.
-/
namespace Go.Proofs.Ytndfcbcmeeemfaa.Abs
open Go
set_option maxRecDepth 10000

def tabC : Tab := tabAdd 24 (fun args => match args with
  | [.one (.imm (.sl 1 n _ cell)), .agg [.imm (.val (.int .i64 k)), .imm (.val (.int .i64 at_)), .imm (.val (.int .u64 x)), .imm (.val (.int .u64 y))]] => some (refV n (wordsAt cell) k at_ x y, isWords n cell)
  | _ => none) tabA
theorem tabC_ok : TabOk Try.prog tabC := by
  refine tabAdd_ok rfl (fun args r p h hp => ?_) tabA_ok
  split at h
  · rename_i n ex cell k at_ x y
    simp only [Option.some.injEq, Prod.mk.injEq] at h; obtain ⟨rfl, rfl⟩ := h; exact (refdo24 n ex (wordsAt cell) k at_ x y).args (TLe.cons (words_le hp) (TLe.refl _))
  · cases h

theorem bad1 (n : Nat) (at_ : Int) : badK 1 n at_ = badAt n at_ := rfl
theorem bad2 (n : Nat) (at_ : Int) : badK 2 n at_ = badAt n at_ := rfl
theorem bad3 (n : Nat) (at_ : Int) : badK 3 n at_ = badAt n at_ := rfl
theorem bad4 (n : Nat) (at_ : Int) : badK 4 n at_ = badAt n at_ := rfl
theorem new2 (x y w : Int) : newW 2 x y w = x := rfl
theorem new3 (x y w : Int) : newW 3 x y w = (casG x y w).1 := rfl
theorem new4 (x y w : Int) : newW 4 x y w = IntKind.u64.wrap (w + x) := rfl
theorem ans1 (x y w : Int) : ansW 1 x y w = w := rfl
theorem ans3 (x y w : Int) : ansW 3 x y w = (casG x y w).2 := rfl
theorem ans4 (x y w : Int) : ansW 4 x y w = w := rfl
theorem put_with (n : Nat) (m : Nat → Int) (at_ v : Int) : sameW (bif badAt n at_ then 0 else n) (putW m at_ v) (bif badAt n at_ then 0 else n) (withW m at_ v) = true := by
  cases hb : badAt n at_ with
  | true => simp [sameW]
  | false =>
    have h0 : 0 ≤ at_ := by
      simp only [badAt, Bool.or_eq_false_iff, decide_eq_false_iff_not] at hb
      omega
    refine sameW_of fun i => ?_
    have : Nat.beq i at_.toNat = ((i : Int) == at_) := by
      cases h : (i : Int) == at_ with
      | true =>
        have : (i : Int) = at_ := by simpa using h
        subst this
        simp
      | false =>
        have h1 : ¬ (i : Int) = at_ := by simpa using h
        cases h2 : Nat.beq i at_.toNat with
        | false => rfl
        | true => exact absurd (by have := Nat.eq_of_beq_eq_true h2; omega) h1
    unfold putW withW
    rw [this]
theorem put_with' (k : Int) (n : Nat) (m : Nat → Int) (at_ v : Int) : sameW (bif badK k n at_ then 0 else n) (putW m at_ v) (bif badK k n at_ then 0 else n) (withW m at_ v) = true := by
  cases hb : badK k n at_ with
  | true => simp [sameW]
  | false =>
    have h1 : badAt n at_ = false := by
      simp only [badK, Bool.or_eq_false_iff] at hb
      exact hb.2
    have := put_with n m at_ v
    rw [h1] at this
    exact this
theorem put_withL (n : Nat) (m : Nat → Int) (at_ v : Int) : sameW (bif badAt n at_ then 0 else n) (fun i => bif Nat.beq i at_.toNat then v else m i) (bif badAt n at_ then 0 else n) (withW m at_ v) = true := put_with n m at_ v
theorem refl2 (x : Int) : (x != x) = false := by simp
theorem calls6 (n : Nat) (ex : Bool) (m : Nat → Int) (k at_ x y : Int) : PCall Try.prog 6 [.one (uS n ex m), stepC k at_ x y] (.cv (ibool true)) := by
  refine PCall_of (ACall_body good Try.func6 rfl 190 rfl (by simp) ?_)
  refine AW_seq ?_
  refine AW_eff good tabC tabC_ok et0 (et0_ok _) [0] rfl rfl ?_ ?_
  · repeat' (first | exact trivial | exact rfl | exact (fun _ _ => rfl) | apply And.intro | intro _)
    all_goals (first | omega | (rename_i hg; exact hg) | (rename_i hg; change (_ : Bool) = true; rw [hg]; rfl) | (change (_ : Bool) = true; simp_all; done) | (simp_all; done))
  refine AW_seq ?_
  refine AW_all good tabC tabC_ok rfl rfl ?_ ?_
  · repeat' (first | exact trivial | exact rfl | exact (fun _ _ => rfl) | apply And.intro | intro _)
    all_goals (first | omega | (rename_i hg; exact hg) | (rename_i hg; change (_ : Bool) = true; rw [hg]; rfl) | (change (_ : Bool) = true; simp_all; done) | (simp_all; done))
  refine AW_seq ?_
  refine AW_all good tabC tabC_ok rfl rfl ?_ ?_
  · repeat' (first | exact trivial | exact rfl | exact (fun _ _ => rfl) | apply And.intro | intro _)
    all_goals (first | omega | (rename_i hg; exact hg) | (rename_i hg; change (_ : Bool) = true; rw [hg]; rfl) | (change (_ : Bool) = true; simp_all; done) | (simp_all; done))
  refine AW_seq ?_
  refine AW_all good tabC tabC_ok rfl rfl ?_ ?_
  · repeat' (first | exact trivial | exact rfl | exact (fun _ _ => rfl) | apply And.intro | intro _)
    all_goals (first | omega | (rename_i hg; exact hg) | (rename_i hg; change (_ : Bool) = true; rw [hg]; rfl) | (change (_ : Bool) = true; simp_all; done) | (simp_all; done))
  refine AW_seq ?_
  refine AW_all good tabC tabC_ok rfl rfl ?_ ?_
  · repeat' (first | exact trivial | exact rfl | exact (fun _ _ => rfl) | apply And.intro | intro _)
    all_goals (first | omega | (rename_i hg; exact hg) | (rename_i hg; change (_ : Bool) = true; rw [hg]; rfl) | (change (_ : Bool) = true; simp_all; done) | (simp_all; done))
  refine AW_seq ?_
  refine AW_all good tabC tabC_ok rfl rfl ?_ ?_
  · repeat' (first | exact trivial | exact rfl | exact (fun _ _ => rfl) | apply And.intro | intro _)
    all_goals (first | omega | (rename_i hg; exact hg) | (rename_i hg; change (_ : Bool) = true; rw [hg]; rfl) | (change (_ : Bool) = true; simp_all; done) | (simp_all; done))
  refine AW_seq ?_
  refine AW_all good tabC tabC_ok rfl rfl ?_ ?_
  · repeat' (first | exact trivial | exact rfl | exact (fun _ _ => rfl) | apply And.intro | intro _)
    all_goals (first | omega | (rename_i hg; exact hg) | (rename_i hg; change (_ : Bool) = true; rw [hg]; rfl) | (change (_ : Bool) = true; simp_all; done) | (simp_all; done))
  refine AW_seq ?_
  refine AW_all good tabC tabC_ok rfl rfl ?_ ?_
  · repeat' (first | exact trivial | exact rfl | exact (fun _ _ => rfl) | apply And.intro | intro _)
    all_goals (first | omega | (rename_i hg; exact hg) | (rename_i hg; change (_ : Bool) = true; rw [hg]; rfl) | (change (_ : Bool) = true; simp_all; done) | (simp_all; done))
  refine AW_seq ?_
  refine AW_all good tabC tabC_ok rfl rfl ?_ ?_
  · repeat' (first | exact trivial | exact rfl | exact (fun _ _ => rfl) | apply And.intro | intro _)
    all_goals (first | omega | (rename_i hg; exact hg) | (rename_i hg; change (_ : Bool) = true; rw [hg]; rfl) | (change (_ : Bool) = true; simp_all; done) | (simp_all; done))
  refine AW_seq ?_
  refine AW_all good tabC tabC_ok rfl rfl ?_ ?_
  · repeat' (first | exact trivial | exact rfl | exact (fun _ _ => rfl) | apply And.intro | intro _)
    all_goals (first | omega | (rename_i hg; exact hg) | (rename_i hg; change (_ : Bool) = true; rw [hg]; rfl) | (change (_ : Bool) = true; simp_all; done) | (simp_all; done))
  refine AW_seq ?_
  refine AW_all good tabC tabC_ok rfl rfl ?_ ?_
  · repeat' (first | exact trivial | exact rfl | exact (fun _ _ => rfl) | apply And.intro | intro _)
    all_goals (first | omega | (rename_i hg; exact hg) | (rename_i hg; change (_ : Bool) = true; rw [hg]; rfl) | (change (_ : Bool) = true; simp_all; done) | (simp_all; done))
  refine AW_seq ?_
  refine AW_all good tabC tabC_ok rfl rfl ?_ ?_
  · repeat' (first | exact trivial | exact rfl | exact (fun _ _ => rfl) | apply And.intro | intro _)
    all_goals (first | omega | (rename_i hg; exact hg) | (rename_i hg; change (_ : Bool) = true; rw [hg]; rfl) | (change (_ : Bool) = true; simp_all; done) | (simp_all; done))
  refine AW_seq ?_
  refine AW_seq ?_
  refine AW_all good tabC tabC_ok rfl rfl ?_ ?_
  · repeat' (first | exact trivial | exact rfl | exact (fun _ _ => rfl) | apply And.intro | intro _)
    all_goals (first | omega | (rename_i hg; exact hg) | (rename_i hg; change (_ : Bool) = true; rw [hg]; rfl) | (change (_ : Bool) = true; simp_all; done) | (simp_all; done))
  refine AW_cond rfl (fun h1 => ?_) (fun h1 => ?_)
  · first
    | (exfalso; simp_all; done)
    | (
        refine AW_seq ?_
        refine AW_all good tabC tabC_ok rfl rfl ?_ ?_
        · repeat' (first | exact trivial | exact rfl | exact (fun _ _ => rfl) | apply And.intro | intro _)
          all_goals (first | omega | (rename_i hg; exact hg) | (rename_i hg; change (_ : Bool) = true; rw [hg]; rfl) | (change (_ : Bool) = true; simp_all; done) | (simp_all; done))
        refine AW_ret (bodyQ_ret rfl ?_ (Ends.intro rfl ?_ ?_))
        · repeat' (first | exact trivial | exact rfl | exact (fun _ _ => rfl) | apply And.intro | intro _)
          all_goals (first | omega | (rename_i hg; exact hg) | (rename_i hg; change (_ : Bool) = true; rw [hg]; rfl) | (change (_ : Bool) = true; simp_all; done) | (simp_all; done))
        · repeat' (first | exact trivial | exact rfl | exact (fun _ _ => rfl) | apply And.intro | intro _)
          all_goals (first | omega | (rename_i hg; exact hg) | (rename_i hg; change (_ : Bool) = true; rw [hg]; rfl) | (change (_ : Bool) = true; simp_all; done) | (simp_all; done))
        exfalso
        simp only [wordsAt_eq, bad1, bad2, bad3, new2, new3, ans1, ans3, put_with, refl2, beq_self_eq_true, Bool.not_true, cond_false] at h1
        simp at h1
    )
  · first
    | (exfalso; simp_all; done)
    | (
        refine AW_skip ?_
        refine AW_seq ?_
        refine AW_all good tabC tabC_ok rfl rfl ?_ ?_
        · repeat' (first | exact trivial | exact rfl | exact (fun _ _ => rfl) | apply And.intro | intro _)
          all_goals (first | omega | (rename_i hg; exact hg) | (rename_i hg; change (_ : Bool) = true; rw [hg]; rfl) | (change (_ : Bool) = true; simp_all; done) | (simp_all; done))
        refine AW_ret (bodyQ_ret rfl ?_ (Ends.intro rfl ?_ ?_))
        · repeat' (first | exact trivial | exact rfl | exact (fun _ _ => rfl) | apply And.intro | intro _)
          all_goals (first | omega | (rename_i hg; exact hg) | (rename_i hg; change (_ : Bool) = true; rw [hg]; rfl) | (change (_ : Bool) = true; simp_all; done) | (simp_all; done))
        · repeat' (first | exact trivial | exact rfl | exact (fun _ _ => rfl) | apply And.intro | intro _)
          all_goals (first | omega | (rename_i hg; exact hg) | (rename_i hg; change (_ : Bool) = true; rw [hg]; rfl) | (change (_ : Bool) = true; simp_all; done) | (simp_all; done))
        refine ret_bool ?_
        simp only [wordsAt_eq, bad4, new4, ans4, put_withL, put_with', beq_self_eq_true, cond_true]
    )
end Go.Proofs.Ytndfcbcmeeemfaa.Abs
