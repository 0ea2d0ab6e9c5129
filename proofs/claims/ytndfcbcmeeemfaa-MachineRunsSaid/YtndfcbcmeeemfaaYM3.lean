/-
  THE REFERENCE OF machine (9): which processes may be; which are alike.
-/
import Derived.Test.YtndfcbcmeeemfaaYM2
namespace Go.Proofs.Ytndfcbcmeeemfaa.Abs
open Go
set_option maxRecDepth 10000

def okI (p : Ins) (n : Int) : Bool := !(bif bif bif bif bif decide (p.kd < 1) then true else decide (p.kd > 8) then true else decide (p.rg < 0) then true else decide (p.rg > 3) then true else decide (p.at_ < 0) then true else decide (p.at_ > 63)) &&
  !(bif bif p.kd == 6 then bif decide (p.b < 0) then true else decide (p.b > 3) else false then true else bif p.kd == 7 then bif decide (p.b < 0) then true else decide (p.b ≥ n) else false)
theorem or_range (x h : Int) : (bif decide (x < 0) then true else decide (x ≥ h)) = !(decide (x ≥ 0) && decide (x < h)) := by
  rcases Decidable.em (x < 0) with h1 | h1
  · rw [decide_eq_true h1, decide_eq_false (show ¬ x ≥ 0 by omega)]
    rfl
  · rw [decide_eq_false h1, decide_eq_true (show x ≥ 0 by omega)]
    rcases Decidable.em (x < h) with h2 | h2
    · rw [decide_eq_true h2, decide_eq_false (show ¬ x ≥ h by omega)]
      rfl
    · rw [decide_eq_false h2, decide_eq_true (show x ≥ h by omega)]
      rfl
theorem okI_eq (p : Ins) (n : Int) : okI p n = mayI p n := by
  have h1 : (bif bif bif bif bif decide (p.kd < 1) then true else decide (p.kd > 8) then true else decide (p.rg < 0) then true else decide (p.rg > 3) then true else decide (p.at_ < 0) then true else decide (p.at_ > 63)) = badIns p := by
    rw [← bad_ins p]
    have e1 : decide (p.rg > 3) = decide (p.rg ≥ 4) := decide_eq_decide.2 (by omega)
    have e2 : decide (p.at_ > 63) = decide (p.at_ ≥ 64) := decide_eq_decide.2 (by omega)
    rw [e1, e2]
  have h2 : (bif decide (p.b < 0) then true else decide (p.b > 3)) = !(decide (p.b ≥ 0) && decide (p.b < 4)) := by
    rw [← or_range p.b 4]
    have e1 : decide (p.b > 3) = decide (p.b ≥ 4) := decide_eq_decide.2 (by omega)
    rw [e1]
  unfold okI mayI
  rw [h1, h2, or_range p.b n]
  cases badIns p with
  | true => rfl
  | false =>
    cases h6 : p.kd == 6 with
    | true =>
      have h7 : (p.kd == 7) = false := by
        have : p.kd = 6 := by simpa using h6
        rw [this]
        rfl
      rw [h7]
      cases decide (p.b ≥ 0) && decide (p.b < 4) <;> rfl
    | false =>
      cases h7 : p.kd == 7 with
      | true => cases decide (p.b ≥ 0) && decide (p.b < n) <;> rfl
      | false => rfl
theorem may_no {p : Prc} {i : Nat} (hi : i < p.n) (h : mayI (p.prog i) p.n = false) : mayP p = false := by
  cases hp : mayP p with
  | false => rfl
  | true =>
    obtain ⟨_, _, _, _, _, _, h7⟩ := may_facts hp
    rw [h7 i hi] at h
    cases h
theorem may_all {p : Prc} (h : ∀ k, k < p.n → mayI (p.prog k) p.n = true) : anyB (fun i => !mayI (p.prog i) p.n) p.n = false := by
  unfold anyB
  rw [List.any_eq_false]
  intro i hi
  rw [h i (List.mem_range.1 hi)]
  simp

theorem may34 (p : Prc) (hpm : p.n ≤ maxLen) : PCall Try.prog 34 [prcC p] (.cv (ibool (mayP p))) := by
  obtain ⟨n, prog, pat, r0, r1, r2, r3, done, took⟩ := p
  dsimp only at hpm
  refine PCall_of (ACall_body good Try.func34 rfl 101 rfl (by simp) ?_)
  refine AW_seq ?_
  refine AW_all good tabM tabM_ok rfl rfl ?_ ?_
  · repeat' (first | exact trivial | exact rfl | exact (fun _ _ => rfl) | apply And.intro | intro _)
    all_goals (first | omega | decide | exact prog_lit _ _ | exact procs_lit _ _ | (rename_i hg; exact hg) | (rename_i hg; change (_ : Bool) = true; rw [hg]; rfl) | (change (_ : Bool) = true; simp_all; done))
  refine AW_seq ?_
  refine AW_all good tabM tabM_ok rfl rfl ?_ ?_
  · repeat' (first | exact trivial | exact rfl | exact (fun _ _ => rfl) | apply And.intro | intro _)
    all_goals (first | omega | decide | exact prog_lit _ _ | exact procs_lit _ _ | (rename_i hg; exact hg) | (rename_i hg; change (_ : Bool) = true; rw [hg]; rfl) | (change (_ : Bool) = true; simp_all; done))
  refine AW_seq ?_
  refine AW_seq ?_
  refine AW_all good tabM tabM_ok rfl rfl ?_ ?_
  · repeat' (first | exact trivial | exact rfl | exact (fun _ _ => rfl) | apply And.intro | intro _)
    all_goals (first | omega | decide | exact prog_lit _ _ | exact procs_lit _ _ | (rename_i hg; exact hg) | (rename_i hg; change (_ : Bool) = true; rw [hg]; rfl) | (change (_ : Bool) = true; simp_all; done))
  refine AW_block ?_
  refine AW_loopH 1 (fun j : { i : Nat // i ≤ n ∧ ∀ k, k < i → mayI (prog k) n = true } => [(1, .cv (.one (.own 0 0 0 0))), (3, .cv (iint n)), (10, .cv (.one (.imm (progI n prog)))), (11, .cv (iint n)), (12, .cv (iint j.1))]) (fun _ => [(0, .var 54 [.imm (progI n prog), .imm (.val (.int .i64 pat)), .imm (.val (.int .u64 r0)), .imm (.val (.int .u64 r1)), .imm (.val (.int .u64 r2)), .imm (.val (.int .u64 r3)), .imm (.val (.bool done)), .imm (.val (.int .i64 took))])]) (fun j => n - j.1) ⟨0, Nat.zero_le _, fun k hk => absurd hk (Nat.not_lt_zero k)⟩ [0] rfl rfl ?_ ?_ ?_
  · exact ⟨SLe.of_eq rfl, SLe.of_eq rfl, SLe.of_eq rfl, SLe.of_eq rfl, SLe.of_eq rfl, trivial⟩
  · exact ⟨⟨rfl, _, rfl, BLe.of_eq rfl⟩, trivial⟩
  rintro ⟨i, hi, hk⟩
  dsimp only
  refine AW_seq ?_
  refine AW_all good tabM tabM_ok rfl rfl ?_ ?_
  · repeat' (first | exact trivial | exact rfl | exact (fun _ _ => rfl) | apply And.intro | intro _)
    all_goals (first | omega | decide | exact prog_lit _ _ | exact procs_lit _ _ | (rename_i hg; exact hg) | (rename_i hg; change (_ : Bool) = true; rw [hg]; rfl) | (change (_ : Bool) = true; simp_all; done))
  refine AW_seq ?_
  refine AW_cond rfl (fun h1 => ?_) (fun h1 => ?_)
  · first
    | (exfalso; simp_all; done)
    | (
        refine AW_skip ?_
        refine AW_seq ?_
        refine AW_block ?_
        refine AW_seq ?_
        have hlt : i < n := by simpa using h1
        refine AW_all good tabM tabM_ok rfl rfl ?_ ?_
        · repeat' (first | exact trivial | exact rfl | exact (fun _ _ => rfl) | apply And.intro | intro _)
          all_goals (first | omega | decide | exact prog_lit _ _ | exact procs_lit _ _ | (rename_i hg; exact hg) | (rename_i hg; change (_ : Bool) = true; rw [hg]; rfl) | (change (_ : Bool) = true; simp_all; done))
        refine AW_seq ?_
        refine AW_seq ?_
        refine AW_all good tabM tabM_ok rfl rfl ?_ ?_
        · repeat' (first | exact trivial | exact rfl | exact (fun _ _ => rfl) | apply And.intro | intro _)
          all_goals (first | omega | decide | exact prog_lit _ _ | exact procs_lit _ _ | (rename_i hg; exact hg) | (rename_i hg; change (_ : Bool) = true; rw [hg]; rfl) | (change (_ : Bool) = true; simp_all; done))
        refine AW_cond rfl (fun h2 => ?_) (fun h2 => ?_)
        · first
          | (exfalso; simp_all; done)
          | (
              refine AW_seq ?_
              refine AW_all good tabM tabM_ok rfl rfl ?_ ?_
              · repeat' (first | exact trivial | exact rfl | exact (fun _ _ => rfl) | apply And.intro | intro _)
                all_goals (first | omega | decide | exact prog_lit _ _ | exact procs_lit _ _ | (rename_i hg; exact hg) | (rename_i hg; change (_ : Bool) = true; rw [hg]; rfl) | (change (_ : Bool) = true; simp_all; done))
              refine AW_ret (bodyQ_ret rfl ?_ (Ends.intro rfl ?_ ?_))
              · repeat' (first | exact trivial | exact rfl | exact (fun _ _ => rfl) | apply And.intro | intro _)
                all_goals (first | omega | decide | exact prog_lit _ _ | exact procs_lit _ _ | (rename_i hg; exact hg) | (rename_i hg; change (_ : Bool) = true; rw [hg]; rfl) | (change (_ : Bool) = true; simp_all; done))
              · repeat' (first | exact trivial | exact rfl | exact (fun _ _ => rfl) | apply And.intro | intro _)
                all_goals (first | omega | decide | exact prog_lit _ _ | exact procs_lit _ _ | (rename_i hg; exact hg) | (rename_i hg; change (_ : Bool) = true; rw [hg]; rfl) | (change (_ : Bool) = true; simp_all; done))
              have hno : okI (prog (i : Int).toNat) n = false := by
                unfold okI
                rw [h2]
                rfl
              have hno : okI (prog i) n = _ := hno
              rw [okI_eq] at hno
              exact ret_bool (may_no (p := ⟨n, prog, pat, r0, r1, r2, r3, done, took⟩) hlt hno).symm
          )
        · first
          | (exfalso; simp_all; done)
          | (
              refine AW_skip ?_
              refine AW_seq ?_
              refine AW_all good tabM tabM_ok rfl rfl ?_ ?_
              · repeat' (first | exact trivial | exact rfl | exact (fun _ _ => rfl) | apply And.intro | intro _)
                all_goals (first | omega | decide | exact prog_lit _ _ | exact procs_lit _ _ | (rename_i hg; exact hg) | (rename_i hg; change (_ : Bool) = true; rw [hg]; rfl) | (change (_ : Bool) = true; simp_all; done))
              refine AW_cond rfl (fun h3 => ?_) (fun h3 => ?_)
              · first
                | (exfalso; simp_all; done)
                | (
                    refine AW_seq ?_
                    refine AW_all good tabM tabM_ok rfl rfl ?_ ?_
                    · repeat' (first | exact trivial | exact rfl | exact (fun _ _ => rfl) | apply And.intro | intro _)
                      all_goals (first | omega | decide | exact prog_lit _ _ | exact procs_lit _ _ | (rename_i hg; exact hg) | (rename_i hg; change (_ : Bool) = true; rw [hg]; rfl) | (change (_ : Bool) = true; simp_all; done))
                    refine AW_ret (bodyQ_ret rfl ?_ (Ends.intro rfl ?_ ?_))
                    · repeat' (first | exact trivial | exact rfl | exact (fun _ _ => rfl) | apply And.intro | intro _)
                      all_goals (first | omega | decide | exact prog_lit _ _ | exact procs_lit _ _ | (rename_i hg; exact hg) | (rename_i hg; change (_ : Bool) = true; rw [hg]; rfl) | (change (_ : Bool) = true; simp_all; done))
                    · repeat' (first | exact trivial | exact rfl | exact (fun _ _ => rfl) | apply And.intro | intro _)
                      all_goals (first | omega | decide | exact prog_lit _ _ | exact procs_lit _ _ | (rename_i hg; exact hg) | (rename_i hg; change (_ : Bool) = true; rw [hg]; rfl) | (change (_ : Bool) = true; simp_all; done))
                    have hno : okI (prog (i : Int).toNat) n = false := by
                      unfold okI
                      rw [h2, h3]
                      rfl
                    have hno : okI (prog i) n = _ := hno
                    rw [okI_eq] at hno
                    exact ret_bool (may_no (p := ⟨n, prog, pat, r0, r1, r2, r3, done, took⟩) hlt hno).symm
                )
              · first
                | (exfalso; simp_all; done)
                | (
                    refine AW_skip ?_
                    refine AW_all good tabM tabM_ok rfl rfl ?_ ?_
                    · repeat' (first | exact trivial | exact rfl | exact (fun _ _ => rfl) | apply And.intro | intro _)
                      all_goals (first | omega | decide | exact prog_lit _ _ | exact procs_lit _ _ | (rename_i hg; exact hg) | (rename_i hg; change (_ : Bool) = true; rw [hg]; rfl) | (change (_ : Bool) = true; simp_all; done))
                    have hno : okI (prog (i : Int).toNat) n = true := by
                      unfold okI
                      rw [h2, h3]
                      rfl
                    have hno : okI (prog i) n = _ := hno
                    rw [okI_eq] at hno
                    refine loopH_next ⟨i + 1, hlt, fun k hk' => ?_⟩ [0] rfl rfl ⟨SLe.of_eq rfl, SLe.of_eq rfl, SLe.of_eq rfl, SLe.of_eq rfl, SLe.of_eq (congrArg (fun z => SV.cv (iint z)) (next_int i n hlt hpm)), trivial⟩ ⟨⟨rfl, _, rfl, BLe.of_eq rfl⟩, trivial⟩ ?_
                    · rcases Nat.lt_succ_iff_lt_or_eq.1 hk' with h | h
                      · exact hk k h
                      · rw [h]; exact hno
                    show n - (i + 1) < n - i
                    omega
                )
          )
    )
  · first
    | (exfalso; simp_all; done)
    | (
        refine AW_exit ?_
        refine AW_seq ?_
        refine AW_all good tabM tabM_ok rfl rfl ?_ ?_
        · repeat' (first | exact trivial | exact rfl | exact (fun _ _ => rfl) | apply And.intro | intro _)
          all_goals (first | omega | decide | exact prog_lit _ _ | exact procs_lit _ _ | (rename_i hg; exact hg) | (rename_i hg; change (_ : Bool) = true; rw [hg]; rfl) | (change (_ : Bool) = true; simp_all; done))
        refine AW_ret (bodyQ_ret rfl ?_ (Ends.intro rfl ?_ ?_))
        · repeat' (first | exact trivial | exact rfl | exact (fun _ _ => rfl) | apply And.intro | intro _)
          all_goals (first | omega | decide | exact prog_lit _ _ | exact procs_lit _ _ | (rename_i hg; exact hg) | (rename_i hg; change (_ : Bool) = true; rw [hg]; rfl) | (change (_ : Bool) = true; simp_all; done))
        · repeat' (first | exact trivial | exact rfl | exact (fun _ _ => rfl) | apply And.intro | intro _)
          all_goals (first | omega | decide | exact prog_lit _ _ | exact procs_lit _ _ | (rename_i hg; exact hg) | (rename_i hg; change (_ : Bool) = true; rw [hg]; rfl) | (change (_ : Bool) = true; simp_all; done))
        have he : i = n := by
          have : ¬ i < n := by simpa using h1
          omega
        subst he
        refine ret_bool ?_
        unfold mayP
        rw [may_all (p := ⟨i, prog, pat, r0, r1, r2, r3, done, took⟩) hk, show decide (((i : Nat) : Int) ≥ 1) = decide ((i : Int) > 0) from decide_eq_decide.2 (by omega)]
        cases decide ((i : Int) > 0) <;> cases decide ((i : Int) ≤ 64) <;> cases decide (pat ≥ 0) <;> cases decide (pat < (i : Int)) <;> cases decide (took ≥ 0) <;> cases decide (took ≤ 1099511627776) <;> rfl
    )

def tabN : Tab := tabAdd 34 (fun args => match args with
  | [c] => match asPrc c with
    | some (p, q) => some (.cv (ibool (mayP p)), q ∧ p.n ≤ maxLen)
    | none => none
  | _ => none) (tabAdd 30 (fun args => match args with
  | [] => some (.cv (ibool true), True)
  | _ => none) tabM)
theorem tabN_ok : TabOk Try.prog tabN := by
  refine tabAdd_ok rfl (fun args r p h hp => ?_) (tabAdd_ok rfl (fun args r p h hp => ?_) tabM_ok)
  · split at h
    · split at h
      · rename_i hc
        simp only [Option.some.injEq, Prod.mk.injEq] at h; obtain ⟨rfl, rfl⟩ := h; exact (may34 _ hp.2).args (TLe.cons (asPrc_le hc hp.1) TLe.nil)
      · cases h
    · cases h
  · split at h
    · simp only [Option.some.injEq, Prod.mk.injEq] at h; obtain ⟨rfl, rfl⟩ := h; exact alive30
    · cases h

theorem all29 (n : Nat) (ex : Bool) (l : Nat → Prc) (hlm : ∀ i, i < n → (l i).n ≤ maxLen) : PCall Try.prog 29 [.one (prcS n ex l)] (.cv (ibool (mayL n l))) := by
  refine PCall_of (ACall_body good Try.func29 rfl 18 rfl (by simp) ?_)
  refine AW_lenle 0 rfl (fun hm => ?_)
  refine AW_seq ?_
  refine AW_all good tabN tabN_ok rfl rfl ?_ ?_
  · repeat' (first | exact trivial | exact rfl | exact (fun _ _ => rfl) | apply And.intro | intro _)
    all_goals (first | omega | exact prog_lit _ _ | exact procs_lit _ _ | exact hlm i hlt)
  refine AW_seq ?_
  refine AW_seq ?_
  refine AW_all good tabN tabN_ok rfl rfl ?_ ?_
  · repeat' (first | exact trivial | exact rfl | exact (fun _ _ => rfl) | apply And.intro | intro _)
    all_goals (first | omega | exact prog_lit _ _ | exact procs_lit _ _ | exact hlm i hlt)
  refine AW_block ?_
  refine AW_loopH 0 (fun j : { i : Nat // i ≤ n ∧ ∀ k, k < i → mayP (l k) = true } => [(0, .cv (.one (prcS n ex l))), (5, .cv (.one (prcS n ex l))), (6, .cv (iint n)), (7, .cv (iint j.1))]) (fun _ => []) (fun j => n - j.1) ⟨0, Nat.zero_le _, fun k hk => absurd hk (Nat.not_lt_zero k)⟩ [] rfl rfl ?_ trivial ?_
  · exact ⟨SLe.of_eq rfl, SLe.of_eq rfl, SLe.of_eq rfl, SLe.of_eq rfl, trivial⟩
  rintro ⟨i, hi, hk⟩
  dsimp only
  refine AW_seq ?_
  refine AW_all good tabN tabN_ok rfl rfl ?_ ?_
  · repeat' (first | exact trivial | exact rfl | exact (fun _ _ => rfl) | apply And.intro | intro _)
    all_goals (first | omega | exact prog_lit _ _ | exact procs_lit _ _ | exact hlm i hlt)
  refine AW_seq ?_
  refine AW_cond rfl (fun h1 => ?_) (fun h1 => ?_)
  · first
    | (exfalso; simp_all; done)
    | (
        refine AW_skip ?_
        refine AW_seq ?_
        refine AW_block ?_
        refine AW_seq ?_
        have hlt : i < n := by simpa using h1
        refine AW_all good tabN tabN_ok rfl rfl ?_ ?_
        · repeat' (first | exact trivial | exact rfl | exact (fun _ _ => rfl) | apply And.intro | intro _)
          all_goals (first | omega | exact prog_lit _ _ | exact procs_lit _ _ | exact hlm i hlt)
        refine AW_seq ?_
        refine AW_all good tabN tabN_ok rfl rfl ?_ ?_
        · repeat' (first | exact trivial | exact rfl | exact (fun _ _ => rfl) | apply And.intro | intro _)
          all_goals (first | omega | exact prog_lit _ _ | exact procs_lit _ _ | exact hlm i hlt)
        refine AW_cond rfl (fun h2 => ?_) (fun h2 => ?_)
        · first
          | (exfalso; simp_all; done)
          | (
              refine AW_seq ?_
              refine AW_all good tabN tabN_ok rfl rfl ?_ ?_
              · repeat' (first | exact trivial | exact rfl | exact (fun _ _ => rfl) | apply And.intro | intro _)
                all_goals (first | omega | exact prog_lit _ _ | exact procs_lit _ _ | exact hlm i hlt)
              refine AW_ret (bodyQ_ret rfl ?_ (Ends.intro rfl ?_ ?_))
              · repeat' (first | exact trivial | exact rfl | exact (fun _ _ => rfl) | apply And.intro | intro _)
                all_goals (first | omega | exact prog_lit _ _ | exact procs_lit _ _ | exact hlm i hlt)
              · repeat' (first | exact trivial | exact rfl | exact (fun _ _ => rfl) | apply And.intro | intro _)
                all_goals (first | omega | exact prog_lit _ _ | exact procs_lit _ _ | exact hlm i hlt)
              have hno : mayP (l i) = false := by
                have h : (!mayP (l i)) = true := h2
                simpa using h
              refine ret_bool ?_
              symm
              cases hq : mayL n l with
              | false => rfl
              | true =>
                have := (mayL_facts hq).2 i hlt
                rw [hno] at this
                cases this
          )
        · first
          | (exfalso; simp_all; done)
          | (
              refine AW_skip ?_
              refine AW_all good tabN tabN_ok rfl rfl ?_ ?_
              · repeat' (first | exact trivial | exact rfl | exact (fun _ _ => rfl) | apply And.intro | intro _)
                all_goals (first | omega | exact prog_lit _ _ | exact procs_lit _ _ | exact hlm i hlt)
              have hno : mayP (l i) = true := by
                have h : (!mayP (l i)) = false := h2
                simpa using h
              refine loopH_next ⟨i + 1, hlt, fun k hk' => ?_⟩ [] rfl rfl ⟨SLe.of_eq rfl, SLe.of_eq rfl, SLe.of_eq rfl, SLe.of_eq (congrArg (fun z => SV.cv (iint z)) (next_int i n hlt hm)), trivial⟩ trivial ?_
              · rcases Nat.lt_succ_iff_lt_or_eq.1 hk' with h | h
                · exact hk k h
                · rw [h]; exact hno
              show n - (i + 1) < n - i
              omega
          )
    )
  · first
    | (exfalso; simp_all; done)
    | (
        refine AW_exit ?_
        refine AW_seq ?_
        refine AW_all good tabN tabN_ok rfl rfl ?_ ?_
        · repeat' (first | exact trivial | exact rfl | exact (fun _ _ => rfl) | apply And.intro | intro _)
          all_goals (first | omega | exact prog_lit _ _ | exact procs_lit _ _ | exact hlm i hlt)
        refine AW_ret (bodyQ_ret rfl ?_ (Ends.intro rfl ?_ ?_))
        · repeat' (first | exact trivial | exact rfl | exact (fun _ _ => rfl) | apply And.intro | intro _)
          all_goals (first | omega | exact prog_lit _ _ | exact procs_lit _ _ | exact hlm i hlt)
        · repeat' (first | exact trivial | exact rfl | exact (fun _ _ => rfl) | apply And.intro | intro _)
          all_goals (first | omega | exact prog_lit _ _ | exact procs_lit _ _ | exact hlm i hlt)
        have he : i = n := by
          have : ¬ i < n := by simpa using h1
          omega
        subst he
        refine ret_bool ?_
        unfold mayL
        have : anyB (fun q => !mayP (l q)) i = false := by
          unfold anyB
          rw [List.any_eq_false]
          intro q hq
          rw [hk q (List.mem_range.1 hq)]
          simp
        rw [this]
        simp
    )
end Go.Proofs.Ytndfcbcmeeemfaa.Abs

/-
  PROCESSES THAT ADD (plain law): what they come to under any picks. No program in sight.
-/
namespace Go.Proofs.Ytndfcbcmeeemfaa.Abs
open Go

/-- A process that adds 1 to a word k times and ends, t steps on. -/
structure AddAt (at_ : Int) (k t : Nat) (p : Prc) : Prop where
  n : p.n = k + 1
  prog : p.prog = addI at_ k
  at_ : p.at_ = (min t k : Nat)
  done : p.done = Nat.beq t (k + 1)
  took : p.took = t
  le : t ≤ k + 1

theorem add_start (at_ : Int) (k : Nat) : AddAt at_ k 0 (addsP at_ k) := ⟨rfl, rfl, by simp [addsP], rfl, rfl, Nat.zero_le _⟩

theorem add_end {at_ : Int} {k : Nat} {p : Prc} (h : AddAt at_ k (k + 1) p) (m : Nat → Int) : stepP m p = p ∧ stepW m p = m := by
  have hs : stops p = true := by
    unfold stops
    rw [h.done]
    simp
  unfold stepP stepW
  rw [hs]
  exact ⟨rfl, rfl⟩

theorem add_step {at_ : Int} {k t : Nat} {p : Prc} (h : AddAt at_ k t p) (ht : t ≤ k) (hk : k ≤ 1000000) (m : Nat → Int) :
    AddAt at_ k (t + 1) (stepP m p) ∧ stepW m p = bif Nat.blt t k then putW m at_ (IntKind.u64.wrap (m at_.toNat + 1)) else m := by
  have hs : stops p = false := by
    unfold stops
    have h1 : p.done = false := by
      rw [h.done]
      cases hb : Nat.beq t (k + 1) with
      | false => rfl
      | true => have := Nat.eq_of_beq_eq_true hb; omega
    rw [h1, h.took]
    simp
    omega
  have hat : p.at_.toNat = t := by rw [h.at_]; omega
  have hatI : p.at_ = t := by rw [h.at_]; omega
  have hI : p.prog p.at_.toNat = addI at_ k t := by rw [h.prog, hat]
  rcases Nat.lt_or_ge t k with hlt | hge
  · have hb : Nat.blt t k = true := Nat.ble_eq_true_of_le hlt
    have hc : coreP m p = Core.set ⟨putW m at_ (IntKind.u64.wrap (m at_.toNat + 1)), p.r0, p.r1, p.r2, p.r3, p.at_ + 1⟩ 0 (m at_.toNat) := by
      unfold coreP
      rw [hI]
      unfold addI
      rw [hb]
      rfl
    have hnx : ((coreP m p).nx == (p.n : Int)) = false := by
      rw [hc]
      show (p.at_ + 1 == (p.n : Int)) = false
      rw [beq_eq_false_iff_ne, hatI, h.n]
      omega
    unfold stepP stepW
    rw [hs, hb]
    simp only [cond_false, cond_true, hnx]
    rw [hc]
    refine ⟨⟨h.n, h.prog, ?_, ?_, ?_, by omega⟩, rfl⟩
    · show p.at_ + 1 = _
      rw [hatI]
      omega
    · show false = _
      cases hb : Nat.beq (t + 1) (k + 1) with
      | false => rfl
      | true => have := Nat.eq_of_beq_eq_true hb; omega
    · show p.took + 1 = _
      rw [h.took]
      omega
  · obtain rfl : t = k := by omega
    have hb : Nat.blt t t = false := by
      cases hb : Nat.blt t t with
      | false => rfl
      | true => have : t < t := Nat.le_of_ble_eq_true hb; omega
    have hc : coreP m p = ⟨m, p.r0, p.r1, p.r2, p.r3, p.n⟩ := by
      unfold coreP
      rw [hI]
      unfold addI
      rw [hb]
      rfl
    have hnx : ((coreP m p).nx == (p.n : Int)) = true := by
      rw [hc]
      simp
    unfold stepP stepW
    rw [hs, hb]
    simp only [cond_false, cond_true, hnx]
    rw [hc]
    refine ⟨⟨h.n, h.prog, ?_, ?_, ?_, by omega⟩, rfl⟩
    · show p.at_ = _
      rw [h.at_]
      omega
    · show true = _
      simp
    · show p.took + 1 = _
      rw [h.took]
      omega

/-- How often a process is picked. -/
def cnt (picks : Nat → Int) (i : Nat) : Nat → Nat
  | 0 => 0
  | j + 1 => cnt picks i j + bif picks j == (i : Int) then 1 else 0

/-- What the processes at a word have added to it. -/
def addedN (n : Nat) (f : Nat → Nat) : Nat := ((List.range n).map f).sum
theorem addedN_succ (n : Nat) (f : Nat → Nat) : addedN (n + 1) f = addedN n f + f n := by
  simp [addedN, List.range_succ]
theorem addedN_congr {n : Nat} {f g : Nat → Nat} (h : ∀ i, i < n → f i = g i) : addedN n f = addedN n g := by
  induction n with
  | zero => rfl
  | succ n ih => rw [addedN_succ, addedN_succ, ih fun i hi => h i (by omega), h n (by omega)]
theorem addedN_bump {n i : Nat} {f g : Nat → Nat} (hi : i < n) (h1 : g i = f i + 1) (h2 : ∀ k, k < n → k ≠ i → g k = f k) : addedN n g = addedN n f + 1 := by
  induction n with
  | zero => omega
  | succ n ih =>
    rw [addedN_succ, addedN_succ]
    rcases Nat.lt_or_ge i n with h | h
    · rw [ih h fun k hk => h2 k (by omega), h2 n (by omega) (by omega)]
      omega
    · obtain rfl : i = n := by omega
      rw [h1, addedN_congr fun k hk => h2 k (by omega) (by omega)]
      omega

/-- What adders come to. -/
theorem adds_run {n : Nat} {at_ : Nat → Int} {k : Nat → Nat} (hat : ∀ i, i < n → 0 ≤ at_ i) (hk : ∀ i, i < n → k i ≤ 1000000) {l : Nat → Prc} (hl : ∀ i, i < n → AddAt (at_ i) (k i) 0 (l i)) {m : Nat → Int} (hm : ∀ w, m w = 0) (picks : Nat → Int) (j : Nat) :
    (∀ i, i < n → AddAt (at_ i) (k i) (min (cnt picks i j) (k i + 1)) ((runM n ⟨m, l⟩ picks j).l i)) ∧
    ∀ w, (runM n ⟨m, l⟩ picks j).m w = IntKind.u64.wrap (addedN n fun i => bif at_ i == (w : Int) then min (cnt picks i j) (k i) else 0 : Nat) := by
  induction j with
  | zero =>
    refine ⟨fun i hi => by rw [show min (cnt picks i 0) (k i + 1) = 0 from by simp [cnt]]; exact hl i hi, fun w => ?_⟩
    have : addedN n (fun i => bif at_ i == (w : Int) then min (cnt picks i 0) (k i) else 0) = 0 := by
      rw [addedN_congr (g := fun _ => 0) fun i _ => by simp [cnt]]
      clear hat hk hl
      induction n with
      | zero => rfl
      | succ n ih => rw [addedN_succ, ih]
    rw [this]
    exact hm w
  | succ j ih =>
    obtain ⟨ih1, ih2⟩ := ih
    generalize hs : runM n ⟨m, l⟩ picks j = s at ih1 ih2
    have hrun : runM n ⟨m, l⟩ picks (j + 1) = pickM n s (picks j) := by rw [← hs]; rfl
    rw [hrun]
    by_cases hp : 0 ≤ picks j ∧ picks j < n
    · obtain ⟨i, hi⟩ : ∃ i : Nat, picks j = i := ⟨(picks j).toNat, by omega⟩
      have hin : i < n := by omega
      rw [pick_in hp, hi]
      have hto : ((i : Nat) : Int).toNat = i := by omega
      rw [hto]
      have hci : cnt picks i (j + 1) = cnt picks i j + 1 := by simp [cnt, hi]
      have hcq : ∀ q, q ≠ i → cnt picks q (j + 1) = cnt picks q j := by
        intro q hq
        have : ((i : Int) == (q : Int)) = false := by rw [beq_eq_false_iff_ne]; omega
        simp [cnt, hi, this]
      have hA := ih1 i hin
      have hki := hk i hin
      -- the process that was picked
      have key : AddAt (at_ i) (k i) (min (cnt picks i (j + 1)) (k i + 1)) (stepP s.m (s.l i)) ∧ stepW s.m (s.l i) = bif Nat.blt (cnt picks i j) (k i) then putW s.m (at_ i) (IntKind.u64.wrap (s.m (at_ i).toNat + 1)) else s.m := by
        rcases Nat.lt_or_ge (cnt picks i j) (k i + 1) with h | h
        · rw [show min (cnt picks i j) (k i + 1) = cnt picks i j from by omega] at hA
          obtain ⟨h1, h2⟩ := add_step hA (by omega) hki s.m
          rw [hci, show min (cnt picks i j + 1) (k i + 1) = cnt picks i j + 1 from by omega]
          exact ⟨h1, h2⟩
        · rw [show min (cnt picks i j) (k i + 1) = k i + 1 from by omega] at hA
          obtain ⟨h1, h2⟩ := add_end hA s.m
          rw [hci, show min (cnt picks i j + 1) (k i + 1) = k i + 1 from by omega, h1, h2]
          refine ⟨hA, ?_⟩
          have : Nat.blt (cnt picks i j) (k i) = false := by
            cases hb : Nat.blt (cnt picks i j) (k i) with
            | false => rfl
            | true => have : cnt picks i j < k i := Nat.le_of_ble_eq_true hb; omega
          rw [this]
          rfl
      refine ⟨fun q hq => ?_, fun w => ?_⟩
      · show AddAt _ _ _ (bif Nat.beq q i then stepP s.m (s.l i) else s.l q)
        by_cases hqi : q = i
        · subst hqi
          rw [show Nat.beq q q = true from by simp]
          exact key.1
        · have : Nat.beq q i = false := by
            cases hb : Nat.beq q i with
            | false => rfl
            | true => exact absurd (Nat.eq_of_beq_eq_true hb) hqi
          rw [this, hcq q hqi]
          exact ih1 q hq
      · show stepW s.m (s.l i) w = _
        rw [key.2]
        have hai := hat i hin
        rcases Nat.lt_or_ge (cnt picks i j) (k i) with h | h
        · rw [show Nat.blt (cnt picks i j) (k i) = true from Nat.ble_eq_true_of_le h]
          show putW s.m (at_ i) _ w = _
          unfold putW
          by_cases hw : w = (at_ i).toNat
          · subst hw
            have hb : (at_ i == (((at_ i).toNat : Nat) : Int)) = true := by
              have : (((at_ i).toNat : Nat) : Int) = at_ i := by omega
              rw [this]
              simp
            rw [show Nat.beq (at_ i).toNat (at_ i).toNat = true from by simp]
            simp only [cond_true]
            have hb2 : addedN n (fun q => bif at_ q == (((at_ i).toNat : Nat) : Int) then min (cnt picks q (j + 1)) (k q) else 0) = addedN n (fun q => bif at_ q == (((at_ i).toNat : Nat) : Int) then min (cnt picks q j) (k q) else 0) + 1 := by
              refine addedN_bump (i := i) hin ?_ ?_
              · simp only [hb, cond_true, hci]
                omega
              · intro q _ hqi
                simp only [hcq q hqi]
            rw [ih2, hb2]
            simp only [IntKind.wrap_u64]
            omega
          · have hb : Nat.beq w (at_ i).toNat = false := by
              cases hb : Nat.beq w (at_ i).toNat with
              | false => rfl
              | true => exact absurd (Nat.eq_of_beq_eq_true hb) hw
            rw [hb]
            simp only [cond_false]
            rw [ih2]
            congr 2
            refine addedN_congr fun q hq => ?_
            by_cases hqi : q = i
            · subst hqi
              have : (at_ q == (w : Int)) = false := by rw [beq_eq_false_iff_ne]; omega
              rw [this]
              rfl
            · rw [hcq q hqi]
        · have hb : Nat.blt (cnt picks i j) (k i) = false := by
            cases hb : Nat.blt (cnt picks i j) (k i) with
            | false => rfl
            | true => have : cnt picks i j < k i := Nat.le_of_ble_eq_true hb; omega
          rw [hb]
          show s.m w = _
          rw [ih2]
          congr 2
          refine addedN_congr fun q hq => ?_
          by_cases hqi : q = i
          · subst hqi
            rw [hci, show min (cnt picks q j + 1) (k q) = min (cnt picks q j) (k q) from by omega]
          · rw [hcq q hqi]
    · have hout : pickM n s (picks j) = s := by
        refine pick_out ?_
        cases hq : decide (picks j ≥ 0) with
        | false => rfl
        | true =>
          have := of_decide_eq_true hq
          exact decide_eq_false (by omega)
      rw [hout]
      have hcq : ∀ q, q < n → cnt picks q (j + 1) = cnt picks q j := by
        intro q hq
        have : (picks j == (q : Int)) = false := by rw [beq_eq_false_iff_ne]; omega
        simp [cnt, this]
      refine ⟨fun q hq => by rw [hcq q hq]; exact ih1 q hq, fun w => ?_⟩
      rw [ih2]
      congr 2
      exact addedN_congr fun q hq => by rw [hcq q hq]

theorem mayI_add {at_ : Int} (h0 : 0 ≤ at_) (h1 : at_ < 64) (k i : Nat) : mayI (addI at_ k i) (k + 1 : Nat) = true := by
  unfold addI
  cases Nat.blt i k with
  | true =>
    show mayI ⟨4, 0, at_, 1, 0⟩ _ = true
    have : badIns ⟨4, 0, at_, 1, 0⟩ = false := by
      simp only [badIns]
      rw [decide_eq_false (show ¬ at_ < 0 by omega), decide_eq_false (show ¬ at_ ≥ 64 by omega)]
      rfl
    unfold mayI
    rw [this]
    rfl
  | false => rfl
theorem mayP_add {at_ : Int} (h0 : 0 ≤ at_) (h1 : at_ < 64) {k : Nat} (hk : k ≤ 63) : mayP (addsP at_ k) = true :=
  mayP_mk (p := addsP at_ k) (by show 1 ≤ k + 1; omega) (by show k + 1 ≤ 64; omega) (Int.le_refl 0) (by show (0 : Int) < ((k + 1 : Nat) : Int); omega) (Int.le_refl 0) (by show (0 : Int) ≤ _; omega) fun i _ => mayI_add h0 h1 k i
theorem mayL_mk {n : Nat} {l : Nat → Prc} (hn : n ≤ 8) (h : ∀ i, i < n → mayP (l i) = true) : mayL n l = true := by
  simp only [mayL, Bool.and_eq_true, decide_eq_true_eq, Bool.not_eq_true', anyB, List.any_eq_false, List.mem_range]
  refine ⟨by omega, fun i hi => ?_⟩
  rw [h i hi]
  simp
end Go.Proofs.Ytndfcbcmeeemfaa.Abs
