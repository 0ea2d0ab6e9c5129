/-
  THE LAW MachineSteps as a contract.
-/
import Derived.Test.YtndfcbcmeeemfaaM20
namespace Go.Proofs.Ytndfcbcmeeemfaa.Abs
open Go
set_option maxRecDepth 10000

noncomputable def tabS : Tab := tabAdd 35 (fun args => match args with
  | [.one (.imm (.sl 1 n _ cell)), c] => match asPrc c with
    | some (p, q) => some (.tup [.one (uS (bif goodS n p then 64 else 0) false (stepW (wordsAt cell) p)), prcC (stepX n (wordsAt cell) p), iint (bif goodS n p then 0 else 1)], isWords n cell ∧ q)
    | none => none
  | _ => none) tabU
theorem tabS_ok : TabOk Try.prog tabS := by
  refine tabAdd_ok rfl (fun args r p h hp => ?_) tabU_ok
  split at h
  · rename_i n ex cell c
    split at h
    · rename_i p q hc
      simp only [Option.some.injEq, Prod.mk.injEq] at h; obtain ⟨rfl, rfl⟩ := h
      exact (step35 n ex (wordsAt cell) p).args (TLe.cons (words_le hp.1) (TLe.cons (asPrc_le hc hp.2) TLe.nil))
    · cases h
  · cases h

/-- A process that is nothing. -/
def asZero (c : CV) : Option Prc := match c with
  | .agg [.imm (.sl 0 0 _ _), .imm (.val (.int .i64 at_)), .imm (.val (.int .u64 r0)), .imm (.val (.int .u64 r1)), .imm (.val (.int .u64 r2)), .imm (.val (.int .u64 r3)), .imm (.val (.bool done)), .imm (.val (.int .i64 took))] => some ⟨0, fun _ => ⟨0, 0, 0, 0, 0⟩, at_, r0, r1, r2, r3, done, took⟩
  | _ => none
theorem asZero_le {c : CV} {p : Prc} (h : asZero c = some p) : CLe c (prcC p) := by
  unfold asZero at h
  split at h
  · simp only [Option.some.injEq] at h
    subst h
    exact CLe.aggL ⟨CLe.imm (ILe.sl rfl (by simp) (.inl rfl)), CLe.refl _, CLe.refl _, CLe.refl _, CLe.refl _, CLe.refl _, CLe.refl _, CLe.refl _, trivial⟩
  · cases h
noncomputable def tabV : Tab := tabAdd 32 (fun args => match args with
  | [c, d] => match asZero d with
    | some p' => match asPrc c with
      | some (p, q) => some (.cv (ibool (likeP p p')), q ∧ p.n ≤ maxLen)
      | none => none
    | none => tabS 32 [c, d]
  | _ => none) tabS
theorem tabV_ok : TabOk Try.prog tabV := by
  refine tabAdd_ok rfl (fun args r p h hp => ?_) tabS_ok
  split at h
  · split at h
    · rename_i p' hd
      split at h
      · rename_i hc
        simp only [Option.some.injEq, Prod.mk.injEq] at h; obtain ⟨rfl, rfl⟩ := h
        exact (like32 _ _ hp.2).args (TLe.cons (asPrc_le hc hp.1) (TLe.cons (asZero_le hd) TLe.nil))
      · cases h
    · exact (tabS_ok _ _ _ _ h hp).2
  · cases h
theorem procs_one (P : Prc) : isProcs 1 fun i q => [prcI P 0, prcI P 1, prcI P 2, prcI P 3, prcI P 4, prcI P 5, prcI P 6, prcI P 7].getD ((0 + i) * 8 + q) ivDef := fun i hi j hj => by
  obtain rfl : i = 0 := by omega
  match j, hj with
  | 0, _ => exact ILe.refl _
  | 1, _ => exact ILe.refl _
  | 2, _ => exact ILe.refl _
  | 3, _ => exact ILe.refl _
  | 4, _ => exact ILe.refl _
  | 5, _ => exact ILe.refl _
  | 6, _ => exact ILe.refl _
  | 7, _ => exact ILe.refl _

theorem stepX_n (n : Nat) (m : Nat → Int) (p : Prc) : (stepX n m p).n ≤ p.n := by
  unfold stepX
  cases goodS n p with
  | false => exact Nat.zero_le _
  | true => exact Nat.le_of_eq (step_n m p)
theorem bad_may {n : Nat} {p : Prc} (h : mayP p = false) : goodS n p = false := by unfold goodS; rw [h]; rfl
theorem bad_63 {p : Prc} : goodS 63 p = false := by unfold goodS; cases mayP p <;> rfl
theorem like_bad {n : Nat} {m : Nat → Int} {p : Prc} (h : goodS n p = false) : (bif (bif ((bif goodS n p then (0 : Int) else 1) == 1) then (((bif goodS n p then 64 else 0 : Nat) : Int) == 0) else false) then likeP (stepX n m p) zeroP else false) = true := by
  unfold stepX
  rw [h]
  show likeP zeroP zeroP = true
  exact like_self _
theorem like_good {m : Nat → Int} {p : Prc} (h : mayP p = true) : (bif (bif ((bif goodS 64 p then (0 : Int) else 1) == 0) then sameW (bif goodS 64 p then 64 else 0) (stepW m p) 64 (stepW m p) else false) then likeP (stepX 64 m p) (stepP m p) else false) = true := by
  have hg : goodS 64 p = true := by unfold goodS; rw [h]; rfl
  unfold stepX
  rw [hg]
  show (bif sameW 64 (stepW m p) 64 (stepW m p) then likeP (stepP m p) (stepP m p) else false) = true
  rw [sameW_self, like_self]
  rfl

theorem mayL_one (l : Nat → Prc) : mayL 1 l = mayP (l 0) := by
  unfold mayL anyB
  cases h : mayP (l 0) <;> simp [h]

theorem steps15 (n : Nat) (ex : Bool) (m : Nat → Int) (p : Prc) (short : Bool) : PCall Try.prog 15 [.one (uS n ex m), prcC p, ibool short] (.cv (ibool true)) := by
  refine PCall_of (ACall_body good Try.func15 rfl 70 rfl (by simp) ?_)
  refine AW_seq ?_
  refine AW_all good tabV tabV_ok rfl rfl ?_ ?_
  · repeat' (first | exact trivial | exact rfl | exact (fun _ _ => rfl) | refine And.intro ?_ ?_ | intro _)
    all_goals (first | omega | exact of_decide_eq_true (by assumption) | decide | exact hmay | exact hln | exact hlx _ _ | exact hmx | exact prog_lit _ _ | exact procs_lit _ _ | exact procs_one _ _ (by assumption) _ (by assumption) _ _ _ (by assumption) | (rename_i hg; exact hg) | (rename_i hg; change (_ : Bool) = true; rw [hg]; rfl) | (change (_ : Bool) = true; simp_all; done) | trace_state)
  refine AW_seq ?_
  refine AW_all good tabV tabV_ok rfl rfl ?_ ?_
  · repeat' (first | exact trivial | exact rfl | exact (fun _ _ => rfl) | refine And.intro ?_ ?_ | intro _)
    all_goals (first | omega | exact of_decide_eq_true (by assumption) | decide | exact hmay | exact hln | exact hlx _ _ | exact hmx | exact prog_lit _ _ | exact procs_lit _ _ | exact procs_one _ _ (by assumption) _ (by assumption) _ _ _ (by assumption) | (rename_i hg; exact hg) | (rename_i hg; change (_ : Bool) = true; rw [hg]; rfl) | (change (_ : Bool) = true; simp_all; done) | trace_state)
  refine AW_seq ?_
  refine AW_all good tabV tabV_ok rfl rfl ?_ ?_
  · repeat' (first | exact trivial | exact rfl | exact (fun _ _ => rfl) | refine And.intro ?_ ?_ | intro _)
    all_goals (first | omega | exact of_decide_eq_true (by assumption) | decide | exact hmay | exact hln | exact hlx _ _ | exact hmx | exact prog_lit _ _ | exact procs_lit _ _ | exact procs_one _ _ (by assumption) _ (by assumption) _ _ _ (by assumption) | (rename_i hg; exact hg) | (rename_i hg; change (_ : Bool) = true; rw [hg]; rfl) | (change (_ : Bool) = true; simp_all; done) | trace_state)
  refine AW_seq ?_
  refine AW_seq ?_
  obtain ⟨P, hP⟩ : ∃ P, P = fewP p := ⟨_, rfl⟩
  have hn66 : P.n ≤ 66 := by
    rw [hP]
    show min p.n 66 ≤ 66
    omega
  obtain ⟨W, hW⟩ : ∃ W : Nat → Int, W = fun i => bif Nat.blt i n then m i else 0 := ⟨_, rfl⟩
  refine AW_tell [(0, .cv (.one (uS 64 false W))), (2, .cv (ibool short)), (4, .cv (.one (.own 0 0 0 0)))] [(0, .var 54 [.imm (prcI P 0), .imm (prcI P 1), .imm (prcI P 2), .imm (prcI P 3), .imm (prcI P 4), .imm (prcI P 5), .imm (prcI P 6), .imm (prcI P 7)])] [0] rfl rfl ⟨SLe.cv (uS_le rfl fun i => by rw [hW]; rfl), SLe.of_eq rfl, SLe.of_eq rfl, trivial⟩ ⟨⟨rfl, _, rfl, BLe.var ⟨CLe.of_eq ?_, CLe.of_eq ?_, CLe.of_eq ?_, CLe.of_eq ?_, CLe.of_eq ?_, CLe.of_eq ?_, CLe.of_eq ?_, CLe.of_eq ?_, trivial⟩⟩, trivial⟩ ?_
  iterate 8 (· rw [hP]; rfl)
  clear hP hW
  have hln : P.n ≤ maxLen := by simp only [maxLen]; omega
  have hlx : ∀ n m, (stepX n m P).n ≤ maxLen := fun n m => Nat.le_trans (stepX_n n m P) hln
  cases short
  all_goals (
    refine AW_all good tabV tabV_ok rfl rfl ?_ ?_
    · repeat' (first | exact trivial | exact rfl | exact (fun _ _ => rfl) | refine And.intro ?_ ?_ | intro _)
      all_goals (first | omega | exact of_decide_eq_true (by assumption) | decide | exact hmay | exact hln | exact hlx _ _ | exact hmx | exact prog_lit _ _ | exact procs_lit _ _ | exact procs_one _ _ (by assumption) _ (by assumption) _ _ _ (by assumption) | (rename_i hg; exact hg) | (rename_i hg; change (_ : Bool) = true; rw [hg]; rfl) | (change (_ : Bool) = true; simp_all; done) | trace_state)
    first
    | (
        refine AW_condF rfl (by exact rfl) ?_
        refine AW_skip ?_
      )
    | (
        refine AW_condT rfl (by exact rfl) ?_
        refine AW_all good tabV tabV_ok rfl rfl ?_ ?_
        · repeat' (first | exact trivial | exact rfl | exact (fun _ _ => rfl) | refine And.intro ?_ ?_ | intro _)
          all_goals (first | omega | exact of_decide_eq_true (by assumption) | decide | exact hmay | exact hln | exact hlx _ _ | exact hmx | exact prog_lit _ _ | exact procs_lit _ _ | exact procs_one _ _ (by assumption) _ (by assumption) _ _ _ (by assumption) | (rename_i hg; exact hg) | (rename_i hg; change (_ : Bool) = true; rw [hg]; rfl) | (change (_ : Bool) = true; simp_all; done) | trace_state)
      )
    refine AW_seq ?_
    refine AW_all good tabV tabV_ok rfl rfl ?_ ?_
    · repeat' (first | exact trivial | exact rfl | exact (fun _ _ => rfl) | refine And.intro ?_ ?_ | intro _)
      all_goals (first | omega | exact of_decide_eq_true (by assumption) | decide | exact hmay | exact hln | exact hlx _ _ | exact hmx | exact prog_lit _ _ | exact procs_lit _ _ | exact procs_one _ _ (by assumption) _ (by assumption) _ _ _ (by assumption) | (rename_i hg; exact hg) | (rename_i hg; change (_ : Bool) = true; rw [hg]; rfl) | (change (_ : Bool) = true; simp_all; done) | trace_state)
    refine AW_seq ?_
    refine AW_seq ?_
    refine AW_drwF good rfl tabV tabV_ok [1] rfl rfl rfl rfl ?_ ?_
    · repeat' (first | exact trivial | exact rfl | exact (fun _ _ => rfl) | refine And.intro ?_ ?_ | intro _)
      all_goals (first | omega | exact of_decide_eq_true (by assumption) | decide | exact hmay | exact hln | exact hlx _ _ | exact hmx | exact prog_lit _ _ | exact procs_lit _ _ | exact procs_one _ _ (by assumption) _ (by assumption) _ _ _ (by assumption) | (rename_i hg; exact hg) | (rename_i hg; change (_ : Bool) = true; rw [hg]; rfl) | (change (_ : Bool) = true; simp_all; done) | trace_state)
    refine AW_cond rfl (fun h1 => ?_) (fun h1 => ?_)
    · first
      | (exfalso; simp_all; done)
      | (
          refine AW_seq ?_
          refine AW_all good tabV tabV_ok rfl rfl ?_ ?_
          · repeat' (first | exact trivial | exact rfl | exact (fun _ _ => rfl) | refine And.intro ?_ ?_ | intro _)
            all_goals (first | omega | exact of_decide_eq_true (by assumption) | decide | exact hmay | exact hln | exact hlx _ _ | exact hmx | exact prog_lit _ _ | exact procs_lit _ _ | exact procs_one _ _ (by assumption) _ (by assumption) _ _ _ (by assumption) | (rename_i hg; exact hg) | (rename_i hg; change (_ : Bool) = true; rw [hg]; rfl) | (change (_ : Bool) = true; simp_all; done) | trace_state)
          refine AW_ret (bodyQ_ret rfl ?_ (Ends.intro rfl ?_ ?_))
          · repeat' (first | exact trivial | exact rfl | exact (fun _ _ => rfl) | refine And.intro ?_ ?_ | intro _)
            all_goals (first | omega | exact of_decide_eq_true (by assumption) | decide | exact hmay | exact hln | exact hlx _ _ | exact hmx | exact prog_lit _ _ | exact procs_lit _ _ | exact procs_one _ _ (by assumption) _ (by assumption) _ _ _ (by assumption) | (rename_i hg; exact hg) | (rename_i hg; change (_ : Bool) = true; rw [hg]; rfl) | (change (_ : Bool) = true; simp_all; done) | trace_state)
          · repeat' (first | exact trivial | exact rfl | exact (fun _ _ => rfl) | refine And.intro ?_ ?_ | intro _)
            all_goals (first | omega | exact of_decide_eq_true (by assumption) | decide | exact hmay | exact hln | exact hlx _ _ | exact hmx | exact prog_lit _ _ | exact procs_lit _ _ | exact procs_one _ _ (by assumption) _ (by assumption) _ _ _ (by assumption) | (rename_i hg; exact hg) | (rename_i hg; change (_ : Bool) = true; rw [hg]; rfl) | (change (_ : Bool) = true; simp_all; done) | trace_state)
          exfalso
          have h : (bif (mayL 1 _ != mayP P) then true else false) = true := h1
          rw [mayL_one] at h
          rw [show mayP (procsAt _ 0) = mayP P from rfl] at h
          simp at h
      )
    · first
      | (exfalso; simp_all; done)
      | (
          refine AW_skip ?_
          refine AW_seq ?_
          refine AW_seq ?_
          refine AW_all good tabV tabV_ok rfl rfl ?_ ?_
          · repeat' (first | exact trivial | exact rfl | exact (fun _ _ => rfl) | refine And.intro ?_ ?_ | intro _)
            all_goals (first | omega | exact of_decide_eq_true (by assumption) | decide | exact hmay | exact hln | exact hlx _ _ | exact hmx | exact prog_lit _ _ | exact procs_lit _ _ | exact procs_one _ _ (by assumption) _ (by assumption) _ _ _ (by assumption) | (rename_i hg; exact hg) | (rename_i hg; change (_ : Bool) = true; rw [hg]; rfl) | (change (_ : Bool) = true; simp_all; done) | trace_state)
          refine AW_cond rfl (fun h2 => ?_) (fun h2 => ?_)
          · first
            | (exfalso; simp_all; done)
            | (
                refine AW_seq ?_
                refine AW_all good tabV tabV_ok rfl rfl ?_ ?_
                · repeat' (first | exact trivial | exact rfl | exact (fun _ _ => rfl) | refine And.intro ?_ ?_ | intro _)
                  all_goals (first | omega | exact of_decide_eq_true (by assumption) | decide | exact hmay | exact hln | exact hlx _ _ | exact hmx | exact prog_lit _ _ | exact procs_lit _ _ | exact procs_one _ _ (by assumption) _ (by assumption) _ _ _ (by assumption) | (rename_i hg; exact hg) | (rename_i hg; change (_ : Bool) = true; rw [hg]; rfl) | (change (_ : Bool) = true; simp_all; done) | trace_state)
                refine AW_ret (bodyQ_ret rfl ?_ (Ends.intro rfl ?_ ?_))
                · repeat' (first | exact trivial | exact rfl | exact (fun _ _ => rfl) | refine And.intro ?_ ?_ | intro _)
                  all_goals (first | omega | exact of_decide_eq_true (by assumption) | decide | exact hmay | exact hln | exact hlx _ _ | exact hmx | exact prog_lit _ _ | exact procs_lit _ _ | exact procs_one _ _ (by assumption) _ (by assumption) _ _ _ (by assumption) | (rename_i hg; exact hg) | (rename_i hg; change (_ : Bool) = true; rw [hg]; rfl) | (change (_ : Bool) = true; simp_all; done) | trace_state)
                · repeat' (first | exact trivial | exact rfl | exact (fun _ _ => rfl) | refine And.intro ?_ ?_ | intro _)
                  all_goals (first | omega | exact of_decide_eq_true (by assumption) | decide | exact hmay | exact hln | exact hlx _ _ | exact hmx | exact prog_lit _ _ | exact procs_lit _ _ | exact procs_one _ _ (by assumption) _ (by assumption) _ _ _ (by assumption) | (rename_i hg; exact hg) | (rename_i hg; change (_ : Bool) = true; rw [hg]; rfl) | (change (_ : Bool) = true; simp_all; done) | trace_state)
                refine ret_bool ?_
                first
                | exact like_bad bad_63
                | (
                    have hmay : mayP P = false := by
                      have h : (bif !mayP P then true else false) = true := h2
                      cases hq : mayP P with
                      | false => rfl
                      | true => rw [hq] at h; cases h
                    exact like_bad (bad_may hmay))
            )
          · first
            | (exfalso; simp_all; done)
            | (
                refine AW_skip ?_
                refine AW_seq ?_
                have hmay : mayP P = true := by
                  have h : (bif !mayP P then true else false) = false := h2
                  cases hq : mayP P with
                  | true => rfl
                  | false => rw [hq] at h; cases h
                refine AW_all good tabV tabV_ok rfl rfl ?_ ?_
                · repeat' (first | exact trivial | exact rfl | exact (fun _ _ => rfl) | refine And.intro ?_ ?_ | intro _)
                  all_goals (first | omega | exact of_decide_eq_true (by assumption) | decide | exact hmay | exact hln | exact hlx _ _ | exact hmx | exact prog_lit _ _ | exact procs_lit _ _ | exact procs_one _ _ (by assumption) _ (by assumption) _ _ _ (by assumption) | (rename_i hg; exact hg) | (rename_i hg; change (_ : Bool) = true; rw [hg]; rfl) | (change (_ : Bool) = true; simp_all; done) | trace_state)
                refine AW_seq ?_
                refine AW_all good tabV tabV_ok rfl rfl ?_ ?_
                · repeat' (first | exact trivial | exact rfl | exact (fun _ _ => rfl) | refine And.intro ?_ ?_ | intro _)
                  all_goals (first | omega | exact of_decide_eq_true (by assumption) | decide | exact hmay | exact hln | exact hlx _ _ | exact hmx | exact prog_lit _ _ | exact procs_lit _ _ | exact procs_one _ _ (by assumption) _ (by assumption) _ _ _ (by assumption) | (rename_i hg; exact hg) | (rename_i hg; change (_ : Bool) = true; rw [hg]; rfl) | (change (_ : Bool) = true; simp_all; done) | trace_state)
                refine AW_ret (bodyQ_ret rfl ?_ (Ends.intro rfl ?_ ?_))
                · repeat' (first | exact trivial | exact rfl | exact (fun _ _ => rfl) | refine And.intro ?_ ?_ | intro _)
                  all_goals (first | omega | exact of_decide_eq_true (by assumption) | decide | exact hmay | exact hln | exact hlx _ _ | exact hmx | exact prog_lit _ _ | exact procs_lit _ _ | exact procs_one _ _ (by assumption) _ (by assumption) _ _ _ (by assumption) | (rename_i hg; exact hg) | (rename_i hg; change (_ : Bool) = true; rw [hg]; rfl) | (change (_ : Bool) = true; simp_all; done) | trace_state)
                · repeat' (first | exact trivial | exact rfl | exact (fun _ _ => rfl) | refine And.intro ?_ ?_ | intro _)
                  all_goals (first | omega | exact of_decide_eq_true (by assumption) | decide | exact hmay | exact hln | exact hlx _ _ | exact hmx | exact prog_lit _ _ | exact procs_lit _ _ | exact procs_one _ _ (by assumption) _ (by assumption) _ _ _ (by assumption) | (rename_i hg; exact hg) | (rename_i hg; change (_ : Bool) = true; rw [hg]; rfl) | (change (_ : Bool) = true; simp_all; done) | trace_state)
                exact ret_bool (like_good hmay)
            )
      )
  )
end Go.Proofs.Ytndfcbcmeeemfaa.Abs
