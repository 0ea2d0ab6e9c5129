/-
  THE REFERENCE OF machine (10): which processes are alike.
-/
import Derived.Test.YtndfcbcmeeemfaaYM3
namespace Go.Proofs.Ytndfcbcmeeemfaa.Abs
open Go
set_option maxRecDepth 10000

/-- Processes that are alike. -/
noncomputable def likeP (p q : Prc) : Bool := @decide (p.n = q.n ∧ p.at_ = q.at_ ∧ (p.r0 = q.r0 ∧ p.r1 = q.r1 ∧ p.r2 = q.r2 ∧ p.r3 = q.r3) ∧ p.done = q.done ∧ p.took = q.took ∧ ∀ i, i < p.n → p.prog i = q.prog i) (Classical.propDecidable _)

/-- .. but for their programs' instructions. -/
def shP (p q : Prc) : Bool := bif bif bif bif ((p.n : Int) != (q.n : Int)) then true else (p.at_ != q.at_) then true else !(p.r0 == q.r0 && (p.r1 == q.r1 && (p.r2 == q.r2 && (p.r3 == q.r3 && true)))) then true else !(p.done == q.done) then true else (p.took != q.took)
theorem shP_iff {p q : Prc} : shP p q = false ↔ p.n = q.n ∧ p.at_ = q.at_ ∧ (p.r0 = q.r0 ∧ p.r1 = q.r1 ∧ p.r2 = q.r2 ∧ p.r3 = q.r3) ∧ p.done = q.done ∧ p.took = q.took := by
  have e : ((p.n : Int) != (q.n : Int)) = !(decide (p.n = q.n)) := by
    by_cases h : p.n = q.n
    · simp [h]
    · have : ¬ (p.n : Int) = q.n := by omega
      simp [h, this]
  unfold shP
  rw [e]
  by_cases h1 : p.n = q.n <;> by_cases h2 : p.at_ = q.at_ <;> by_cases h3 : p.r0 = q.r0 <;> by_cases h4 : p.r1 = q.r1 <;> by_cases h5 : p.r2 = q.r2 <;> by_cases h6 : p.r3 = q.r3 <;> by_cases h7 : p.done = q.done <;> by_cases h8 : p.took = q.took <;> simp [h1, h2, h3, h4, h5, h6, h7, h8]
theorem like_iff {p q : Prc} : likeP p q = true ↔ shP p q = false ∧ ∀ i, i < p.n → p.prog i = q.prog i := by
  rw [shP_iff]
  unfold likeP
  constructor
  · intro h
    obtain ⟨h1, h2, h3, h4, h5, h6⟩ := @of_decide_eq_true _ (Classical.propDecidable _) h
    exact ⟨⟨h1, h2, h3, h4, h5⟩, h6⟩
  · rintro ⟨⟨h1, h2, h3, h4, h5⟩, h6⟩
    exact @decide_eq_true _ (Classical.propDecidable _) ⟨h1, h2, h3, h4, h5, h6⟩
theorem like_no {p q : Prc} (h : ¬ likeP p q = true) : likeP p q = false := by simpa using h
theorem ins_eq {a b : Ins} (h : (!(eqI [a.kd, a.rg, a.at_, a.a, a.b] [b.kd, b.rg, b.at_, b.a, b.b])) = false) : a = b := by
  have h := (eqI_iff _ _).1 (by simpa using h)
  simp only [List.cons.injEq, and_true] at h
  cases a
  cases b
  simp_all

theorem like32 (p q : Prc) (hpm : p.n ≤ maxLen) : PCall Try.prog 32 [prcC p, prcC q] (.cv (ibool (likeP p q))) := by
  obtain ⟨n, prog, pat, r0, r1, r2, r3, done, took⟩ := p
  obtain ⟨n', prog', pat', r0', r1', r2', r3', done', took'⟩ := q
  dsimp only at hpm
  refine PCall_of (ACall_body good Try.func32 rfl 59 rfl (by simp) ?_)
  refine AW_seq ?_
  refine AW_all good tabN tabN_ok rfl rfl ?_ ?_
  · repeat' (first | exact trivial | exact rfl | exact (fun _ _ => rfl) | refine And.intro ?_ ?_ | intro _)
    all_goals (first | omega | decide | exact prog_lit _ _ | exact procs_lit _ _ | (rename_i hg; exact hg) | (rename_i hg; change (_ : Bool) = true; rw [hg]; rfl) | (change (_ : Bool) = true; simp_all; done) | trace_state)
  refine AW_seq ?_
  refine AW_seq ?_
  refine AW_all good tabN tabN_ok rfl rfl ?_ ?_
  · repeat' (first | exact trivial | exact rfl | exact (fun _ _ => rfl) | refine And.intro ?_ ?_ | intro _)
    all_goals (first | omega | decide | exact prog_lit _ _ | exact procs_lit _ _ | (rename_i hg; exact hg) | (rename_i hg; change (_ : Bool) = true; rw [hg]; rfl) | (change (_ : Bool) = true; simp_all; done) | trace_state)
  refine AW_cond rfl (fun h1 => ?_) (fun h1 => ?_)
  · first
    | (exfalso; simp_all; done)
    | (
        refine AW_seq ?_
        refine AW_all good tabN tabN_ok rfl rfl ?_ ?_
        · repeat' (first | exact trivial | exact rfl | exact (fun _ _ => rfl) | refine And.intro ?_ ?_ | intro _)
          all_goals (first | omega | decide | exact prog_lit _ _ | exact procs_lit _ _ | (rename_i hg; exact hg) | (rename_i hg; change (_ : Bool) = true; rw [hg]; rfl) | (change (_ : Bool) = true; simp_all; done) | trace_state)
        refine AW_ret (bodyQ_ret rfl ?_ (Ends.intro rfl ?_ ?_))
        · repeat' (first | exact trivial | exact rfl | exact (fun _ _ => rfl) | refine And.intro ?_ ?_ | intro _)
          all_goals (first | omega | decide | exact prog_lit _ _ | exact procs_lit _ _ | (rename_i hg; exact hg) | (rename_i hg; change (_ : Bool) = true; rw [hg]; rfl) | (change (_ : Bool) = true; simp_all; done) | trace_state)
        · repeat' (first | exact trivial | exact rfl | exact (fun _ _ => rfl) | refine And.intro ?_ ?_ | intro _)
          all_goals (first | omega | decide | exact prog_lit _ _ | exact procs_lit _ _ | (rename_i hg; exact hg) | (rename_i hg; change (_ : Bool) = true; rw [hg]; rfl) | (change (_ : Bool) = true; simp_all; done) | trace_state)
        refine ret_bool (like_no fun h => ?_).symm
        have h2 := (like_iff.1 h).1
        have h3 : shP ⟨n, prog, pat, r0, r1, r2, r3, done, took⟩ ⟨n', prog', pat', r0', r1', r2', r3', done', took'⟩ = true := h1
        rw [h2] at h3
        cases h3
    )
  · first
    | (exfalso; simp_all; done)
    | (
        refine AW_skip ?_
        refine AW_seq ?_
        refine AW_seq ?_
        refine AW_all good tabN tabN_ok rfl rfl ?_ ?_
        · repeat' (first | exact trivial | exact rfl | exact (fun _ _ => rfl) | refine And.intro ?_ ?_ | intro _)
          all_goals (first | omega | decide | exact prog_lit _ _ | exact procs_lit _ _ | (rename_i hg; exact hg) | (rename_i hg; change (_ : Bool) = true; rw [hg]; rfl) | (change (_ : Bool) = true; simp_all; done) | trace_state)
        refine AW_block ?_
        have hsh := shP_iff.1 h1
        obtain ⟨hn, hat, hr, hd, ht⟩ := hsh
        dsimp only at hn hat hr hd ht
        refine AW_loopH 2 (fun j : { i : Nat // i ≤ n ∧ ∀ k, k < i → prog k = prog' k } => [(2, .cv (.one (.own 0 0 0 0))), (3, .cv (.one (.own 1 0 0 0))), (43, .cv (iint n)), (44, .cv (iint j.1))]) (fun _ => [(0, .var 54 [.imm (progI n prog), .imm (.val (.int .i64 pat)), .imm (.val (.int .u64 r0)), .imm (.val (.int .u64 r1)), .imm (.val (.int .u64 r2)), .imm (.val (.int .u64 r3)), .imm (.val (.bool done)), .imm (.val (.int .i64 took))]), (1, .var 54 [.imm (progI n' prog'), .imm (.val (.int .i64 pat')), .imm (.val (.int .u64 r0')), .imm (.val (.int .u64 r1')), .imm (.val (.int .u64 r2')), .imm (.val (.int .u64 r3')), .imm (.val (.bool done')), .imm (.val (.int .i64 took'))])]) (fun j => n - j.1) ⟨0, Nat.zero_le _, fun k hk => absurd hk (Nat.not_lt_zero k)⟩ [0, 1] rfl rfl ?_ ?_ ?_
        · exact ⟨SLe.of_eq rfl, SLe.of_eq rfl, SLe.of_eq rfl, SLe.of_eq rfl, trivial⟩
        · exact ⟨⟨rfl, _, rfl, BLe.of_eq rfl⟩, ⟨rfl, _, rfl, BLe.of_eq rfl⟩, trivial⟩
        rintro ⟨i, hi, hk⟩
        dsimp only
        refine AW_seq ?_
        refine AW_all good tabN tabN_ok rfl rfl ?_ ?_
        · repeat' (first | exact trivial | exact rfl | exact (fun _ _ => rfl) | refine And.intro ?_ ?_ | intro _)
          all_goals (first | omega | decide | exact prog_lit _ _ | exact procs_lit _ _ | (rename_i hg; exact hg) | (rename_i hg; change (_ : Bool) = true; rw [hg]; rfl) | (change (_ : Bool) = true; simp_all; done) | trace_state)
        refine AW_seq ?_
        refine AW_cond rfl (fun h2 => ?_) (fun h2 => ?_)
        · first
          | (exfalso; simp_all; done)
          | (
              refine AW_skip ?_
              refine AW_seq ?_
              refine AW_block ?_
              refine AW_seq ?_
              refine AW_all good tabN tabN_ok rfl rfl ?_ ?_
              · repeat' (first | exact trivial | exact rfl | exact (fun _ _ => rfl) | refine And.intro ?_ ?_ | intro _)
                all_goals (first | omega | decide | exact prog_lit _ _ | exact procs_lit _ _ | (rename_i hg; exact hg) | (rename_i hg; change (_ : Bool) = true; rw [hg]; rfl) | (change (_ : Bool) = true; simp_all; done) | trace_state)
              refine AW_seq ?_
              have hlt : i < n := by simpa using h2
              have hlt' : i < n' := by omega
              refine AW_drwE good rfl tabN tabN_ok rfl rfl rfl rfl ?_ ?_
              · repeat' (first | exact trivial | exact rfl | exact (fun _ _ => rfl) | refine And.intro ?_ ?_ | intro _)
                all_goals (first | omega | decide | exact prog_lit _ _ | exact procs_lit _ _ | (rename_i hg; exact hg) | (rename_i hg; change (_ : Bool) = true; rw [hg]; rfl) | (change (_ : Bool) = true; simp_all; done) | trace_state)
              refine AW_cond rfl (fun h3 => ?_) (fun h3 => ?_)
              · first
                | (exfalso; simp_all; done)
                | (
                    refine AW_seq ?_
                    refine AW_all good tabN tabN_ok rfl rfl ?_ ?_
                    · repeat' (first | exact trivial | exact rfl | exact (fun _ _ => rfl) | refine And.intro ?_ ?_ | intro _)
                      all_goals (first | omega | decide | exact prog_lit _ _ | exact procs_lit _ _ | (rename_i hg; exact hg) | (rename_i hg; change (_ : Bool) = true; rw [hg]; rfl) | (change (_ : Bool) = true; simp_all; done) | trace_state)
                    refine AW_ret (bodyQ_ret rfl ?_ (Ends.intro rfl ?_ ?_))
                    · repeat' (first | exact trivial | exact rfl | exact (fun _ _ => rfl) | refine And.intro ?_ ?_ | intro _)
                      all_goals (first | omega | decide | exact prog_lit _ _ | exact procs_lit _ _ | (rename_i hg; exact hg) | (rename_i hg; change (_ : Bool) = true; rw [hg]; rfl) | (change (_ : Bool) = true; simp_all; done) | trace_state)
                    · repeat' (first | exact trivial | exact rfl | exact (fun _ _ => rfl) | refine And.intro ?_ ?_ | intro _)
                      all_goals (first | omega | decide | exact prog_lit _ _ | exact procs_lit _ _ | (rename_i hg; exact hg) | (rename_i hg; change (_ : Bool) = true; rw [hg]; rfl) | (change (_ : Bool) = true; simp_all; done) | trace_state)
                    refine ret_bool (like_no fun h => ?_).symm
                    have hlt : i < n := by simpa using h2
                    have h4 : prog i = prog' i := (like_iff.1 h).2 i hlt
                    have h5 : (!(eqI [(prog i).kd, (prog i).rg, (prog i).at_, (prog i).a, (prog i).b] [(prog' i).kd, (prog' i).rg, (prog' i).at_, (prog' i).a, (prog' i).b])) = true := h3
                    rw [h4, (eqI_iff _ _).2 rfl] at h5
                    cases h5
                )
              · first
                | (exfalso; simp_all; done)
                | (
                    refine AW_skip ?_
                    refine AW_all good tabN tabN_ok rfl rfl ?_ ?_
                    · repeat' (first | exact trivial | exact rfl | exact (fun _ _ => rfl) | refine And.intro ?_ ?_ | intro _)
                      all_goals (first | omega | decide | exact prog_lit _ _ | exact procs_lit _ _ | (rename_i hg; exact hg) | (rename_i hg; change (_ : Bool) = true; rw [hg]; rfl) | (change (_ : Bool) = true; simp_all; done) | trace_state)
                    have hlt : i < n := by simpa using h2
                    have he : prog i = prog' i := ins_eq h3
                    refine loopH_next ⟨i + 1, hlt, fun k hk' => ?_⟩ [0, 1] rfl rfl ⟨SLe.of_eq rfl, SLe.of_eq rfl, SLe.of_eq rfl, SLe.of_eq (congrArg (fun z => SV.cv (iint z)) (next_int i n hlt hpm)), trivial⟩ ⟨⟨rfl, _, rfl, BLe.of_eq rfl⟩, ⟨rfl, _, rfl, BLe.of_eq rfl⟩, trivial⟩ ?_
                    · rcases Nat.lt_succ_iff_lt_or_eq.1 hk' with h | h
                      · exact hk k h
                      · rw [h]; exact he
                    show n - (i + 1) < n - i
                    omega
                )
          )
        · first
          | (exfalso; simp_all; done)
          | (
              refine AW_exit ?_
              refine AW_seq ?_
              refine AW_all good tabN tabN_ok rfl rfl ?_ ?_
              · repeat' (first | exact trivial | exact rfl | exact (fun _ _ => rfl) | refine And.intro ?_ ?_ | intro _)
                all_goals (first | omega | decide | exact prog_lit _ _ | exact procs_lit _ _ | (rename_i hg; exact hg) | (rename_i hg; change (_ : Bool) = true; rw [hg]; rfl) | (change (_ : Bool) = true; simp_all; done) | trace_state)
              refine AW_ret (bodyQ_ret rfl ?_ (Ends.intro rfl ?_ ?_))
              · repeat' (first | exact trivial | exact rfl | exact (fun _ _ => rfl) | refine And.intro ?_ ?_ | intro _)
                all_goals (first | omega | decide | exact prog_lit _ _ | exact procs_lit _ _ | (rename_i hg; exact hg) | (rename_i hg; change (_ : Bool) = true; rw [hg]; rfl) | (change (_ : Bool) = true; simp_all; done) | trace_state)
              · repeat' (first | exact trivial | exact rfl | exact (fun _ _ => rfl) | refine And.intro ?_ ?_ | intro _)
                all_goals (first | omega | decide | exact prog_lit _ _ | exact procs_lit _ _ | (rename_i hg; exact hg) | (rename_i hg; change (_ : Bool) = true; rw [hg]; rfl) | (change (_ : Bool) = true; simp_all; done) | trace_state)
              have he : i = n := by
                have : ¬ i < n := by simpa using h2
                omega
              subst he
              exact ret_bool (like_iff.2 ⟨h1, hk⟩).symm
          )
    )
end Go.Proofs.Ytndfcbcmeeemfaa.Abs
