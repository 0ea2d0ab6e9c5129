/-
  THE REFERENCE'S STEP, as a contract.
-/
import Derived.Test.YtndfcbcmeeemfaaM14
namespace Go.Proofs.Ytndfcbcmeeemfaa.Abs
open Go
set_option maxRecDepth 10000

section
variable {K : Nat} {P : Program} {S : St} {Q : Exit → St → Prop}
theorem AW_condT {c : Operand} {x y : Code} {b : Bool} (hc : evS S.env c = .cv (.one (.imm (.val (.bool b))))) (hb : b = true) (h : AW K P x Q S) : AW K P (.cond c x y) Q S :=
  AW_cond hc (fun _ => h) (fun hf => by rw [hb] at hf; cases hf)
theorem AW_condF {c : Operand} {x y : Code} {b : Bool} (hc : evS S.env c = .cv (.one (.imm (.val (.bool b))))) (hb : b = false) (h : AW K P y Q S) : AW K P (.cond c x y) Q S :=
  AW_cond hc (fun hf => by rw [hb] at hf; cases hf) (fun _ => h)
end

noncomputable def tabQ : Tab := tabAdd 44 (fun args => match args with
  | [.one (.imm (.sl 1 n _ cell)), .one (.imm (.val (.int .i64 at_))), .one (.imm (.val (.int .u64 v)))] => some (.cv (.one (uS n false (withW (wordsAt cell) at_ v))), isWords n cell ∧ n * 8 ≤ 140737488355328)
  | _ => none) tabP
theorem tabQ_ok : TabOk Try.prog tabQ := by
  refine tabAdd_ok rfl (fun args r p h hp => ?_) tabP_ok
  split at h
  · rename_i n ex cell at_ v
    simp only [Option.some.injEq, Prod.mk.injEq] at h; obtain ⟨rfl, rfl⟩ := h; exact (with44 n ex (wordsAt cell) at_ v hp.2).args (TLe.cons (words_le hp.1) (TLe.refl _))
  · cases h

/-- Words and a process. -/
def tC (m : Nat → Int) (p : Prc) : CV := .agg [uS 64 false m, .imm (prcI p 0), .imm (prcI p 1), .imm (prcI p 2), .imm (prcI p 3), .imm (prcI p 4), .imm (prcI p 5), .imm (prcI p 6), .imm (prcI p 7)]

theorem with_put {m : Nat → Int} {at_ v : Int} (h : 0 ≤ at_) (i : Nat) : withW m at_ v i = putW m at_ v i := by
  unfold withW putW
  cases hb : Nat.beq i at_.toNat with
  | true =>
    have := Nat.eq_of_beq_eq_true hb
    rw [show ((i : Int) == at_) = true from by rw [beq_iff_eq]; omega]
  | false =>
    rw [show ((i : Int) == at_) = false from by
      rw [beq_eq_false_iff_ne]
      intro he
      have : i = at_.toNat := by omega
      rw [this, Nat.beq_refl] at hb
      cases hb]
theorem put_same {m : Nat → Int} {at_ v : Int} (h : m at_.toNat = v) (i : Nat) : m i = putW m at_ v i := by
  unfold putW
  cases hb : Nat.beq i at_.toNat with
  | true => rw [Nat.eq_of_beq_eq_true hb]; exact h
  | false => rfl
theorem cas_y {x y w : Int} (h : (w == x) = true) : casG x y w = (y, 1) := by unfold casG; rw [h]; rfl
theorem cas_n {x y w : Int} (h : (w == x) = false) : casG x y w = (w, 0) := by unfold casG; rw [h]; rfl

theorem ret31 {ex done d : Bool} {m M m' : Nat → Int} {n : Nat} {prog : Nat → Ins} {I : Ins} {r0 r1 r2 r3 pat took q0 q1 q2 q3 nx at' took' : Int} (hs : stops ⟨n, prog, pat, r0, r1, r2, r3, done, took⟩ = false) (hI : prog pat.toNat = I) (hc : coreM m r0 r1 r2 r3 pat n I = ⟨m', q0, q1, q2, q3, nx⟩) (hm : ∀ i, M i = m' i) (hd : (nx == (n : Int)) = d) (ha : at' = bif d then pat else nx) (ht : took' = took + 1) :
    SLe (.cv (.agg [uS 64 ex M, .imm (progI n prog), .imm (.val (.int .i64 at')), .imm (.val (.int .u64 q0)), .imm (.val (.int .u64 q1)), .imm (.val (.int .u64 q2)), .imm (.val (.int .u64 q3)), .imm (.val (.bool d)), .imm (.val (.int .i64 took'))])) (.cv (tC (stepW m ⟨n, prog, pat, r0, r1, r2, r3, done, took⟩) (stepP m ⟨n, prog, pat, r0, r1, r2, r3, done, took⟩))) := by
  have hgoal : coreP m ⟨n, prog, pat, r0, r1, r2, r3, done, took⟩ = ⟨m', q0, q1, q2, q3, nx⟩ := by
    show coreM m r0 r1 r2 r3 pat n (prog pat.toNat) = _
    rw [hI, hc]
  have e1 : stepW m ⟨n, prog, pat, r0, r1, r2, r3, done, took⟩ = m' := by
    unfold stepW
    rw [hs, hgoal]
    rfl
  have e2 : stepP m ⟨n, prog, pat, r0, r1, r2, r3, done, took⟩ = ⟨n, prog, bif d then pat else nx, q0, q1, q2, q3, d, took + 1⟩ := by
    unfold stepP
    rw [hs, hgoal]
    simp only [cond_false, hd]
  rw [e1, e2, ha, ht]
  exact SLe.cv (CLe.aggL ⟨uS_le rfl hm, CLe.refl _, CLe.refl _, CLe.refl _, CLe.refl _, CLe.refl _, CLe.refl _, CLe.refl _, CLe.refl _, trivial⟩)

set_option maxHeartbeats 4000000 in
theorem step31 (ex : Bool) (m : Nat → Int) (p : Prc) (hp : mayP p = true) : PCall Try.prog 31 [.one (uS 64 ex m), prcC p] (.cv (tC (stepW m p) (stepP m p))) := by
  obtain ⟨n, prog, pat, r0, r1, r2, r3, done, took⟩ := p
  obtain ⟨hn1, hn2, hat1, hat2, hto1, hto2, hall⟩ := may_facts hp
  dsimp only at hn1 hn2 hat1 hat2 hto1 hto2 hall
  have hI := ins_facts (hall pat.toNat (by omega))
  refine PCall_of (ACall_body good Try.func31 rfl 151 rfl (by simp) ?_)
  refine AW_seq ?_
  refine AW_all good tabQ tabQ_ok rfl rfl ?_ ?_
  · repeat' (first | exact trivial | exact rfl | exact (fun _ _ => rfl) | refine And.intro ?_ ?_ | intro _)
    all_goals (first | omega | exact of_decide_eq_true (by assumption) | decide | exact prog_lit _ _ | exact procs_lit _ _ | (rename_i hg; exact hg) | (rename_i hg; change (_ : Bool) = true; rw [hg]; rfl) | (change (_ : Bool) = true; simp_all; done) | trace_state)
  refine AW_seq ?_
  refine AW_seq ?_
  refine AW_all good tabQ tabQ_ok rfl rfl ?_ ?_
  · repeat' (first | exact trivial | exact rfl | exact (fun _ _ => rfl) | refine And.intro ?_ ?_ | intro _)
    all_goals (first | omega | exact of_decide_eq_true (by assumption) | decide | exact prog_lit _ _ | exact procs_lit _ _ | (rename_i hg; exact hg) | (rename_i hg; change (_ : Bool) = true; rw [hg]; rfl) | (change (_ : Bool) = true; simp_all; done) | trace_state)
  refine AW_cond rfl (fun h1 => ?_) (fun h1 => ?_)
  · first
    | (exfalso; simp_all; done)
    | (
        refine AW_seq ?_
        refine AW_all good tabQ tabQ_ok rfl rfl ?_ ?_
        · repeat' (first | exact trivial | exact rfl | exact (fun _ _ => rfl) | refine And.intro ?_ ?_ | intro _)
          all_goals (first | omega | exact of_decide_eq_true (by assumption) | decide | exact prog_lit _ _ | exact procs_lit _ _ | (rename_i hg; exact hg) | (rename_i hg; change (_ : Bool) = true; rw [hg]; rfl) | (change (_ : Bool) = true; simp_all; done) | trace_state)
        refine AW_ret (bodyQ_ret rfl ?_ (Ends.le rfl ?_ ?_))
        · repeat' (first | exact trivial | exact rfl | exact (fun _ _ => rfl) | refine And.intro ?_ ?_ | intro _)
          all_goals (first | omega | exact of_decide_eq_true (by assumption) | decide | exact prog_lit _ _ | exact procs_lit _ _ | (rename_i hg; exact hg) | (rename_i hg; change (_ : Bool) = true; rw [hg]; rfl) | (change (_ : Bool) = true; simp_all; done) | trace_state)
        · repeat' (first | exact trivial | exact rfl | exact (fun _ _ => rfl) | refine And.intro ?_ ?_ | intro _)
          all_goals (first | omega | exact of_decide_eq_true (by assumption) | decide | exact prog_lit _ _ | exact procs_lit _ _ | (rename_i hg; exact hg) | (rename_i hg; change (_ : Bool) = true; rw [hg]; rfl) | (change (_ : Bool) = true; simp_all; done) | trace_state)
        have hs : stops ⟨n, prog, pat, r0, r1, r2, r3, done, took⟩ = true := by
          have h : (bif done then true else (took == 1099511627776)) = true := h1
          unfold stops
          show (bif done then true else decide (took ≥ 1099511627776)) = true
          cases hd : done with
          | true => rfl
          | false =>
            rw [hd] at h
            have h : (took == 1099511627776) = true := h
            rw [beq_iff_eq] at h
            exact decide_eq_true (by omega)
        unfold stepW stepP
        rw [hs]
        exact SLe.cv (CLe.aggL ⟨uS_le rfl fun _ => rfl, CLe.refl _, CLe.refl _, CLe.refl _, CLe.refl _, CLe.refl _, CLe.refl _, CLe.refl _, CLe.refl _, trivial⟩)
    )
  · first
    | (exfalso; simp_all; done)
    | (
        refine AW_skip ?_
        refine AW_seq ?_
        refine AW_all good tabQ tabQ_ok rfl rfl ?_ ?_
        · repeat' (first | exact trivial | exact rfl | exact (fun _ _ => rfl) | refine And.intro ?_ ?_ | intro _)
          all_goals (first | omega | exact of_decide_eq_true (by assumption) | decide | exact prog_lit _ _ | exact procs_lit _ _ | (rename_i hg; exact hg) | (rename_i hg; change (_ : Bool) = true; rw [hg]; rfl) | (change (_ : Bool) = true; simp_all; done) | trace_state)
        refine AW_seq ?_
        refine AW_all good tabQ tabQ_ok rfl rfl ?_ ?_
        · repeat' (first | exact trivial | exact rfl | exact (fun _ _ => rfl) | refine And.intro ?_ ?_ | intro _)
          all_goals (first | omega | exact of_decide_eq_true (by assumption) | decide | exact prog_lit _ _ | exact procs_lit _ _ | (rename_i hg; exact hg) | (rename_i hg; change (_ : Bool) = true; rw [hg]; rfl) | (change (_ : Bool) = true; simp_all; done) | trace_state)
        refine AW_seq ?_
        refine AW_all good tabQ tabQ_ok rfl rfl ?_ ?_
        · repeat' (first | exact trivial | exact rfl | exact (fun _ _ => rfl) | refine And.intro ?_ ?_ | intro _)
          all_goals (first | omega | exact of_decide_eq_true (by assumption) | decide | exact prog_lit _ _ | exact procs_lit _ _ | (rename_i hg; exact hg) | (rename_i hg; change (_ : Bool) = true; rw [hg]; rfl) | (change (_ : Bool) = true; simp_all; done) | trace_state)
        refine AW_seq ?_
        generalize hIg : prog pat.toNat = I at hI
        obtain ⟨kd, rg, at_, a, b⟩ := I
        dsimp only at hI
        have hs : stops ⟨n, prog, pat, r0, r1, r2, r3, done, took⟩ = false := by
          have h : (bif done then true else (took == 1099511627776)) = false := h1
          unfold stops
          show (bif done then true else decide (took ≥ 1099511627776)) = false
          cases hd : done with
          | true => rw [hd] at h; cases h
          | false =>
            rw [hd] at h
            have h : (took == 1099511627776) = false := h
            rw [beq_eq_false_iff_ne] at h
            show decide (took ≥ 1099511627776) = false
            rw [decide_eq_false_iff_not]
            omega
        have hdn : done = false := by
          cases hd : done with
          | true => rw [hd] at hs; cases hs
          | false => rfl
        have hk9 : took < 1099511627776 := by
          unfold stops at hs
          rw [hdn] at hs
          have hs : decide (took ≥ 1099511627776) = false := hs
          rw [decide_eq_false_iff_not] at hs
          omega
        refine AW_tell [(0, .cv (.one (uS 64 ex m))), (3, .cv (.one (.own 0 0 0 0))), (4, .cv (.one (.own 1 0 0 0))), (5, .cv (.one (.own 2 0 0 0))), (6, .cv (iint (pat + 1)))] [(0, .var 54 [.imm (progI n prog), .imm (.val (.int .i64 pat)), .imm (.val (.int .u64 r0)), .imm (.val (.int .u64 r1)), .imm (.val (.int .u64 r2)), .imm (.val (.int .u64 r3)), .imm (.val (.bool done)), .imm (.val (.int .i64 (took + 1)))]), (1, .var 60 (zeros lay60)), (2, .var 67 [.imm (.val (.int .i64 kd)), .imm (.val (.int .i64 rg)), .imm (.val (.int .i64 at_)), .imm (.val (.int .u64 a)), .imm (.val (.int .i64 b))])] [0, 1, 2] rfl rfl ?_ ?_ ?_
        · exact ⟨SLe.of_eq rfl, SLe.of_eq rfl, SLe.of_eq rfl, SLe.of_eq rfl, SLe.of_eq (congrArg (fun z => SV.cv (iint z)) (by show IntKind.i64.wrap (pat + 1) = pat + 1; rw [IntKind.wrap_i64]; omega)), trivial⟩
        · refine ⟨⟨rfl, _, rfl, BLe.var ⟨CLe.refl _, CLe.refl _, CLe.refl _, CLe.refl _, CLe.refl _, CLe.refl _, CLe.refl _, CLe.of_eq (congrArg (fun z => iint z) (by show IntKind.i64.wrap (took + 1) = took + 1; rw [IntKind.wrap_i64]; omega)), trivial⟩⟩, ⟨rfl, _, rfl, BLe.of_eq rfl⟩, ⟨rfl, _, rfl, BLe.of_eq ?_⟩, trivial⟩
          show ABlk.var 67 [.imm (insI (prog pat.toNat) 0), .imm (insI (prog pat.toNat) 1), .imm (insI (prog pat.toNat) 2), .imm (insI (prog pat.toNat) 3), .imm (insI (prog pat.toNat) 4)] = _
          rw [hIg]
          rfl
        have hrg : rg = 0 ∨ rg = 1 ∨ rg = 2 ∨ rg = 3 := by omega
        have hat0 : 0 ≤ at_ ∧ at_ < 64 := by omega
        have hA : (m at_.toNat == a) = true ∨ (m at_.toNat == a) = false := Bool.eq_false_or_eq_true _
        have hB : (getR r0 r1 r2 r3 rg == 0) = true ∨ (getR r0 r1 r2 r3 rg == 0) = false := Bool.eq_false_or_eq_true _
        have hk8 : kd = 1 ∨ kd = 2 ∨ (kd = 3 ∧ ((m at_.toNat == a) = true ∨ (m at_.toNat == a) = false)) ∨ kd = 4 ∨ kd = 5 ∨ (kd = 6 ∧ (b = 0 ∨ b = 1 ∨ b = 2 ∨ b = 3)) ∨ (kd = 7 ∧ ((getR r0 r1 r2 r3 rg == 0) = true ∨ (getR r0 r1 r2 r3 rg == 0) = false)) ∨ kd = 8 := by
          have h6 : kd = 6 → b = 0 ∨ b = 1 ∨ b = 2 ∨ b = 3 := by omega
          have h8 : kd = 1 ∨ kd = 2 ∨ kd = 3 ∨ kd = 4 ∨ kd = 5 ∨ kd = 6 ∨ kd = 7 ∨ kd = 8 := by omega
          rcases h8 with h | h | h | h | h | h | h | h
          · exact .inl h
          · exact .inr (.inl h)
          · exact .inr (.inr (.inl ⟨h, hA⟩))
          · exact .inr (.inr (.inr (.inl h)))
          · exact .inr (.inr (.inr (.inr (.inl h))))
          · exact .inr (.inr (.inr (.inr (.inr (.inl ⟨h, h6 h⟩)))))
          · exact .inr (.inr (.inr (.inr (.inr (.inr (.inl ⟨h, hB⟩))))))
          · exact .inr (.inr (.inr (.inr (.inr (.inr (.inr h))))))
        clear hA hB
        rcases hk8 with rfl | rfl | ⟨rfl, hw | hw⟩ | rfl | rfl | ⟨rfl, rfl | rfl | rfl | rfl⟩ | ⟨rfl, hv | hv⟩ | rfl
        all_goals rcases hrg with rfl | rfl | rfl | rfl
        all_goals (
          refine AW_all good tabQ tabQ_ok rfl rfl ?_ ?_
          · repeat' (first | exact trivial | exact rfl | exact (fun _ _ => rfl) | refine And.intro ?_ ?_ | intro _)
            all_goals (first | omega | exact of_decide_eq_true (by assumption) | decide | exact prog_lit _ _ | exact procs_lit _ _ | (rename_i hg; exact hg) | (rename_i hg; change (_ : Bool) = true; rw [hg]; rfl) | (change (_ : Bool) = true; simp_all; done) | trace_state)
          refine AW_seq ?_
          refine AW_all good tabQ tabQ_ok rfl rfl ?_ ?_
          · repeat' (first | exact trivial | exact rfl | exact (fun _ _ => rfl) | refine And.intro ?_ ?_ | intro _)
            all_goals (first | omega | exact of_decide_eq_true (by assumption) | decide | exact prog_lit _ _ | exact procs_lit _ _ | (rename_i hg; exact hg) | (rename_i hg; change (_ : Bool) = true; rw [hg]; rfl) | (change (_ : Bool) = true; simp_all; done) | trace_state)
          refine AW_seq ?_
          refine AW_seq ?_
          refine AW_all good tabQ tabQ_ok rfl rfl ?_ ?_
          · repeat' (first | exact trivial | exact rfl | exact (fun _ _ => rfl) | refine And.intro ?_ ?_ | intro _)
            all_goals (first | omega | exact of_decide_eq_true (by assumption) | decide | exact prog_lit _ _ | exact procs_lit _ _ | (rename_i hg; exact hg) | (rename_i hg; change (_ : Bool) = true; rw [hg]; rfl) | (change (_ : Bool) = true; simp_all; done) | trace_state)
          first
          | (
              refine AW_condF rfl (by first | exact rfl | exact hw | exact hv) ?_
              refine AW_skip ?_
            )
          | (
              refine AW_condT rfl (by first | exact rfl | exact hw | exact hv) ?_
              refine AW_all good tabQ tabQ_ok rfl rfl ?_ ?_
              · repeat' (first | exact trivial | exact rfl | exact (fun _ _ => rfl) | refine And.intro ?_ ?_ | intro _)
                all_goals (first | omega | exact of_decide_eq_true (by assumption) | decide | exact prog_lit _ _ | exact procs_lit _ _ | (rename_i hg; exact hg) | (rename_i hg; change (_ : Bool) = true; rw [hg]; rfl) | (change (_ : Bool) = true; simp_all; done) | trace_state)
            )
          refine AW_seq ?_
          refine AW_seq ?_
          refine AW_all good tabQ tabQ_ok rfl rfl ?_ ?_
          · repeat' (first | exact trivial | exact rfl | exact (fun _ _ => rfl) | refine And.intro ?_ ?_ | intro _)
            all_goals (first | omega | exact of_decide_eq_true (by assumption) | decide | exact prog_lit _ _ | exact procs_lit _ _ | (rename_i hg; exact hg) | (rename_i hg; change (_ : Bool) = true; rw [hg]; rfl) | (change (_ : Bool) = true; simp_all; done) | trace_state)
          first
          | (
              refine AW_condF rfl (by first | exact rfl | exact hw | exact hv) ?_
              refine AW_skip ?_
            )
          | (
              refine AW_condT rfl (by first | exact rfl | exact hw | exact hv) ?_
              refine AW_all good tabQ tabQ_ok rfl rfl ?_ ?_
              · repeat' (first | exact trivial | exact rfl | exact (fun _ _ => rfl) | refine And.intro ?_ ?_ | intro _)
                all_goals (first | omega | exact of_decide_eq_true (by assumption) | decide | exact prog_lit _ _ | exact procs_lit _ _ | (rename_i hg; exact hg) | (rename_i hg; change (_ : Bool) = true; rw [hg]; rfl) | (change (_ : Bool) = true; simp_all; done) | trace_state)
            )
          refine AW_seq ?_
          refine AW_seq ?_
          refine AW_all good tabQ tabQ_ok rfl rfl ?_ ?_
          · repeat' (first | exact trivial | exact rfl | exact (fun _ _ => rfl) | refine And.intro ?_ ?_ | intro _)
            all_goals (first | omega | exact of_decide_eq_true (by assumption) | decide | exact prog_lit _ _ | exact procs_lit _ _ | (rename_i hg; exact hg) | (rename_i hg; change (_ : Bool) = true; rw [hg]; rfl) | (change (_ : Bool) = true; simp_all; done) | trace_state)
          first
          | (
              refine AW_condF rfl (by first | exact rfl | exact hw | exact hv) ?_
              refine AW_skip ?_
            )
          | (
              refine AW_condT rfl (by first | exact rfl | exact hw | exact hv) ?_
              refine AW_seq ?_
              refine AW_all good tabQ tabQ_ok rfl rfl ?_ ?_
              · repeat' (first | exact trivial | exact rfl | exact (fun _ _ => rfl) | refine And.intro ?_ ?_ | intro _)
                all_goals (first | omega | exact of_decide_eq_true (by assumption) | decide | exact prog_lit _ _ | exact procs_lit _ _ | (rename_i hg; exact hg) | (rename_i hg; change (_ : Bool) = true; rw [hg]; rfl) | (change (_ : Bool) = true; simp_all; done) | trace_state)
              refine AW_seq ?_
              refine AW_all good tabQ tabQ_ok rfl rfl ?_ ?_
              · repeat' (first | exact trivial | exact rfl | exact (fun _ _ => rfl) | refine And.intro ?_ ?_ | intro _)
                all_goals (first | omega | exact of_decide_eq_true (by assumption) | decide | exact prog_lit _ _ | exact procs_lit _ _ | (rename_i hg; exact hg) | (rename_i hg; change (_ : Bool) = true; rw [hg]; rfl) | (change (_ : Bool) = true; simp_all; done) | trace_state)
              first
              | (
                  refine AW_condF rfl (by first | exact rfl | exact hw | exact hv) ?_
                  refine AW_skip ?_
                )
              | (
                  refine AW_condT rfl (by first | exact rfl | exact hw | exact hv) ?_
                  refine AW_all good tabQ tabQ_ok rfl rfl ?_ ?_
                  · repeat' (first | exact trivial | exact rfl | exact (fun _ _ => rfl) | refine And.intro ?_ ?_ | intro _)
                    all_goals (first | omega | exact of_decide_eq_true (by assumption) | decide | exact prog_lit _ _ | exact procs_lit _ _ | (rename_i hg; exact hg) | (rename_i hg; change (_ : Bool) = true; rw [hg]; rfl) | (change (_ : Bool) = true; simp_all; done) | trace_state)
                )
            )
          refine AW_seq ?_
          refine AW_seq ?_
          refine AW_all good tabQ tabQ_ok rfl rfl ?_ ?_
          · repeat' (first | exact trivial | exact rfl | exact (fun _ _ => rfl) | refine And.intro ?_ ?_ | intro _)
            all_goals (first | omega | exact of_decide_eq_true (by assumption) | decide | exact prog_lit _ _ | exact procs_lit _ _ | (rename_i hg; exact hg) | (rename_i hg; change (_ : Bool) = true; rw [hg]; rfl) | (change (_ : Bool) = true; simp_all; done) | trace_state)
          first
          | (
              refine AW_condF rfl (by first | exact rfl | exact hw | exact hv) ?_
              refine AW_skip ?_
            )
          | (
              refine AW_condT rfl (by first | exact rfl | exact hw | exact hv) ?_
              refine AW_all good tabQ tabQ_ok rfl rfl ?_ ?_
              · repeat' (first | exact trivial | exact rfl | exact (fun _ _ => rfl) | refine And.intro ?_ ?_ | intro _)
                all_goals (first | omega | exact of_decide_eq_true (by assumption) | decide | exact prog_lit _ _ | exact procs_lit _ _ | (rename_i hg; exact hg) | (rename_i hg; change (_ : Bool) = true; rw [hg]; rfl) | (change (_ : Bool) = true; simp_all; done) | trace_state)
            )
          refine AW_seq ?_
          refine AW_seq ?_
          refine AW_all good tabQ tabQ_ok rfl rfl ?_ ?_
          · repeat' (first | exact trivial | exact rfl | exact (fun _ _ => rfl) | refine And.intro ?_ ?_ | intro _)
            all_goals (first | omega | exact of_decide_eq_true (by assumption) | decide | exact prog_lit _ _ | exact procs_lit _ _ | (rename_i hg; exact hg) | (rename_i hg; change (_ : Bool) = true; rw [hg]; rfl) | (change (_ : Bool) = true; simp_all; done) | trace_state)
          first
          | (
              refine AW_condF rfl (by first | exact rfl | exact hw | exact hv) ?_
              refine AW_skip ?_
            )
          | (
              refine AW_condT rfl (by first | exact rfl | exact hw | exact hv) ?_
              refine AW_all good tabQ tabQ_ok rfl rfl ?_ ?_
              · repeat' (first | exact trivial | exact rfl | exact (fun _ _ => rfl) | refine And.intro ?_ ?_ | intro _)
                all_goals (first | omega | exact of_decide_eq_true (by assumption) | decide | exact prog_lit _ _ | exact procs_lit _ _ | (rename_i hg; exact hg) | (rename_i hg; change (_ : Bool) = true; rw [hg]; rfl) | (change (_ : Bool) = true; simp_all; done) | trace_state)
            )
          refine AW_seq ?_
          refine AW_seq ?_
          refine AW_all good tabQ tabQ_ok rfl rfl ?_ ?_
          · repeat' (first | exact trivial | exact rfl | exact (fun _ _ => rfl) | refine And.intro ?_ ?_ | intro _)
            all_goals (first | omega | exact of_decide_eq_true (by assumption) | decide | exact prog_lit _ _ | exact procs_lit _ _ | (rename_i hg; exact hg) | (rename_i hg; change (_ : Bool) = true; rw [hg]; rfl) | (change (_ : Bool) = true; simp_all; done) | trace_state)
          first
          | (
              refine AW_condF rfl (by first | exact rfl | exact hw | exact hv) ?_
              refine AW_skip ?_
            )
          | (
              refine AW_condT rfl (by first | exact rfl | exact hw | exact hv) ?_
              refine AW_drwE good rfl tabQ tabQ_ok rfl rfl rfl rfl ?_ ?_
              · repeat' (first | exact trivial | exact rfl | exact (fun _ _ => rfl) | refine And.intro ?_ ?_ | intro _)
                all_goals (first | omega | exact of_decide_eq_true (by assumption) | decide | exact prog_lit _ _ | exact procs_lit _ _ | (rename_i hg; exact hg) | (rename_i hg; change (_ : Bool) = true; rw [hg]; rfl) | (change (_ : Bool) = true; simp_all; done) | trace_state)
            )
          refine AW_seq ?_
          refine AW_seq ?_
          refine AW_all good tabQ tabQ_ok rfl rfl ?_ ?_
          · repeat' (first | exact trivial | exact rfl | exact (fun _ _ => rfl) | refine And.intro ?_ ?_ | intro _)
            all_goals (first | omega | exact of_decide_eq_true (by assumption) | decide | exact prog_lit _ _ | exact procs_lit _ _ | (rename_i hg; exact hg) | (rename_i hg; change (_ : Bool) = true; rw [hg]; rfl) | (change (_ : Bool) = true; simp_all; done) | trace_state)
          first
          | (
              refine AW_condF rfl (by first | exact rfl | exact hw | exact hv) ?_
              refine AW_skip ?_
            )
          | (
              refine AW_condT rfl (by first | exact rfl | exact hw | exact hv) ?_
              refine AW_all good tabQ tabQ_ok rfl rfl ?_ ?_
              · repeat' (first | exact trivial | exact rfl | exact (fun _ _ => rfl) | refine And.intro ?_ ?_ | intro _)
                all_goals (first | omega | exact of_decide_eq_true (by assumption) | decide | exact prog_lit _ _ | exact procs_lit _ _ | (rename_i hg; exact hg) | (rename_i hg; change (_ : Bool) = true; rw [hg]; rfl) | (change (_ : Bool) = true; simp_all; done) | trace_state)
            )
          refine AW_seq ?_
          refine AW_seq ?_
          refine AW_all good tabQ tabQ_ok rfl rfl ?_ ?_
          · repeat' (first | exact trivial | exact rfl | exact (fun _ _ => rfl) | refine And.intro ?_ ?_ | intro _)
            all_goals (first | omega | exact of_decide_eq_true (by assumption) | decide | exact prog_lit _ _ | exact procs_lit _ _ | (rename_i hg; exact hg) | (rename_i hg; change (_ : Bool) = true; rw [hg]; rfl) | (change (_ : Bool) = true; simp_all; done) | trace_state)
          refine AW_cond rfl (fun h2 => ?_) (fun h2 => ?_)
          · first
            | (exfalso; simp_all; done)
            | (
                refine AW_seq ?_
                refine AW_all good tabQ tabQ_ok rfl rfl ?_ ?_
                · repeat' (first | exact trivial | exact rfl | exact (fun _ _ => rfl) | refine And.intro ?_ ?_ | intro _)
                  all_goals (first | omega | exact of_decide_eq_true (by assumption) | decide | exact prog_lit _ _ | exact procs_lit _ _ | (rename_i hg; exact hg) | (rename_i hg; change (_ : Bool) = true; rw [hg]; rfl) | (change (_ : Bool) = true; simp_all; done) | trace_state)
                refine AW_seq ?_
                refine AW_all good tabQ tabQ_ok rfl rfl ?_ ?_
                · repeat' (first | exact trivial | exact rfl | exact (fun _ _ => rfl) | refine And.intro ?_ ?_ | intro _)
                  all_goals (first | omega | exact of_decide_eq_true (by assumption) | decide | exact prog_lit _ _ | exact procs_lit _ _ | (rename_i hg; exact hg) | (rename_i hg; change (_ : Bool) = true; rw [hg]; rfl) | (change (_ : Bool) = true; simp_all; done) | trace_state)
                refine AW_ret (bodyQ_ret rfl ?_ (Ends.le rfl ?_ ?_))
                · repeat' (first | exact trivial | exact rfl | exact (fun _ _ => rfl) | refine And.intro ?_ ?_ | intro _)
                  all_goals (first | omega | exact of_decide_eq_true (by assumption) | decide | exact prog_lit _ _ | exact procs_lit _ _ | (rename_i hg; exact hg) | (rename_i hg; change (_ : Bool) = true; rw [hg]; rfl) | (change (_ : Bool) = true; simp_all; done) | trace_state)
                · repeat' (first | exact trivial | exact rfl | exact (fun _ _ => rfl) | refine And.intro ?_ ?_ | intro _)
                  all_goals (first | omega | exact of_decide_eq_true (by assumption) | decide | exact prog_lit _ _ | exact procs_lit _ _ | (rename_i hg; exact hg) | (rename_i hg; change (_ : Bool) = true; rw [hg]; rfl) | (change (_ : Bool) = true; simp_all; done) | trace_state)
                refine ret31 hs hIg (by first | exact core7 (k := true) hv | exact core7 (k := false) hv | exact core3 (k := 1) (congrArg Prod.snd (cas_y hw)) | exact core3 (k := 0) (congrArg Prod.snd (cas_n hw)) | exact rfl) (by first | exact fun _ => rfl | exact with_put hat0.1 | exact fun i => (with_put hat0.1 i).trans (by rw [show (casG a _ (m at_.toNat)).1 = _ from congrArg Prod.fst (cas_y hw)]; rfl) | exact put_same (congrArg Prod.fst (cas_n hw)).symm) (by first | exact h2 | exact beq_self_eq_true _) rfl rfl
            )
          · first
            | (exfalso; simp_all; done)
            | (
                refine AW_skip ?_
                refine AW_seq ?_
                refine AW_all good tabQ tabQ_ok rfl rfl ?_ ?_
                · repeat' (first | exact trivial | exact rfl | exact (fun _ _ => rfl) | refine And.intro ?_ ?_ | intro _)
                  all_goals (first | omega | exact of_decide_eq_true (by assumption) | decide | exact prog_lit _ _ | exact procs_lit _ _ | (rename_i hg; exact hg) | (rename_i hg; change (_ : Bool) = true; rw [hg]; rfl) | (change (_ : Bool) = true; simp_all; done) | trace_state)
                refine AW_seq ?_
                refine AW_all good tabQ tabQ_ok rfl rfl ?_ ?_
                · repeat' (first | exact trivial | exact rfl | exact (fun _ _ => rfl) | refine And.intro ?_ ?_ | intro _)
                  all_goals (first | omega | exact of_decide_eq_true (by assumption) | decide | exact prog_lit _ _ | exact procs_lit _ _ | (rename_i hg; exact hg) | (rename_i hg; change (_ : Bool) = true; rw [hg]; rfl) | (change (_ : Bool) = true; simp_all; done) | trace_state)
                refine AW_ret (bodyQ_ret rfl ?_ (Ends.le rfl ?_ ?_))
                · repeat' (first | exact trivial | exact rfl | exact (fun _ _ => rfl) | refine And.intro ?_ ?_ | intro _)
                  all_goals (first | omega | exact of_decide_eq_true (by assumption) | decide | exact prog_lit _ _ | exact procs_lit _ _ | (rename_i hg; exact hg) | (rename_i hg; change (_ : Bool) = true; rw [hg]; rfl) | (change (_ : Bool) = true; simp_all; done) | trace_state)
                · repeat' (first | exact trivial | exact rfl | exact (fun _ _ => rfl) | refine And.intro ?_ ?_ | intro _)
                  all_goals (first | omega | exact of_decide_eq_true (by assumption) | decide | exact prog_lit _ _ | exact procs_lit _ _ | (rename_i hg; exact hg) | (rename_i hg; change (_ : Bool) = true; rw [hg]; rfl) | (change (_ : Bool) = true; simp_all; done) | trace_state)
                refine ret31 hs hIg (by first | exact core7 (k := true) hv | exact core7 (k := false) hv | exact core3 (k := 1) (congrArg Prod.snd (cas_y hw)) | exact core3 (k := 0) (congrArg Prod.snd (cas_n hw)) | exact rfl) (by first | exact fun _ => rfl | exact with_put hat0.1 | exact fun i => (with_put hat0.1 i).trans (by rw [show (casG a _ (m at_.toNat)).1 = _ from congrArg Prod.fst (cas_y hw)]; rfl) | exact put_same (congrArg Prod.fst (cas_n hw)).symm) (by exact Eq.trans h2 hdn.symm) (by rw [hdn]; rfl) rfl
            )
        )
    )
end Go.Proofs.Ytndfcbcmeeemfaa.Abs
