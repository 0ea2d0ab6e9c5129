/-
  A PROCESS'S STEP, as the package hands it out.
-/
import Derived.Test.YtndfcbcmeeemfaaM19
namespace Go.Proofs.Ytndfcbcmeeemfaa.Abs
open Go
set_option maxRecDepth 10000

noncomputable def tabU : Tab := tabAdd 31 (fun args => match args with
  | [.one (.imm (.sl 1 n _ cell)), c] => match asPrc c with
    | some (p, q) => some (.cv (tC (stepW (wordsAt cell) p) (stepP (wordsAt cell) p)), n = 64 ∧ isWords n cell ∧ q ∧ mayP p = true)
    | none => none
  | _ => none) tabQ
theorem tabU_ok : TabOk Try.prog tabU := by
  refine tabAdd_ok rfl (fun args r p h hp => ?_) tabQ_ok
  split at h
  · rename_i n ex cell c
    split at h
    · rename_i p q hc
      simp only [Option.some.injEq, Prod.mk.injEq] at h; obtain ⟨rfl, rfl⟩ := h
      obtain ⟨rfl, h2, h3, h4⟩ := hp
      exact (step31 ex (wordsAt cell) p h4).args (TLe.cons (words_le h2) (TLe.cons (asPrc_le hc h3) TLe.nil))
    · cases h
  · cases h

def zeroP : Prc := ⟨0, fun _ => ⟨0, 0, 0, 0, 0⟩, 0, 0, 0, 0, 0, false, 0⟩
def goodS (n : Nat) (p : Prc) : Bool := bif !mayP p then false else !((n : Int) != 64)
def stepX (n : Nat) (m : Nat → Int) (p : Prc) : Prc := bif goodS n p then stepP m p else zeroP

theorem step35 (n : Nat) (ex : Bool) (m : Nat → Int) (p : Prc) : PCall Try.prog 35 [.one (uS n ex m), prcC p] (.tup [.one (uS (bif goodS n p then 64 else 0) false (stepW m p)), prcC (stepX n m p), iint (bif goodS n p then 0 else 1)]) := by
  refine PCall_of (ACall_body good Try.func35 rfl 24 rfl (by simp) ?_)
  refine AW_seq ?_
  refine AW_all good tabU tabU_ok rfl rfl ?_ ?_
  · repeat' (first | exact trivial | exact rfl | exact (fun _ _ => rfl) | refine And.intro ?_ ?_ | intro _)
    all_goals (first | omega | exact of_decide_eq_true (by assumption) | decide | exact hmay | exact hmx | exact hn64 | exact prog_lit _ _ | exact procs_lit _ _ | (rename_i hg; exact hg) | (rename_i hg; change (_ : Bool) = true; rw [hg]; rfl) | (change (_ : Bool) = true; simp_all; done) | trace_state)
  refine AW_seq ?_
  refine AW_seq ?_
  refine AW_all good tabU tabU_ok rfl rfl ?_ ?_
  · repeat' (first | exact trivial | exact rfl | exact (fun _ _ => rfl) | refine And.intro ?_ ?_ | intro _)
    all_goals (first | omega | exact of_decide_eq_true (by assumption) | decide | exact hmay | exact hmx | exact hn64 | exact prog_lit _ _ | exact procs_lit _ _ | (rename_i hg; exact hg) | (rename_i hg; change (_ : Bool) = true; rw [hg]; rfl) | (change (_ : Bool) = true; simp_all; done) | trace_state)
  refine AW_cond rfl (fun h1 => ?_) (fun h1 => ?_)
  · first
    | (exfalso; simp_all; done)
    | (
        refine AW_seq ?_
        refine AW_all good tabU tabU_ok rfl rfl ?_ ?_
        · repeat' (first | exact trivial | exact rfl | exact (fun _ _ => rfl) | refine And.intro ?_ ?_ | intro _)
          all_goals (first | omega | exact of_decide_eq_true (by assumption) | decide | exact hmay | exact hmx | exact hn64 | exact prog_lit _ _ | exact procs_lit _ _ | (rename_i hg; exact hg) | (rename_i hg; change (_ : Bool) = true; rw [hg]; rfl) | (change (_ : Bool) = true; simp_all; done) | trace_state)
        refine AW_ret (bodyQ_ret rfl ?_ (Ends.le rfl ?_ ?_))
        · repeat' (first | exact trivial | exact rfl | exact (fun _ _ => rfl) | refine And.intro ?_ ?_ | intro _)
          all_goals (first | omega | exact of_decide_eq_true (by assumption) | decide | exact hmay | exact hmx | exact hn64 | exact prog_lit _ _ | exact procs_lit _ _ | (rename_i hg; exact hg) | (rename_i hg; change (_ : Bool) = true; rw [hg]; rfl) | (change (_ : Bool) = true; simp_all; done) | trace_state)
        · repeat' (first | exact trivial | exact rfl | exact (fun _ _ => rfl) | refine And.intro ?_ ?_ | intro _)
          all_goals (first | omega | exact of_decide_eq_true (by assumption) | decide | exact hmay | exact hmx | exact hn64 | exact prog_lit _ _ | exact procs_lit _ _ | (rename_i hg; exact hg) | (rename_i hg; change (_ : Bool) = true; rw [hg]; rfl) | (change (_ : Bool) = true; simp_all; done) | trace_state)
        have hgd : goodS n p = false := by
          have h : (bif !mayP p then true else ((n : Int) != 64)) = true := h1
          unfold goodS
          cases hq : mayP p with
          | false => rfl
          | true => rw [hq] at h; have h : ((n : Int) != 64) = true := h; show (!((n : Int) != 64)) = false; rw [h]; rfl
        unfold stepX
        rw [hgd]
        refine SLe.triple (CLe.imm (ILe.sl rfl (by simp) (.inl rfl))) (CLe.aggL ⟨CLe.imm (ILe.sl rfl (by simp) (.inl rfl)), CLe.of_eq rfl, CLe.of_eq rfl, CLe.of_eq rfl, CLe.of_eq rfl, CLe.of_eq rfl, CLe.of_eq rfl, CLe.of_eq rfl, trivial⟩) (CLe.of_eq rfl)
    )
  · first
    | (exfalso; simp_all; done)
    | (
        refine AW_skip ?_
        refine AW_seq ?_
        have h : (bif !mayP p then true else ((n : Int) != 64)) = false := h1
        have hmay : mayP p = true := by
          cases hq : mayP p with
          | true => rfl
          | false => rw [hq] at h; cases h
        rw [hmay] at h
        have hn64 : n = 64 := by
          have h : ((n : Int) != 64) = false := h
          simp at h
          omega
        subst hn64
        have hgd : goodS 64 p = true := by unfold goodS; rw [hmay]; rfl
        refine AW_all good tabU tabU_ok rfl rfl ?_ ?_
        · repeat' (first | exact trivial | exact rfl | exact (fun _ _ => rfl) | refine And.intro ?_ ?_ | intro _)
          all_goals (first | omega | exact of_decide_eq_true (by assumption) | decide | exact hmay | exact hmx | exact hn64 | exact prog_lit _ _ | exact procs_lit _ _ | (rename_i hg; exact hg) | (rename_i hg; change (_ : Bool) = true; rw [hg]; rfl) | (change (_ : Bool) = true; simp_all; done) | trace_state)
        refine AW_seq ?_
        refine AW_drwE good rfl tabU tabU_ok rfl rfl rfl rfl ?_ ?_
        · repeat' (first | exact trivial | exact rfl | exact (fun _ _ => rfl) | refine And.intro ?_ ?_ | intro _)
          all_goals (first | omega | exact of_decide_eq_true (by assumption) | decide | exact hmay | exact hmx | exact hn64 | exact prog_lit _ _ | exact procs_lit _ _ | (rename_i hg; exact hg) | (rename_i hg; change (_ : Bool) = true; rw [hg]; rfl) | (change (_ : Bool) = true; simp_all; done) | trace_state)
        refine AW_ret (bodyQ_ret rfl ?_ (Ends.le rfl ?_ ?_))
        · repeat' (first | exact trivial | exact rfl | exact (fun _ _ => rfl) | refine And.intro ?_ ?_ | intro _)
          all_goals (first | omega | exact of_decide_eq_true (by assumption) | decide | exact hmay | exact hmx | exact hn64 | exact prog_lit _ _ | exact procs_lit _ _ | (rename_i hg; exact hg) | (rename_i hg; change (_ : Bool) = true; rw [hg]; rfl) | (change (_ : Bool) = true; simp_all; done) | trace_state)
        · repeat' (first | exact trivial | exact rfl | exact (fun _ _ => rfl) | refine And.intro ?_ ?_ | intro _)
          all_goals (first | omega | exact of_decide_eq_true (by assumption) | decide | exact hmay | exact hmx | exact hn64 | exact prog_lit _ _ | exact procs_lit _ _ | (rename_i hg; exact hg) | (rename_i hg; change (_ : Bool) = true; rw [hg]; rfl) | (change (_ : Bool) = true; simp_all; done) | trace_state)
        unfold stepX
        rw [hgd]
        exact SLe.of_eq rfl
    )
end Go.Proofs.Ytndfcbcmeeemfaa.Abs
