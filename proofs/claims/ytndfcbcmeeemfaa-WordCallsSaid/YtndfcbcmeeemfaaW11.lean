/-
  THE LAW WordApart as a contract.
-/
import Derived.Test.YtndfcbcmeeemfaaW10
namespace Go.Proofs.Ytndfcbcmeeemfaa.Abs
open Go
set_option maxRecDepth 10000

theorem blt0 (i : Nat) : Nat.blt i 0 = false := rfl

theorem apart7 (n : Nat) (ex : Bool) (m : Nat → Int) (k at_ x y : Int) : PCall Try.prog 7 [.one (uS n ex m), stepC k at_ x y] (.cv (ibool true)) := by
  refine PCall_of (ACall_body good Try.func7 rfl 98 rfl (by simp) ?_)
  refine AW_seq ?_
  refine AW_eff good tabZ tabZ_ok et0 (et0_ok _) [0] rfl rfl ?_ ?_
  · repeat' (first | exact trivial | exact rfl | exact (fun _ _ => rfl) | apply And.intro | intro _)
    all_goals (first | omega | (rename_i hg; exact hg) | (change (_ : Bool) = true; simp_all; done) | (simp_all; done) | (show (0 + min n 66) * 8 ≤ 140737488355328; omega) | (simp only [maxLen]; omega))
  refine AW_seq ?_
  refine AW_all good tabZ tabZ_ok rfl rfl ?_ ?_
  · repeat' (first | exact trivial | exact rfl | exact (fun _ _ => rfl) | apply And.intro | intro _)
    all_goals (first | omega | (rename_i hg; exact hg) | (change (_ : Bool) = true; simp_all; done) | (simp_all; done) | (show (0 + min n 66) * 8 ≤ 140737488355328; omega) | (simp only [maxLen]; omega))
  refine AW_seq ?_
  refine AW_eff good tabZ tabZ_ok et0 (et0_ok _) [2] rfl rfl ?_ ?_
  · repeat' (first | exact trivial | exact rfl | exact (fun _ _ => rfl) | apply And.intro | intro _)
    all_goals (first | omega | (rename_i hg; exact hg) | (change (_ : Bool) = true; simp_all; done) | (simp_all; done) | (show (0 + min n 66) * 8 ≤ 140737488355328; omega) | (simp only [maxLen]; omega))
  refine AW_seq ?_
  refine AW_all good tabZ tabZ_ok rfl rfl ?_ ?_
  · repeat' (first | exact trivial | exact rfl | exact (fun _ _ => rfl) | apply And.intro | intro _)
    all_goals (first | omega | (rename_i hg; exact hg) | (change (_ : Bool) = true; simp_all; done) | (simp_all; done) | (show (0 + min n 66) * 8 ≤ 140737488355328; omega) | (simp only [maxLen]; omega))
  refine AW_seq ?_
  refine AW_seq ?_
  refine AW_all good tabZ tabZ_ok rfl rfl ?_ ?_
  · repeat' (first | exact trivial | exact rfl | exact (fun _ _ => rfl) | apply And.intro | intro _)
    all_goals (first | omega | (rename_i hg; exact hg) | (change (_ : Bool) = true; simp_all; done) | (simp_all; done) | (show (0 + min n 66) * 8 ≤ 140737488355328; omega) | (simp only [maxLen]; omega))
  refine AW_cond rfl (fun h1 => ?_) (fun h1 => ?_)
  · first
    | (exfalso; simp_all; done)
    | (
        refine AW_seq ?_
        refine AW_all good tabZ tabZ_ok rfl rfl ?_ ?_
        · repeat' (first | exact trivial | exact rfl | exact (fun _ _ => rfl) | apply And.intro | intro _)
          all_goals (first | omega | (rename_i hg; exact hg) | (change (_ : Bool) = true; simp_all; done) | (simp_all; done) | (show (0 + min n 66) * 8 ≤ 140737488355328; omega) | (simp only [maxLen]; omega))
        refine AW_ret (bodyQ_ret rfl ?_ (Ends.intro rfl ?_ ?_))
        · repeat' (first | exact trivial | exact rfl | exact (fun _ _ => rfl) | apply And.intro | intro _)
          all_goals (first | omega | (rename_i hg; exact hg) | (change (_ : Bool) = true; simp_all; done) | (simp_all; done) | (show (0 + min n 66) * 8 ≤ 140737488355328; omega) | (simp only [maxLen]; omega))
        · repeat' (first | exact trivial | exact rfl | exact (fun _ _ => rfl) | apply And.intro | intro _)
          all_goals (first | omega | (rename_i hg; exact hg) | (change (_ : Bool) = true; simp_all; done) | (simp_all; done) | (show (0 + min n 66) * 8 ≤ 140737488355328; omega) | (simp only [maxLen]; omega))
        have hb : badK k (min n 66) at_ = true := by
          cases hb : badK k (min n 66) at_ <;> simp_all
        exact ret_bool (by rw [hb]; rfl)
    )
  · first
    | (exfalso; simp_all; done)
    | (
        refine AW_skip ?_
        refine AW_seq ?_
        refine AW_seq ?_
        refine AW_all good tabZ tabZ_ok rfl rfl ?_ ?_
        · repeat' (first | exact trivial | exact rfl | exact (fun _ _ => rfl) | apply And.intro | intro _)
          all_goals (first | omega | (rename_i hg; exact hg) | (change (_ : Bool) = true; simp_all; done) | (simp_all; done) | (show (0 + min n 66) * 8 ≤ 140737488355328; omega) | (simp only [maxLen]; omega))
        refine AW_cond rfl (fun h2 => ?_) (fun h2 => ?_)
        · first
          | (exfalso; simp_all; done)
          | (
              refine AW_seq ?_
              refine AW_all good tabZ tabZ_ok rfl rfl ?_ ?_
              · repeat' (first | exact trivial | exact rfl | exact (fun _ _ => rfl) | apply And.intro | intro _)
                all_goals (first | omega | (rename_i hg; exact hg) | (change (_ : Bool) = true; simp_all; done) | (simp_all; done) | (show (0 + min n 66) * 8 ≤ 140737488355328; omega) | (simp only [maxLen]; omega))
              refine AW_ret (bodyQ_ret rfl ?_ (Ends.intro rfl ?_ ?_))
              · repeat' (first | exact trivial | exact rfl | exact (fun _ _ => rfl) | apply And.intro | intro _)
                all_goals (first | omega | (rename_i hg; exact hg) | (change (_ : Bool) = true; simp_all; done) | (simp_all; done) | (show (0 + min n 66) * 8 ≤ 140737488355328; omega) | (simp only [maxLen]; omega))
              · repeat' (first | exact trivial | exact rfl | exact (fun _ _ => rfl) | apply And.intro | intro _)
                all_goals (first | omega | (rename_i hg; exact hg) | (change (_ : Bool) = true; simp_all; done) | (simp_all; done) | (show (0 + min n 66) * 8 ≤ 140737488355328; omega) | (simp only [maxLen]; omega))
              exfalso
              have hb : badK k (min n 66) at_ = false := by
                cases hb : badK k (min n 66) at_ <;> simp_all
              rw [hb] at h2
              simp [sameW, wordsAt, ivInt, blt0] at h2
          )
        · first
          | (exfalso; simp_all; done)
          | (
              refine AW_skip ?_
              refine AW_seq ?_
              refine AW_seq ?_
              refine AW_all good tabZ tabZ_ok rfl rfl ?_ ?_
              · repeat' (first | exact trivial | exact rfl | exact (fun _ _ => rfl) | apply And.intro | intro _)
                all_goals (first | omega | (rename_i hg; exact hg) | (change (_ : Bool) = true; simp_all; done) | (simp_all; done) | (show (0 + min n 66) * 8 ≤ 140737488355328; omega) | (simp only [maxLen]; omega))
              refine AW_block ?_
              have hb : badK k (min n 66) at_ = false := by
                cases hb : badK k (min n 66) at_ <;> simp_all
              refine AW_loopL (fun j : { i : Nat // i ≤ min n 66 } => [(0, .cv (.one (uS (min n 66) false m))), (3, .cv (.one (vpl (stepL k at_ x y)))), (6, .cv (.one (uS (bif badK k (min n 66) at_ then 0 else min n 66) false (putW m at_ (newW k x y (m at_.toNat)))))), (50, .cv (iint (min n 66 : Nat))), (51, .cv (iint j.1))]) (fun j => min n 66 - j.1) ⟨0, Nat.zero_le _⟩ ?_ ?_
              · exact ⟨rfl, rfl, rfl, rfl, rfl, trivial⟩
              rintro ⟨i, hi⟩
              refine AW_seq ?_
              refine AW_all good tabZ tabZ_ok rfl rfl ?_ ?_
              · repeat' (first | exact trivial | exact rfl | exact (fun _ _ => rfl) | apply And.intro | intro _)
                all_goals (first | omega | (rename_i hg; exact hg) | (change (_ : Bool) = true; simp_all; done) | (simp_all; done) | (show (0 + min n 66) * 8 ≤ 140737488355328; omega) | (simp only [maxLen]; omega))
              refine AW_seq ?_
              refine AW_cond rfl (fun h3 => ?_) (fun h3 => ?_)
              · first
                | (exfalso; simp_all; done)
                | (
                    refine AW_skip ?_
                    refine AW_seq ?_
                    refine AW_block ?_
                    refine AW_seq ?_
                    refine AW_all good tabZ tabZ_ok rfl rfl ?_ ?_
                    · repeat' (first | exact trivial | exact rfl | exact (fun _ _ => rfl) | apply And.intro | intro _)
                      all_goals (first | omega | (rename_i hg; exact hg) | (change (_ : Bool) = true; simp_all; done) | (simp_all; done) | (show (0 + min n 66) * 8 ≤ 140737488355328; omega) | (simp only [maxLen]; omega))
                    refine AW_seq ?_
                    refine AW_drw good rfl tabZ tabZ_ok rfl rfl rfl ?_ ?_
                    · repeat' (first | exact trivial | exact rfl | exact (fun _ _ => rfl) | apply And.intro | intro _)
                      all_goals (first | omega | (rename_i hg; exact hg) | (change (_ : Bool) = true; simp_all; done) | (simp_all; done) | (show (0 + min n 66) * 8 ≤ 140737488355328; omega) | (simp only [maxLen]; omega))
                    refine AW_cond rfl (fun h4 => ?_) (fun h4 => ?_)
                    · first
                      | (exfalso; simp_all; done)
                      | (
                          refine AW_seq ?_
                          refine AW_all good tabZ tabZ_ok rfl rfl ?_ ?_
                          · repeat' (first | exact trivial | exact rfl | exact (fun _ _ => rfl) | apply And.intro | intro _)
                            all_goals (first | omega | (rename_i hg; exact hg) | (change (_ : Bool) = true; simp_all; done) | (simp_all; done) | (show (0 + min n 66) * 8 ≤ 140737488355328; omega) | (simp only [maxLen]; omega))
                          refine AW_ret (bodyQ_ret rfl ?_ (Ends.intro rfl ?_ ?_))
                          · repeat' (first | exact trivial | exact rfl | exact (fun _ _ => rfl) | apply And.intro | intro _)
                            all_goals (first | omega | (rename_i hg; exact hg) | (change (_ : Bool) = true; simp_all; done) | (simp_all; done) | (show (0 + min n 66) * 8 ≤ 140737488355328; omega) | (simp only [maxLen]; omega))
                          · repeat' (first | exact trivial | exact rfl | exact (fun _ _ => rfl) | apply And.intro | intro _)
                            all_goals (first | omega | (rename_i hg; exact hg) | (change (_ : Bool) = true; simp_all; done) | (simp_all; done) | (show (0 + min n 66) * 8 ≤ 140737488355328; omega) | (simp only [maxLen]; omega))
                          exfalso
                          have h5 : putW m at_ (newW k x y (m at_.toNat)) i ≠ m i ∧ (i : Int) ≠ at_ := by
                            cases h6 : ((i : Int) != at_) <;> simp_all
                          refine h5.1 ?_
                          unfold putW
                          have h7 : Nat.beq i at_.toNat = false := by
                            cases h8 : Nat.beq i at_.toNat with
                            | false => rfl
                            | true =>
                              exfalso
                              have := Nat.eq_of_beq_eq_true h8
                              simp only [badK, badAt, Bool.or_eq_false_iff, Bool.not_eq_false', decide_eq_false_iff_not] at hb
                              omega
                          rw [h7]
                          rfl
                      )
                    · first
                      | (exfalso; simp_all; done)
                      | (
                          refine AW_skip ?_
                          refine AW_all good tabZ tabZ_ok rfl rfl ?_ ?_
                          · repeat' (first | exact trivial | exact rfl | exact (fun _ _ => rfl) | apply And.intro | intro _)
                            all_goals (first | omega | (rename_i hg; exact hg) | (change (_ : Bool) = true; simp_all; done) | (simp_all; done) | (show (0 + min n 66) * 8 ≤ 140737488355328; omega) | (simp only [maxLen]; omega))
                          have hlt : i < min n 66 := by simpa using h3
                          refine loop_next ⟨i + 1, hlt⟩ ⟨rfl, rfl, rfl, rfl, ?_, trivial⟩ ?_
                          · exact congrArg (fun z => SV.cv (iint z)) (next_int i (min n 66) hlt (by simp only [maxLen]; omega))
                          · show min n 66 - (i + 1) < min n 66 - i
                            omega
                      )
                )
              · first
                | (exfalso; simp_all; done)
                | (
                    refine AW_exit ?_
                    refine AW_seq ?_
                    refine AW_all good tabZ tabZ_ok rfl rfl ?_ ?_
                    · repeat' (first | exact trivial | exact rfl | exact (fun _ _ => rfl) | apply And.intro | intro _)
                      all_goals (first | omega | (rename_i hg; exact hg) | (change (_ : Bool) = true; simp_all; done) | (simp_all; done) | (show (0 + min n 66) * 8 ≤ 140737488355328; omega) | (simp only [maxLen]; omega))
                    refine AW_seq ?_
                    refine AW_all good tabZ tabZ_ok rfl rfl ?_ ?_
                    · repeat' (first | exact trivial | exact rfl | exact (fun _ _ => rfl) | apply And.intro | intro _)
                      all_goals (first | omega | (rename_i hg; exact hg) | (change (_ : Bool) = true; simp_all; done) | (simp_all; done) | (show (0 + min n 66) * 8 ≤ 140737488355328; omega) | (simp only [maxLen]; omega))
                    refine AW_seq ?_
                    refine AW_all good tabZ tabZ_ok rfl rfl ?_ ?_
                    · repeat' (first | exact trivial | exact rfl | exact (fun _ _ => rfl) | apply And.intro | intro _)
                      all_goals (first | omega | (rename_i hg; exact hg) | (change (_ : Bool) = true; simp_all; done) | (simp_all; done) | (show (0 + min n 66) * 8 ≤ 140737488355328; omega) | (simp only [maxLen]; omega))
                    refine AW_ret (bodyQ_ret rfl ?_ (Ends.intro rfl ?_ ?_))
                    · repeat' (first | exact trivial | exact rfl | exact (fun _ _ => rfl) | apply And.intro | intro _)
                      all_goals (first | omega | (rename_i hg; exact hg) | (change (_ : Bool) = true; simp_all; done) | (simp_all; done) | (show (0 + min n 66) * 8 ≤ 140737488355328; omega) | (simp only [maxLen]; omega))
                    · repeat' (first | exact trivial | exact rfl | exact (fun _ _ => rfl) | apply And.intro | intro _)
                      all_goals (first | omega | (rename_i hg; exact hg) | (change (_ : Bool) = true; simp_all; done) | (simp_all; done) | (show (0 + min n 66) * 8 ≤ 140737488355328; omega) | (simp only [maxLen]; omega))
                    have hA : badAt (min n 66) at_ = false := by
                      simp only [badK, Bool.or_eq_false_iff] at hb
                      exact hb.2
                    refine ret_bool ?_
                    simp only [wordsAt_eq, hb, hA, cond_false, putW_at]
                    simp
                )
          )
    )
end Go.Proofs.Ytndfcbcmeeemfaa.Abs
