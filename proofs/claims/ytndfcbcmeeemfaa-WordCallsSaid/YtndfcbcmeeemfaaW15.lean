/-
  THE LAW WordCalls as a contract.
-/
import Derived.Test.YtndfcbcmeeemfaaW14
namespace Go.Proofs.Ytndfcbcmeeemfaa.Abs
open Go
set_option maxRecDepth 10000

def tabC : Tab := tabAdd 24 (fun args => match args with
  | [.one (.imm (.sl 1 n _ cell)), .agg [.imm (.val (.int .i64 k)), .imm (.val (.int .i64 at_)), .imm (.val (.int .u64 x)), .imm (.val (.int .u64 y))]] => some (refV n (wordsAt cell) k at_ x y, isWords n cell)
  | _ => none) tabA
theorem tabC_ok : TabOk Try.prog tabC := by
  refine tabAdd_ok rfl (fun args r p h hp => ?_) tabA_ok
  split at h
  · rename_i n ex cell k at_ x y
    simp only [Option.some.injEq, Prod.mk.injEq] at h; obtain ⟨rfl, rfl⟩ := h; exact (refdo24 n ex (wordsAt cell) k at_ x y).args (TLe.cons (words_le hp) (TLe.refl _))
  · cases h

theorem bad1 (n : Nat) (at_ : Int) : badK 1 n at_ = badAt n at_ := rfl
theorem bad2 (n : Nat) (at_ : Int) : badK 2 n at_ = badAt n at_ := rfl
theorem bad3 (n : Nat) (at_ : Int) : badK 3 n at_ = badAt n at_ := rfl
theorem bad4 (n : Nat) (at_ : Int) : badK 4 n at_ = badAt n at_ := rfl
theorem new2 (x y w : Int) : newW 2 x y w = x := rfl
theorem new3 (x y w : Int) : newW 3 x y w = (casG x y w).1 := rfl
theorem new4 (x y w : Int) : newW 4 x y w = IntKind.u64.wrap (w + x) := rfl
theorem ans1 (x y w : Int) : ansW 1 x y w = w := rfl
theorem ans3 (x y w : Int) : ansW 3 x y w = (casG x y w).2 := rfl
theorem ans4 (x y w : Int) : ansW 4 x y w = w := rfl
theorem put_with (n : Nat) (m : Nat → Int) (at_ v : Int) : sameW (bif badAt n at_ then 0 else n) (putW m at_ v) (bif badAt n at_ then 0 else n) (withW m at_ v) = true := by
  cases hb : badAt n at_ with
  | true => simp [sameW]
  | false =>
    have h0 : 0 ≤ at_ := by
      simp only [badAt, Bool.or_eq_false_iff, decide_eq_false_iff_not] at hb
      omega
    refine sameW_of fun i => ?_
    have : Nat.beq i at_.toNat = ((i : Int) == at_) := by
      cases h : (i : Int) == at_ with
      | true =>
        have : (i : Int) = at_ := by simpa using h
        subst this
        simp
      | false =>
        have h1 : ¬ (i : Int) = at_ := by simpa using h
        cases h2 : Nat.beq i at_.toNat with
        | false => rfl
        | true => exact absurd (by have := Nat.eq_of_beq_eq_true h2; omega) h1
    unfold putW withW
    rw [this]
theorem put_with' (k : Int) (n : Nat) (m : Nat → Int) (at_ v : Int) : sameW (bif badK k n at_ then 0 else n) (putW m at_ v) (bif badK k n at_ then 0 else n) (withW m at_ v) = true := by
  cases hb : badK k n at_ with
  | true => simp [sameW]
  | false =>
    have h1 : badAt n at_ = false := by
      simp only [badK, Bool.or_eq_false_iff] at hb
      exact hb.2
    have := put_with n m at_ v
    rw [h1] at this
    exact this
theorem put_withL (n : Nat) (m : Nat → Int) (at_ v : Int) : sameW (bif badAt n at_ then 0 else n) (fun i => bif Nat.beq i at_.toNat then v else m i) (bif badAt n at_ then 0 else n) (withW m at_ v) = true := put_with n m at_ v
theorem refl2 (x : Int) : (x != x) = false := by simp
theorem calls6 (n : Nat) (ex : Bool) (m : Nat → Int) (k at_ x y : Int) : PCall Try.prog 6 [.one (uS n ex m), stepC k at_ x y] (.cv (ibool true)) := by
  refine PCall_of (ACall_body good Try.func6 rfl 190 rfl (by simp) ?_)
  refine AW_seq ?_
  refine AW_eff good tabC tabC_ok et0 (et0_ok _) [0] rfl rfl ?_ ?_
  · repeat' (first | exact trivial | exact rfl | exact (fun _ _ => rfl) | apply And.intro | intro _)
    all_goals (first | omega | (rename_i hg; exact hg) | (rename_i hg; change (_ : Bool) = true; rw [hg]; rfl) | (change (_ : Bool) = true; simp_all; done) | (simp_all; done))
  refine AW_seq ?_
  refine AW_all good tabC tabC_ok rfl rfl ?_ ?_
  · repeat' (first | exact trivial | exact rfl | exact (fun _ _ => rfl) | apply And.intro | intro _)
    all_goals (first | omega | (rename_i hg; exact hg) | (rename_i hg; change (_ : Bool) = true; rw [hg]; rfl) | (change (_ : Bool) = true; simp_all; done) | (simp_all; done))
  refine AW_seq ?_
  refine AW_all good tabC tabC_ok rfl rfl ?_ ?_
  · repeat' (first | exact trivial | exact rfl | exact (fun _ _ => rfl) | apply And.intro | intro _)
    all_goals (first | omega | (rename_i hg; exact hg) | (rename_i hg; change (_ : Bool) = true; rw [hg]; rfl) | (change (_ : Bool) = true; simp_all; done) | (simp_all; done))
  refine AW_seq ?_
  refine AW_all good tabC tabC_ok rfl rfl ?_ ?_
  · repeat' (first | exact trivial | exact rfl | exact (fun _ _ => rfl) | apply And.intro | intro _)
    all_goals (first | omega | (rename_i hg; exact hg) | (rename_i hg; change (_ : Bool) = true; rw [hg]; rfl) | (change (_ : Bool) = true; simp_all; done) | (simp_all; done))
  refine AW_seq ?_
  refine AW_all good tabC tabC_ok rfl rfl ?_ ?_
  · repeat' (first | exact trivial | exact rfl | exact (fun _ _ => rfl) | apply And.intro | intro _)
    all_goals (first | omega | (rename_i hg; exact hg) | (rename_i hg; change (_ : Bool) = true; rw [hg]; rfl) | (change (_ : Bool) = true; simp_all; done) | (simp_all; done))
  refine AW_seq ?_
  refine AW_all good tabC tabC_ok rfl rfl ?_ ?_
  · repeat' (first | exact trivial | exact rfl | exact (fun _ _ => rfl) | apply And.intro | intro _)
    all_goals (first | omega | (rename_i hg; exact hg) | (rename_i hg; change (_ : Bool) = true; rw [hg]; rfl) | (change (_ : Bool) = true; simp_all; done) | (simp_all; done))
  refine AW_seq ?_
  refine AW_all good tabC tabC_ok rfl rfl ?_ ?_
  · repeat' (first | exact trivial | exact rfl | exact (fun _ _ => rfl) | apply And.intro | intro _)
    all_goals (first | omega | (rename_i hg; exact hg) | (rename_i hg; change (_ : Bool) = true; rw [hg]; rfl) | (change (_ : Bool) = true; simp_all; done) | (simp_all; done))
  refine AW_seq ?_
  refine AW_all good tabC tabC_ok rfl rfl ?_ ?_
  · repeat' (first | exact trivial | exact rfl | exact (fun _ _ => rfl) | apply And.intro | intro _)
    all_goals (first | omega | (rename_i hg; exact hg) | (rename_i hg; change (_ : Bool) = true; rw [hg]; rfl) | (change (_ : Bool) = true; simp_all; done) | (simp_all; done))
  refine AW_seq ?_
  refine AW_all good tabC tabC_ok rfl rfl ?_ ?_
  · repeat' (first | exact trivial | exact rfl | exact (fun _ _ => rfl) | apply And.intro | intro _)
    all_goals (first | omega | (rename_i hg; exact hg) | (rename_i hg; change (_ : Bool) = true; rw [hg]; rfl) | (change (_ : Bool) = true; simp_all; done) | (simp_all; done))
  refine AW_seq ?_
  refine AW_all good tabC tabC_ok rfl rfl ?_ ?_
  · repeat' (first | exact trivial | exact rfl | exact (fun _ _ => rfl) | apply And.intro | intro _)
    all_goals (first | omega | (rename_i hg; exact hg) | (rename_i hg; change (_ : Bool) = true; rw [hg]; rfl) | (change (_ : Bool) = true; simp_all; done) | (simp_all; done))
  refine AW_seq ?_
  refine AW_all good tabC tabC_ok rfl rfl ?_ ?_
  · repeat' (first | exact trivial | exact rfl | exact (fun _ _ => rfl) | apply And.intro | intro _)
    all_goals (first | omega | (rename_i hg; exact hg) | (rename_i hg; change (_ : Bool) = true; rw [hg]; rfl) | (change (_ : Bool) = true; simp_all; done) | (simp_all; done))
  refine AW_seq ?_
  refine AW_all good tabC tabC_ok rfl rfl ?_ ?_
  · repeat' (first | exact trivial | exact rfl | exact (fun _ _ => rfl) | apply And.intro | intro _)
    all_goals (first | omega | (rename_i hg; exact hg) | (rename_i hg; change (_ : Bool) = true; rw [hg]; rfl) | (change (_ : Bool) = true; simp_all; done) | (simp_all; done))
  refine AW_seq ?_
  refine AW_seq ?_
  refine AW_all good tabC tabC_ok rfl rfl ?_ ?_
  · repeat' (first | exact trivial | exact rfl | exact (fun _ _ => rfl) | apply And.intro | intro _)
    all_goals (first | omega | (rename_i hg; exact hg) | (rename_i hg; change (_ : Bool) = true; rw [hg]; rfl) | (change (_ : Bool) = true; simp_all; done) | (simp_all; done))
  refine AW_cond rfl (fun h1 => ?_) (fun h1 => ?_)
  · first
    | (exfalso; simp_all; done)
    | (
        refine AW_seq ?_
        refine AW_all good tabC tabC_ok rfl rfl ?_ ?_
        · repeat' (first | exact trivial | exact rfl | exact (fun _ _ => rfl) | apply And.intro | intro _)
          all_goals (first | omega | (rename_i hg; exact hg) | (rename_i hg; change (_ : Bool) = true; rw [hg]; rfl) | (change (_ : Bool) = true; simp_all; done) | (simp_all; done))
        refine AW_ret (bodyQ_ret rfl ?_ (Ends.intro rfl ?_ ?_))
        · repeat' (first | exact trivial | exact rfl | exact (fun _ _ => rfl) | apply And.intro | intro _)
          all_goals (first | omega | (rename_i hg; exact hg) | (rename_i hg; change (_ : Bool) = true; rw [hg]; rfl) | (change (_ : Bool) = true; simp_all; done) | (simp_all; done))
        · repeat' (first | exact trivial | exact rfl | exact (fun _ _ => rfl) | apply And.intro | intro _)
          all_goals (first | omega | (rename_i hg; exact hg) | (rename_i hg; change (_ : Bool) = true; rw [hg]; rfl) | (change (_ : Bool) = true; simp_all; done) | (simp_all; done))
        exfalso
        simp only [wordsAt_eq, bad1, bad2, bad3, new2, new3, ans1, ans3, put_with, refl2, beq_self_eq_true, Bool.not_true, cond_false] at h1
        simp at h1
    )
  · first
    | (exfalso; simp_all; done)
    | (
        refine AW_skip ?_
        refine AW_seq ?_
        refine AW_all good tabC tabC_ok rfl rfl ?_ ?_
        · repeat' (first | exact trivial | exact rfl | exact (fun _ _ => rfl) | apply And.intro | intro _)
          all_goals (first | omega | (rename_i hg; exact hg) | (rename_i hg; change (_ : Bool) = true; rw [hg]; rfl) | (change (_ : Bool) = true; simp_all; done) | (simp_all; done))
        refine AW_ret (bodyQ_ret rfl ?_ (Ends.intro rfl ?_ ?_))
        · repeat' (first | exact trivial | exact rfl | exact (fun _ _ => rfl) | apply And.intro | intro _)
          all_goals (first | omega | (rename_i hg; exact hg) | (rename_i hg; change (_ : Bool) = true; rw [hg]; rfl) | (change (_ : Bool) = true; simp_all; done) | (simp_all; done))
        · repeat' (first | exact trivial | exact rfl | exact (fun _ _ => rfl) | apply And.intro | intro _)
          all_goals (first | omega | (rename_i hg; exact hg) | (rename_i hg; change (_ : Bool) = true; rw [hg]; rfl) | (change (_ : Bool) = true; simp_all; done) | (simp_all; done))
        refine ret_bool ?_
        simp only [wordsAt_eq, bad4, new4, ans4, put_withL, put_with', beq_self_eq_true, cond_true]
    )
end Go.Proofs.Ytndfcbcmeeemfaa.Abs
