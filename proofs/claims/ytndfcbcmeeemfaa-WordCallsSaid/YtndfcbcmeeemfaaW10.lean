/-
  THE LAW WordDoes as a contract.
-/
import Derived.Test.YtndfcbcmeeemfaaW9
namespace Go.Proofs.Ytndfcbcmeeemfaa.Abs
open Go
set_option maxRecDepth 10000

theorem sameW_self (n : Nat) (a : Nat → Int) : sameW n a n a = true := sameW_of fun _ => rfl

def tabZ : Tab := tabAdd 23 (fun args => match args with
  | [.one (.imm (.sl 1 n _ cell)), .agg [.imm (.val (.int .i64 k)), .imm (.val (.int .i64 at_)), .imm (.val (.int .u64 x)), .imm (.val (.int .u64 y))]] => some (doV n (wordsAt cell) k at_ x y, isWords n cell)
  | _ => none) tabY
theorem tabZ_ok : TabOk Try.prog tabZ := by
  refine tabAdd_ok rfl (fun args r p h hp => ?_) tabY_ok
  split at h
  · rename_i n ex cell k at_ x y
    simp only [Option.some.injEq, Prod.mk.injEq] at h; obtain ⟨rfl, rfl⟩ := h; exact (do23 n ex (wordsAt cell) k at_ x y).args (TLe.cons (words_le hp) (TLe.refl _))
  · cases h

theorem does8 (n : Nat) (ex : Bool) (m : Nat → Int) (k at_ x y : Int) : PCall Try.prog 8 [.one (uS n ex m), stepC k at_ x y] (.cv (ibool true)) := by
  refine PCall_of (ACall_body good Try.func8 rfl 148 rfl (by simp) ?_)
  refine AW_seq ?_
  refine AW_all good tabZ tabZ_ok rfl rfl ?_ ?_
  · repeat' (first | exact trivial | exact rfl | exact (fun _ _ => rfl) | apply And.intro | intro _)
    all_goals (first | omega | (rename_i hg; exact hg) | (change (_ : Bool) = true; simp_all; done) | (simp_all; done))
  refine AW_seq ?_
  refine AW_all good tabZ tabZ_ok rfl rfl ?_ ?_
  · repeat' (first | exact trivial | exact rfl | exact (fun _ _ => rfl) | apply And.intro | intro _)
    all_goals (first | omega | (rename_i hg; exact hg) | (change (_ : Bool) = true; simp_all; done) | (simp_all; done))
  refine AW_seq ?_
  refine AW_all good tabZ tabZ_ok rfl rfl ?_ ?_
  · repeat' (first | exact trivial | exact rfl | exact (fun _ _ => rfl) | apply And.intro | intro _)
    all_goals (first | omega | (rename_i hg; exact hg) | (change (_ : Bool) = true; simp_all; done) | (simp_all; done))
  refine AW_seq ?_
  refine AW_seq ?_
  refine AW_all good tabZ tabZ_ok rfl rfl ?_ ?_
  · repeat' (first | exact trivial | exact rfl | exact (fun _ _ => rfl) | apply And.intro | intro _)
    all_goals (first | omega | (rename_i hg; exact hg) | (change (_ : Bool) = true; simp_all; done) | (simp_all; done))
  refine AW_block ?_
  refine AW_seq ?_
  refine AW_all good tabZ tabZ_ok rfl rfl ?_ ?_
  · repeat' (first | exact trivial | exact rfl | exact (fun _ _ => rfl) | apply And.intro | intro _)
    all_goals (first | omega | (rename_i hg; exact hg) | (change (_ : Bool) = true; simp_all; done) | (simp_all; done))
  refine AW_cond rfl (fun h1 => ?_) (fun h1 => ?_)
  · first
    | (exfalso; simp_all; done)
    | (
        refine AW_seq ?_
        refine AW_all good tabZ tabZ_ok rfl rfl ?_ ?_
        · repeat' (first | exact trivial | exact rfl | exact (fun _ _ => rfl) | apply And.intro | intro _)
          all_goals (first | omega | (rename_i hg; exact hg) | (change (_ : Bool) = true; simp_all; done) | (simp_all; done))
        refine AW_seq ?_
        refine AW_all good tabZ tabZ_ok rfl rfl ?_ ?_
        · repeat' (first | exact trivial | exact rfl | exact (fun _ _ => rfl) | apply And.intro | intro _)
          all_goals (first | omega | (rename_i hg; exact hg) | (change (_ : Bool) = true; simp_all; done) | (simp_all; done))
        refine AW_ret (bodyQ_ret rfl ?_ (Ends.intro rfl ?_ ?_))
        · repeat' (first | exact trivial | exact rfl | exact (fun _ _ => rfl) | apply And.intro | intro _)
          all_goals (first | omega | (rename_i hg; exact hg) | (change (_ : Bool) = true; simp_all; done) | (simp_all; done))
        · repeat' (first | exact trivial | exact rfl | exact (fun _ _ => rfl) | apply And.intro | intro _)
          all_goals (first | omega | (rename_i hg; exact hg) | (change (_ : Bool) = true; simp_all; done) | (simp_all; done))
        obtain rfl : k = 1 := by simpa using h1
        refine ret_bool ?_
        have e : badK 1 (min n 66) at_ = badAt (min n 66) at_ := rfl
        have e1 : ∀ w, newW 1 x y w = w := fun _ => rfl
        have e2 : ∀ w, ansW 1 x y w = w := fun _ => rfl
        simp only [wordsAt_eq, e, e1, e2]
        cases hb : badAt (min n 66) at_ with
        | true => simp [sameW]
        | false => simp [sameW_of (putW_self m at_)]
    )
  · first
    | (exfalso; simp_all; done)
    | (
        refine AW_seq ?_
        refine AW_all good tabZ tabZ_ok rfl rfl ?_ ?_
        · repeat' (first | exact trivial | exact rfl | exact (fun _ _ => rfl) | apply And.intro | intro _)
          all_goals (first | omega | (rename_i hg; exact hg) | (change (_ : Bool) = true; simp_all; done) | (simp_all; done))
        refine AW_cond rfl (fun h2 => ?_) (fun h2 => ?_)
        · first
          | (exfalso; simp_all; done)
          | (
              refine AW_seq ?_
              refine AW_all good tabZ tabZ_ok rfl rfl ?_ ?_
              · repeat' (first | exact trivial | exact rfl | exact (fun _ _ => rfl) | apply And.intro | intro _)
                all_goals (first | omega | (rename_i hg; exact hg) | (change (_ : Bool) = true; simp_all; done) | (simp_all; done))
              refine AW_seq ?_
              refine AW_all good tabZ tabZ_ok rfl rfl ?_ ?_
              · repeat' (first | exact trivial | exact rfl | exact (fun _ _ => rfl) | apply And.intro | intro _)
                all_goals (first | omega | (rename_i hg; exact hg) | (change (_ : Bool) = true; simp_all; done) | (simp_all; done))
              refine AW_ret (bodyQ_ret rfl ?_ (Ends.intro rfl ?_ ?_))
              · repeat' (first | exact trivial | exact rfl | exact (fun _ _ => rfl) | apply And.intro | intro _)
                all_goals (first | omega | (rename_i hg; exact hg) | (change (_ : Bool) = true; simp_all; done) | (simp_all; done))
              · repeat' (first | exact trivial | exact rfl | exact (fun _ _ => rfl) | apply And.intro | intro _)
                all_goals (first | omega | (rename_i hg; exact hg) | (change (_ : Bool) = true; simp_all; done) | (simp_all; done))
              obtain rfl : k = 2 := by simpa using h2
              refine ret_bool ?_
              have e : badK 2 (min n 66) at_ = badAt (min n 66) at_ := rfl
              have e1 : ∀ w, newW 2 x y w = x := fun _ => rfl
              have e2 : ∀ w, ansW 2 x y w = 0 := fun _ => rfl
              simp only [wordsAt_eq, e, e1, e2]
              cases hb : badAt (min n 66) at_ with
              | true => simp [sameW]
              | false => simp [sameW_self]
          )
        · first
          | (exfalso; simp_all; done)
          | (
              refine AW_seq ?_
              refine AW_all good tabZ tabZ_ok rfl rfl ?_ ?_
              · repeat' (first | exact trivial | exact rfl | exact (fun _ _ => rfl) | apply And.intro | intro _)
                all_goals (first | omega | (rename_i hg; exact hg) | (change (_ : Bool) = true; simp_all; done) | (simp_all; done))
              refine AW_cond rfl (fun h3 => ?_) (fun h3 => ?_)
              · first
                | (exfalso; simp_all; done)
                | (
                    refine AW_seq ?_
                    refine AW_all good tabZ tabZ_ok rfl rfl ?_ ?_
                    · repeat' (first | exact trivial | exact rfl | exact (fun _ _ => rfl) | apply And.intro | intro _)
                      all_goals (first | omega | (rename_i hg; exact hg) | (change (_ : Bool) = true; simp_all; done) | (simp_all; done))
                    refine AW_seq ?_
                    refine AW_all good tabZ tabZ_ok rfl rfl ?_ ?_
                    · repeat' (first | exact trivial | exact rfl | exact (fun _ _ => rfl) | apply And.intro | intro _)
                      all_goals (first | omega | (rename_i hg; exact hg) | (change (_ : Bool) = true; simp_all; done) | (simp_all; done))
                    refine AW_ret (bodyQ_ret rfl ?_ (Ends.intro rfl ?_ ?_))
                    · repeat' (first | exact trivial | exact rfl | exact (fun _ _ => rfl) | apply And.intro | intro _)
                      all_goals (first | omega | (rename_i hg; exact hg) | (change (_ : Bool) = true; simp_all; done) | (simp_all; done))
                    · repeat' (first | exact trivial | exact rfl | exact (fun _ _ => rfl) | apply And.intro | intro _)
                      all_goals (first | omega | (rename_i hg; exact hg) | (change (_ : Bool) = true; simp_all; done) | (simp_all; done))
                    obtain rfl : k = 3 := by simpa using h3
                    refine ret_bool ?_
                    have e : badK 3 (min n 66) at_ = badAt (min n 66) at_ := rfl
                    have e1 : ∀ w, newW 3 x y w = (casG x y w).1 := fun _ => rfl
                    have e2 : ∀ w, ansW 3 x y w = (casG x y w).2 := fun _ => rfl
                    simp only [wordsAt_eq, e, e1, e2]
                    cases hb : badAt (min n 66) at_ with
                    | true => simp [sameW]
                    | false => simp [sameW_self]
                )
              · first
                | (exfalso; simp_all; done)
                | (
                    refine AW_seq ?_
                    refine AW_all good tabZ tabZ_ok rfl rfl ?_ ?_
                    · repeat' (first | exact trivial | exact rfl | exact (fun _ _ => rfl) | apply And.intro | intro _)
                      all_goals (first | omega | (rename_i hg; exact hg) | (change (_ : Bool) = true; simp_all; done) | (simp_all; done))
                    refine AW_cond rfl (fun h4 => ?_) (fun h4 => ?_)
                    · first
                      | (exfalso; simp_all; done)
                      | (
                          refine AW_seq ?_
                          refine AW_all good tabZ tabZ_ok rfl rfl ?_ ?_
                          · repeat' (first | exact trivial | exact rfl | exact (fun _ _ => rfl) | apply And.intro | intro _)
                            all_goals (first | omega | (rename_i hg; exact hg) | (change (_ : Bool) = true; simp_all; done) | (simp_all; done))
                          refine AW_seq ?_
                          refine AW_all good tabZ tabZ_ok rfl rfl ?_ ?_
                          · repeat' (first | exact trivial | exact rfl | exact (fun _ _ => rfl) | apply And.intro | intro _)
                            all_goals (first | omega | (rename_i hg; exact hg) | (change (_ : Bool) = true; simp_all; done) | (simp_all; done))
                          refine AW_ret (bodyQ_ret rfl ?_ (Ends.intro rfl ?_ ?_))
                          · repeat' (first | exact trivial | exact rfl | exact (fun _ _ => rfl) | apply And.intro | intro _)
                            all_goals (first | omega | (rename_i hg; exact hg) | (change (_ : Bool) = true; simp_all; done) | (simp_all; done))
                          · repeat' (first | exact trivial | exact rfl | exact (fun _ _ => rfl) | apply And.intro | intro _)
                            all_goals (first | omega | (rename_i hg; exact hg) | (change (_ : Bool) = true; simp_all; done) | (simp_all; done))
                          obtain rfl : k = 4 := by simpa using h4
                          refine ret_bool ?_
                          have e : badK 4 (min n 66) at_ = badAt (min n 66) at_ := rfl
                          have e1 : ∀ w, newW 4 x y w = IntKind.u64.wrap (w + x) := fun _ => rfl
                          have e2 : ∀ w, ansW 4 x y w = w := fun _ => rfl
                          simp only [wordsAt_eq, e, e1, e2]
                          cases hb : badAt (min n 66) at_ with
                          | true => simp [sameW]
                          | false =>
                            simp
                            exact sameW_self _ _
                      )
                    · first
                      | (exfalso; simp_all; done)
                      | (
                          refine AW_skip ?_
                          refine AW_seq ?_
                          refine AW_all good tabZ tabZ_ok rfl rfl ?_ ?_
                          · repeat' (first | exact trivial | exact rfl | exact (fun _ _ => rfl) | apply And.intro | intro _)
                            all_goals (first | omega | (rename_i hg; exact hg) | (change (_ : Bool) = true; simp_all; done) | (simp_all; done))
                          refine AW_ret (bodyQ_ret rfl ?_ (Ends.intro rfl ?_ ?_))
                          · repeat' (first | exact trivial | exact rfl | exact (fun _ _ => rfl) | apply And.intro | intro _)
                            all_goals (first | omega | (rename_i hg; exact hg) | (change (_ : Bool) = true; simp_all; done) | (simp_all; done))
                          · repeat' (first | exact trivial | exact rfl | exact (fun _ _ => rfl) | apply And.intro | intro _)
                            all_goals (first | omega | (rename_i hg; exact hg) | (change (_ : Bool) = true; simp_all; done) | (simp_all; done))
                          have e : badK k (min n 66) at_ = true := by simp [badK, h1, h2, h3, h4]
                          exact ret_bool (by rw [e]; rfl)
                      )
                )
          )
    )
end Go.Proofs.Ytndfcbcmeeemfaa.Abs
