/-
  THE CONTRACTS OF PACKAGE word (7): Do.
-/
import Derived.Test.YtndfcbcmeeemfaaW8
namespace Go.Proofs.Ytndfcbcmeeemfaa.Abs
open Go
set_option maxRecDepth 10000

/-- What a step of kind k makes of a word, and what it answers. -/
def newW (k x y w : Int) : Int := bif k == 1 then w else bif k == 2 then x else bif k == 3 then (casG x y w).1 else IntKind.u64.wrap (w + x)
def ansW (k x y w : Int) : Int := bif k == 1 then w else bif k == 2 then 0 else bif k == 3 then (casG x y w).2 else w
def badK (k : Int) (n : Nat) (at_ : Int) : Bool := !(k == 1 || (k == 2 || (k == 3 || k == 4))) || badAt n at_
def doV (n : Nat) (m : Nat → Int) (k at_ x y : Int) : SV :=
  .tup [.one (uS (bif badK k n at_ then 0 else n) false (putW m at_ (newW k x y (m at_.toNat)))), iu (bif badK k n at_ then 0 else ansW k x y (m at_.toNat)), iint (bif badK k n at_ then 1 else 0)]
def stepC (k at_ x y : Int) : CV := .agg [.imm (.val (.int .i64 k)), .imm (.val (.int .i64 at_)), .imm (.val (.int .u64 x)), .imm (.val (.int .u64 y))]

theorem do23 (n : Nat) (ex : Bool) (m : Nat → Int) (k at_ x y : Int) : PCall Try.prog 23 [.one (uS n ex m), stepC k at_ x y] (doV n m k at_ x y) := by
  refine PCall_of (ACall_body good Try.func23 rfl 62 rfl (by simp) ?_)
  refine AW_seq ?_
  refine AW_eff good tab0 (tab0_ok _) et0 (et0_ok _) [0] rfl rfl ?_ ?_
  · repeat' (first | exact trivial | exact rfl | exact (fun _ _ => rfl) | apply And.intro | intro _)
    all_goals (first | omega | (change (_ : Bool) = true; simp_all; done) | (simp_all; done))
  refine AW_seq ?_
  refine AW_seq ?_
  refine AW_all good tabX tabX_ok rfl rfl ?_ ?_
  · repeat' (first | exact trivial | exact rfl | exact (fun _ _ => rfl) | apply And.intro | intro _)
    all_goals (first | omega | (change (_ : Bool) = true; simp_all; done) | (simp_all; done))
  refine AW_block ?_
  refine AW_seq ?_
  refine AW_all good tabX tabX_ok rfl rfl ?_ ?_
  · repeat' (first | exact trivial | exact rfl | exact (fun _ _ => rfl) | apply And.intro | intro _)
    all_goals (first | omega | (change (_ : Bool) = true; simp_all; done) | (simp_all; done))
  refine AW_cond rfl (fun h1 => ?_) (fun h1 => ?_)
  · first
    | (exfalso; simp_all; done)
    | (
        refine AW_seq ?_
        refine AW_all good tabX tabX_ok rfl rfl ?_ ?_
        · repeat' (first | exact trivial | exact rfl | exact (fun _ _ => rfl) | apply And.intro | intro _)
          all_goals (first | omega | (change (_ : Bool) = true; simp_all; done) | (simp_all; done))
        refine AW_ret (bodyQ_ret rfl ?_ (Ends.le rfl ?_ ?_))
        · repeat' (first | exact trivial | exact rfl | exact (fun _ _ => rfl) | apply And.intro | intro _)
          all_goals (first | omega | (change (_ : Bool) = true; simp_all; done) | (simp_all; done))
        · repeat' (first | exact trivial | exact rfl | exact (fun _ _ => rfl) | apply And.intro | intro _)
          all_goals (first | omega | (change (_ : Bool) = true; simp_all; done) | (simp_all; done))
        obtain rfl : k = 1 := by simpa using h1
        exact SLe.of_eq rfl
    )
  · first
    | (exfalso; simp_all; done)
    | (
        refine AW_seq ?_
        refine AW_all good tabX tabX_ok rfl rfl ?_ ?_
        · repeat' (first | exact trivial | exact rfl | exact (fun _ _ => rfl) | apply And.intro | intro _)
          all_goals (first | omega | (change (_ : Bool) = true; simp_all; done) | (simp_all; done))
        refine AW_cond rfl (fun h2 => ?_) (fun h2 => ?_)
        · first
          | (exfalso; simp_all; done)
          | (
              refine AW_seq ?_
              refine AW_all good tabX tabX_ok rfl rfl ?_ ?_
              · repeat' (first | exact trivial | exact rfl | exact (fun _ _ => rfl) | apply And.intro | intro _)
                all_goals (first | omega | (change (_ : Bool) = true; simp_all; done) | (simp_all; done))
              refine AW_ret (bodyQ_ret rfl ?_ (Ends.le rfl ?_ ?_))
              · repeat' (first | exact trivial | exact rfl | exact (fun _ _ => rfl) | apply And.intro | intro _)
                all_goals (first | omega | (change (_ : Bool) = true; simp_all; done) | (simp_all; done))
              · repeat' (first | exact trivial | exact rfl | exact (fun _ _ => rfl) | apply And.intro | intro _)
                all_goals (first | omega | (change (_ : Bool) = true; simp_all; done) | (simp_all; done))
              obtain rfl : k = 2 := by simpa using h2
              exact SLe.of_eq rfl
          )
        · first
          | (exfalso; simp_all; done)
          | (
              refine AW_seq ?_
              refine AW_all good tabX tabX_ok rfl rfl ?_ ?_
              · repeat' (first | exact trivial | exact rfl | exact (fun _ _ => rfl) | apply And.intro | intro _)
                all_goals (first | omega | (change (_ : Bool) = true; simp_all; done) | (simp_all; done))
              refine AW_cond rfl (fun h3 => ?_) (fun h3 => ?_)
              · first
                | (exfalso; simp_all; done)
                | (
                    refine AW_seq ?_
                    refine AW_all good tabX tabX_ok rfl rfl ?_ ?_
                    · repeat' (first | exact trivial | exact rfl | exact (fun _ _ => rfl) | apply And.intro | intro _)
                      all_goals (first | omega | (change (_ : Bool) = true; simp_all; done) | (simp_all; done))
                    refine AW_seq ?_
                    refine AW_seq ?_
                    refine AW_all good tabX tabX_ok rfl rfl ?_ ?_
                    · repeat' (first | exact trivial | exact rfl | exact (fun _ _ => rfl) | apply And.intro | intro _)
                      all_goals (first | omega | (change (_ : Bool) = true; simp_all; done) | (simp_all; done))
                    refine AW_cond rfl (fun h4 => ?_) (fun h4 => ?_)
                    · first
                      | (exfalso; simp_all; done)
                      | (
                          refine AW_seq ?_
                          refine AW_all good tabX tabX_ok rfl rfl ?_ ?_
                          · repeat' (first | exact trivial | exact rfl | exact (fun _ _ => rfl) | apply And.intro | intro _)
                            all_goals (first | omega | (change (_ : Bool) = true; simp_all; done) | (simp_all; done))
                          refine AW_ret (bodyQ_ret rfl ?_ (Ends.le rfl ?_ ?_))
                          · repeat' (first | exact trivial | exact rfl | exact (fun _ _ => rfl) | apply And.intro | intro _)
                            all_goals (first | omega | (change (_ : Bool) = true; simp_all; done) | (simp_all; done))
                          · repeat' (first | exact trivial | exact rfl | exact (fun _ _ => rfl) | apply And.intro | intro _)
                            all_goals (first | omega | (change (_ : Bool) = true; simp_all; done) | (simp_all; done))
                          obtain rfl : k = 3 := by simpa using h3
                          have e : (bif badAt n at_ then 0 else (casG x y (m at_.toNat)).2) = 0 := by
                            have h := h4
                            rw [wordsAt_eq] at h
                            cases hb : badAt n at_ with
                            | true => rfl
                            | false =>
                              rw [hb] at h
                              unfold casG at h ⊢
                              cases hc : m at_.toNat == x <;> simp_all
                          exact SLe.triple (CLe.of_eq rfl) (CLe.of_eq (congrArg iu e.symm)) (CLe.of_eq rfl)
                      )
                    · first
                      | (exfalso; simp_all; done)
                      | (
                          refine AW_skip ?_
                          refine AW_seq ?_
                          refine AW_all good tabX tabX_ok rfl rfl ?_ ?_
                          · repeat' (first | exact trivial | exact rfl | exact (fun _ _ => rfl) | apply And.intro | intro _)
                            all_goals (first | omega | (change (_ : Bool) = true; simp_all; done) | (simp_all; done))
                          refine AW_ret (bodyQ_ret rfl ?_ (Ends.le rfl ?_ ?_))
                          · repeat' (first | exact trivial | exact rfl | exact (fun _ _ => rfl) | apply And.intro | intro _)
                            all_goals (first | omega | (change (_ : Bool) = true; simp_all; done) | (simp_all; done))
                          · repeat' (first | exact trivial | exact rfl | exact (fun _ _ => rfl) | apply And.intro | intro _)
                            all_goals (first | omega | (change (_ : Bool) = true; simp_all; done) | (simp_all; done))
                          obtain rfl : k = 3 := by simpa using h3
                          have e : (bif badAt n at_ then 0 else (casG x y (m at_.toNat)).2) = 1 := by
                            have h := h4
                            rw [wordsAt_eq] at h
                            simpa using h
                          exact SLe.triple (CLe.of_eq rfl) (CLe.of_eq (congrArg iu e.symm)) (CLe.of_eq rfl)
                      )
                )
              · first
                | (exfalso; simp_all; done)
                | (
                    refine AW_seq ?_
                    refine AW_all good tabX tabX_ok rfl rfl ?_ ?_
                    · repeat' (first | exact trivial | exact rfl | exact (fun _ _ => rfl) | apply And.intro | intro _)
                      all_goals (first | omega | (change (_ : Bool) = true; simp_all; done) | (simp_all; done))
                    refine AW_cond rfl (fun h5 => ?_) (fun h5 => ?_)
                    · first
                      | (exfalso; simp_all; done)
                      | (
                          refine AW_seq ?_
                          refine AW_all good tabX tabX_ok rfl rfl ?_ ?_
                          · repeat' (first | exact trivial | exact rfl | exact (fun _ _ => rfl) | apply And.intro | intro _)
                            all_goals (first | omega | (change (_ : Bool) = true; simp_all; done) | (simp_all; done))
                          refine AW_ret (bodyQ_ret rfl ?_ (Ends.le rfl ?_ ?_))
                          · repeat' (first | exact trivial | exact rfl | exact (fun _ _ => rfl) | apply And.intro | intro _)
                            all_goals (first | omega | (change (_ : Bool) = true; simp_all; done) | (simp_all; done))
                          · repeat' (first | exact trivial | exact rfl | exact (fun _ _ => rfl) | apply And.intro | intro _)
                            all_goals (first | omega | (change (_ : Bool) = true; simp_all; done) | (simp_all; done))
                          obtain rfl : k = 4 := by simpa using h5
                          exact SLe.of_eq rfl
                      )
                    · first
                      | (exfalso; simp_all; done)
                      | (
                          refine AW_skip ?_
                          refine AW_seq ?_
                          refine AW_all good tabX tabX_ok rfl rfl ?_ ?_
                          · repeat' (first | exact trivial | exact rfl | exact (fun _ _ => rfl) | apply And.intro | intro _)
                            all_goals (first | omega | (change (_ : Bool) = true; simp_all; done) | (simp_all; done))
                          refine AW_ret (bodyQ_ret rfl ?_ (Ends.le rfl ?_ ?_))
                          · repeat' (first | exact trivial | exact rfl | exact (fun _ _ => rfl) | apply And.intro | intro _)
                            all_goals (first | omega | (change (_ : Bool) = true; simp_all; done) | (simp_all; done))
                          · repeat' (first | exact trivial | exact rfl | exact (fun _ _ => rfl) | apply And.intro | intro _)
                            all_goals (first | omega | (change (_ : Bool) = true; simp_all; done) | (simp_all; done))
                          have hb : badK k n at_ = true := by simp [badK, h1, h2, h3, h5]
                          unfold doV
                          rw [hb]
                          exact SLe.triple (CLe.imm (ILe.sl rfl (by simp) (.inl rfl))) (CLe.of_eq rfl) (CLe.of_eq rfl)
                      )
                )
          )
    )
end Go.Proofs.Ytndfcbcmeeemfaa.Abs
