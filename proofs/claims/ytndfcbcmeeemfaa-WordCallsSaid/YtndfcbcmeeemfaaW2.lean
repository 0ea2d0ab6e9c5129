/-
  THE CONTRACTS OF PACKAGE word (2): its function literals.
-/
import Derived.Test.YtndfcbcmeeemfaaW1
namespace Go.Proofs.Ytndfcbcmeeemfaa.Abs
open Go
set_option maxRecDepth 10000

def iu (n : Int) : CV := .one (.imm (.val (.int .u64 n)))
def vpl (l : List IV) : AV := .vptr l.length fun q => l.getD q ivDef
def vp (n : Int) : AV := vpl [.val (.int .u64 n)]
/-- A step. -/
def stepL (k at_ x y : Int) : List IV := [.val (.int .i64 k), .val (.int .i64 at_), .val (.int .u64 x), .val (.int .u64 y)]

/-- What Cas makes of a word. -/
def casG (old v was : Int) : Int × Int := (bif was == old then v else was, bif was == old then 1 else 0)

theorem lit38 (was old v : Int) : PCall Try.prog 38 [iu was, .one (vp old), .one (vp v)] (.tup [iu (casG old v was).1, iu (casG old v was).2]) := by
  refine PCall_of (ACall_body good Try.func38 rfl 11 rfl (by simp) ?_)
  refine AW_seq ?_
  refine AW_all good tab0 (tab0_ok _) rfl rfl ?_ ?_
  · repeat' (first | exact trivial | apply And.intro | intro _)
    all_goals (first | omega | (change (_ : Bool) = true; simp_all; done) | (simp_all; done))
  refine AW_seq ?_
  refine AW_seq ?_
  refine AW_all good tab0 (tab0_ok _) rfl rfl ?_ ?_
  · repeat' (first | exact trivial | apply And.intro | intro _)
    all_goals (first | omega | (change (_ : Bool) = true; simp_all; done) | (simp_all; done))
  refine AW_cond rfl (fun h1 => ?_) (fun h1 => ?_)
  · first
    | (exfalso; simp_all; done)
    | (
        refine AW_seq ?_
        refine AW_all good tab0 (tab0_ok _) rfl rfl ?_ ?_
        · repeat' (first | exact trivial | apply And.intro | intro _)
          all_goals (first | omega | (change (_ : Bool) = true; simp_all; done) | (simp_all; done))
        refine AW_ret (bodyQ_ret rfl ?_ (Ends.intro rfl ?_ ?_))
        · repeat' (first | exact trivial | apply And.intro | intro _)
          all_goals (first | omega | (change (_ : Bool) = true; simp_all; done) | (simp_all; done))
        · repeat' (first | exact trivial | apply And.intro | intro _)
          all_goals (first | omega | (change (_ : Bool) = true; simp_all; done) | (simp_all; done))
        have hb : (was == old) = false := by simpa using h1
        simp [casG, hb, iu]
    )
  · first
    | (exfalso; simp_all; done)
    | (
        refine AW_skip ?_
        refine AW_seq ?_
        refine AW_all good tab0 (tab0_ok _) rfl rfl ?_ ?_
        · repeat' (first | exact trivial | apply And.intro | intro _)
          all_goals (first | omega | (change (_ : Bool) = true; simp_all; done) | (simp_all; done))
        refine AW_ret (bodyQ_ret rfl ?_ (Ends.intro rfl ?_ ?_))
        · repeat' (first | exact trivial | apply And.intro | intro _)
          all_goals (first | omega | (change (_ : Bool) = true; simp_all; done) | (simp_all; done))
        · repeat' (first | exact trivial | apply And.intro | intro _)
          all_goals (first | omega | (change (_ : Bool) = true; simp_all; done) | (simp_all; done))
        have hb : (was == old) = true := by simpa using h1
        simp [casG, hb, iu]
    )

theorem lit39 (was v : Int) : PCall Try.prog 39 [iu was, .one (vp v)] (.tup [iu (IntKind.u64.wrap (was + v)), iu was]) := by
  refine PCall_of (ACall_body good Try.func39 rfl 9 rfl (by simp) ?_)
  refine AW_seq ?_
  refine AW_all good tab0 (tab0_ok _) rfl rfl ?_ ?_
  · repeat' (first | exact trivial | apply And.intro | intro _)
    all_goals (first | omega | (change (_ : Bool) = true; simp_all; done) | (simp_all; done))
  refine AW_seq ?_
  refine AW_all good tab0 (tab0_ok _) rfl rfl ?_ ?_
  · repeat' (first | exact trivial | apply And.intro | intro _)
    all_goals (first | omega | (change (_ : Bool) = true; simp_all; done) | (simp_all; done))
  refine AW_ret (bodyQ_ret rfl ?_ (Ends.intro rfl ?_ ?_))
  · repeat' (first | exact trivial | apply And.intro | intro _)
    all_goals (first | omega | (change (_ : Bool) = true; simp_all; done) | (simp_all; done))
  · repeat' (first | exact trivial | apply And.intro | intro _)
    all_goals (first | omega | (change (_ : Bool) = true; simp_all; done) | (simp_all; done))
  rfl

theorem lit40 (was : Int) : PCall Try.prog 40 [iu was] (.tup [iu was, iu was]) := by
  refine PCall_of (ACall_body good Try.func40 rfl 6 rfl (by simp) ?_)
  refine AW_seq ?_
  refine AW_all good tab0 (tab0_ok _) rfl rfl ?_ ?_
  · repeat' (first | exact trivial | apply And.intro | intro _)
    all_goals (first | omega | (change (_ : Bool) = true; simp_all; done) | (simp_all; done))
  refine AW_seq ?_
  refine AW_all good tab0 (tab0_ok _) rfl rfl ?_ ?_
  · repeat' (first | exact trivial | apply And.intro | intro _)
    all_goals (first | omega | (change (_ : Bool) = true; simp_all; done) | (simp_all; done))
  refine AW_ret (bodyQ_ret rfl ?_ (Ends.intro rfl ?_ ?_))
  · repeat' (first | exact trivial | apply And.intro | intro _)
    all_goals (first | omega | (change (_ : Bool) = true; simp_all; done) | (simp_all; done))
  · repeat' (first | exact trivial | apply And.intro | intro _)
    all_goals (first | omega | (change (_ : Bool) = true; simp_all; done) | (simp_all; done))
  rfl

theorem lit42 (was : Int) : PCall Try.prog 42 [iu was] (.tup [iu was, iu was]) := by
  refine PCall_of (ACall_body good Try.func42 rfl 6 rfl (by simp) ?_)
  refine AW_seq ?_
  refine AW_all good tab0 (tab0_ok _) rfl rfl ?_ ?_
  · repeat' (first | exact trivial | apply And.intro | intro _)
    all_goals (first | omega | (change (_ : Bool) = true; simp_all; done) | (simp_all; done))
  refine AW_seq ?_
  refine AW_all good tab0 (tab0_ok _) rfl rfl ?_ ?_
  · repeat' (first | exact trivial | apply And.intro | intro _)
    all_goals (first | omega | (change (_ : Bool) = true; simp_all; done) | (simp_all; done))
  refine AW_ret (bodyQ_ret rfl ?_ (Ends.intro rfl ?_ ?_))
  · repeat' (first | exact trivial | apply And.intro | intro _)
    all_goals (first | omega | (change (_ : Bool) = true; simp_all; done) | (simp_all; done))
  · repeat' (first | exact trivial | apply And.intro | intro _)
    all_goals (first | omega | (change (_ : Bool) = true; simp_all; done) | (simp_all; done))
  rfl

theorem lit41 (was v : Int) : PCall Try.prog 41 [iu was, .one (vp v)] (.tup [iu v, iu 0]) := by
  refine PCall_of (ACall_body good Try.func41 rfl 6 rfl (by simp) ?_)
  refine AW_seq ?_
  refine AW_all good tab0 (tab0_ok _) rfl rfl ?_ ?_
  · repeat' (first | exact trivial | apply And.intro | intro _)
    all_goals (first | omega | (change (_ : Bool) = true; simp_all; done) | (simp_all; done))
  refine AW_seq ?_
  refine AW_all good tab0 (tab0_ok _) rfl rfl ?_ ?_
  · repeat' (first | exact trivial | apply And.intro | intro _)
    all_goals (first | omega | (change (_ : Bool) = true; simp_all; done) | (simp_all; done))
  refine AW_ret (bodyQ_ret rfl ?_ (Ends.intro rfl ?_ ?_))
  · repeat' (first | exact trivial | apply And.intro | intro _)
    all_goals (first | omega | (change (_ : Bool) = true; simp_all; done) | (simp_all; done))
  · repeat' (first | exact trivial | apply And.intro | intro _)
    all_goals (first | omega | (change (_ : Bool) = true; simp_all; done) | (simp_all; done))
  rfl

theorem lit43 (was k at_ x y : Int) : PCall Try.prog 43 [iu was, .one (vpl (stepL k at_ x y))] (.tup [iu x, iu 0]) := by
  refine PCall_of (ACall_body good Try.func43 rfl 7 rfl (by simp) ?_)
  refine AW_seq ?_
  refine AW_all good tab0 (tab0_ok _) rfl rfl ?_ ?_
  · repeat' (first | exact trivial | apply And.intro | intro _)
    all_goals (first | omega | (change (_ : Bool) = true; simp_all; done) | (simp_all; done))
  refine AW_seq ?_
  refine AW_all good tab0 (tab0_ok _) rfl rfl ?_ ?_
  · repeat' (first | exact trivial | apply And.intro | intro _)
    all_goals (first | omega | (change (_ : Bool) = true; simp_all; done) | (simp_all; done))
  refine AW_ret (bodyQ_ret rfl ?_ (Ends.intro rfl ?_ ?_))
  · repeat' (first | exact trivial | apply And.intro | intro _)
    all_goals (first | omega | (change (_ : Bool) = true; simp_all; done) | (simp_all; done))
  · repeat' (first | exact trivial | apply And.intro | intro _)
    all_goals (first | omega | (change (_ : Bool) = true; simp_all; done) | (simp_all; done))
  rfl
end Go.Proofs.Ytndfcbcmeeemfaa.Abs
