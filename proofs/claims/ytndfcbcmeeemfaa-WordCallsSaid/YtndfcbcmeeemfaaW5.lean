/-
  THE CONTRACTS OF PACKAGE word (5): Load, Store, Cas, Add.
-/
import Derived.Test.YtndfcbcmeeemfaaW4
namespace Go.Proofs.Ytndfcbcmeeemfaa.Abs
open Go
set_option maxRecDepth 10000

def errAt (n : Nat) (at_ : Int) : CV := iint (bif badAt n at_ then 1 else 0)
def loadV (n : Nat) (m : Nat → Int) (at_ : Int) : SV := .tup [iu (bif badAt n at_ then 0 else m at_.toNat), errAt n at_]
def putW (m : Nat → Int) (at_ v : Int) : Nat → Int := fun i => bif Nat.beq i at_.toNat then v else m i
def storeV (n : Nat) (m : Nat → Int) (at_ v : Int) : SV := .tup [.one (uS (bif badAt n at_ then 0 else n) false (putW m at_ v)), errAt n at_]
def casV (n : Nat) (m : Nat → Int) (at_ old v : Int) : SV := .tup [.one (uS (bif badAt n at_ then 0 else n) false (putW m at_ (casG old v (m at_.toNat)).1)), ibool ((bif badAt n at_ then 0 else (casG old v (m at_.toNat)).2) == 1), errAt n at_]

theorem load20 (n : Nat) (ex : Bool) (m : Nat → Int) (at_ : Int) : PCall Try.prog 20 [.one (uS n ex m), iint at_] (loadV n m at_) := by
  refine PCall_of (ACall_body good Try.func20 rfl 18 rfl (by simp) ?_)
  refine AW_seq ?_
  refine AW_all good tabW tabW_ok rfl rfl ?_ ?_
  · repeat' (first | exact trivial | exact rfl | exact (fun _ _ => rfl) | apply And.intro | intro _)
    all_goals (first | omega | (change (_ : Bool) = true; simp_all; done) | (simp_all; done))
  refine AW_seq ?_
  refine AW_all good tabW tabW_ok rfl rfl ?_ ?_
  · repeat' (first | exact trivial | exact rfl | exact (fun _ _ => rfl) | apply And.intro | intro _)
    all_goals (first | omega | (change (_ : Bool) = true; simp_all; done) | (simp_all; done))
  refine AW_seq ?_
  refine AW_all good tabW tabW_ok rfl rfl ?_ ?_
  · repeat' (first | exact trivial | exact rfl | exact (fun _ _ => rfl) | apply And.intro | intro _)
    all_goals (first | omega | (change (_ : Bool) = true; simp_all; done) | (simp_all; done))
  refine AW_ret (bodyQ_ret rfl ?_ (Ends.intro rfl ?_ ?_))
  · repeat' (first | exact trivial | exact rfl | exact (fun _ _ => rfl) | apply And.intro | intro _)
    all_goals (first | omega | (change (_ : Bool) = true; simp_all; done) | (simp_all; done))
  · repeat' (first | exact trivial | exact rfl | exact (fun _ _ => rfl) | apply And.intro | intro _)
    all_goals (first | omega | (change (_ : Bool) = true; simp_all; done) | (simp_all; done))
  rfl

theorem store22 (n : Nat) (ex : Bool) (m : Nat → Int) (at_ v : Int) : PCall Try.prog 22 [.one (uS n ex m), iint at_, iu v] (storeV n m at_ v) := by
  refine PCall_of (ACall_body good Try.func22 rfl 20 rfl (by simp) ?_)
  refine AW_seq ?_
  refine AW_eff good tab0 (tab0_ok _) et0 (et0_ok _) [0] rfl rfl ?_ ?_
  · repeat' (first | exact trivial | exact rfl | exact (fun _ _ => rfl) | apply And.intro | intro _)
    all_goals (first | omega | (change (_ : Bool) = true; simp_all; done) | (simp_all; done))
  refine AW_seq ?_
  refine AW_all good tabW tabW_ok rfl rfl ?_ ?_
  · repeat' (first | exact trivial | exact rfl | exact (fun _ _ => rfl) | apply And.intro | intro _)
    all_goals (first | omega | (change (_ : Bool) = true; simp_all; done) | (simp_all; done))
  refine AW_seq ?_
  refine AW_all good tabW tabW_ok rfl rfl ?_ ?_
  · repeat' (first | exact trivial | exact rfl | exact (fun _ _ => rfl) | apply And.intro | intro _)
    all_goals (first | omega | (change (_ : Bool) = true; simp_all; done) | (simp_all; done))
  refine AW_ret (bodyQ_ret rfl ?_ (Ends.intro rfl ?_ ?_))
  · repeat' (first | exact trivial | exact rfl | exact (fun _ _ => rfl) | apply And.intro | intro _)
    all_goals (first | omega | (change (_ : Bool) = true; simp_all; done) | (simp_all; done))
  · repeat' (first | exact trivial | exact rfl | exact (fun _ _ => rfl) | apply And.intro | intro _)
    all_goals (first | omega | (change (_ : Bool) = true; simp_all; done) | (simp_all; done))
  rfl

theorem cas16 (n : Nat) (ex : Bool) (m : Nat → Int) (at_ old v : Int) : PCall Try.prog 16 [.one (uS n ex m), iint at_, iu old, iu v] (casV n m at_ old v) := by
  refine PCall_of (ACall_body good Try.func16 rfl 25 rfl (by simp) ?_)
  refine AW_seq ?_
  refine AW_eff good tab0 (tab0_ok _) et0 (et0_ok _) [0, 1] rfl rfl ?_ ?_
  · repeat' (first | exact trivial | exact rfl | exact (fun _ _ => rfl) | apply And.intro | intro _)
    all_goals (first | omega | (change (_ : Bool) = true; simp_all; done) | (simp_all; done))
  refine AW_seq ?_
  refine AW_all good tabW tabW_ok rfl rfl ?_ ?_
  · repeat' (first | exact trivial | exact rfl | exact (fun _ _ => rfl) | apply And.intro | intro _)
    all_goals (first | omega | (change (_ : Bool) = true; simp_all; done) | (simp_all; done))
  refine AW_seq ?_
  refine AW_all good tabW tabW_ok rfl rfl ?_ ?_
  · repeat' (first | exact trivial | exact rfl | exact (fun _ _ => rfl) | apply And.intro | intro _)
    all_goals (first | omega | (change (_ : Bool) = true; simp_all; done) | (simp_all; done))
  refine AW_ret (bodyQ_ret rfl ?_ (Ends.intro rfl ?_ ?_))
  · repeat' (first | exact trivial | exact rfl | exact (fun _ _ => rfl) | apply And.intro | intro _)
    all_goals (first | omega | (change (_ : Bool) = true; simp_all; done) | (simp_all; done))
  · repeat' (first | exact trivial | exact rfl | exact (fun _ _ => rfl) | apply And.intro | intro _)
    all_goals (first | omega | (change (_ : Bool) = true; simp_all; done) | (simp_all; done))
  rfl

theorem add17 (n : Nat) (ex : Bool) (m : Nat → Int) (at_ v : Int) : PCall Try.prog 17 [.one (uS n ex m), iint at_, iu v] (callV n m at_ fun w => (IntKind.u64.wrap (w + v), w)) := by
  refine PCall_of (ACall_body good Try.func17 rfl 16 rfl (by simp) ?_)
  refine AW_seq ?_
  refine AW_eff good tab0 (tab0_ok _) et0 (et0_ok _) [0] rfl rfl ?_ ?_
  · repeat' (first | exact trivial | exact rfl | exact (fun _ _ => rfl) | apply And.intro | intro _)
    all_goals (first | omega | (change (_ : Bool) = true; simp_all; done) | (simp_all; done))
  refine AW_seq ?_
  refine AW_all good tabW tabW_ok rfl rfl ?_ ?_
  · repeat' (first | exact trivial | exact rfl | exact (fun _ _ => rfl) | apply And.intro | intro _)
    all_goals (first | omega | (change (_ : Bool) = true; simp_all; done) | (simp_all; done))
  refine AW_ret (bodyQ_ret rfl ?_ (Ends.intro rfl ?_ ?_))
  · repeat' (first | exact trivial | exact rfl | exact (fun _ _ => rfl) | apply And.intro | intro _)
    all_goals (first | omega | (change (_ : Bool) = true; simp_all; done) | (simp_all; done))
  · repeat' (first | exact trivial | exact rfl | exact (fun _ _ => rfl) | apply And.intro | intro _)
    all_goals (first | omega | (change (_ : Bool) = true; simp_all; done) | (simp_all; done))
  rfl
end Go.Proofs.Ytndfcbcmeeemfaa.Abs
