/-
  THE CONTRACTS OF PACKAGE word (6): the table of its calls; 'alive', 'few'.
-/
import Derived.Test.YtndfcbcmeeemfaaW5
namespace Go.Proofs.Ytndfcbcmeeemfaa.Abs
open Go
set_option maxRecDepth 10000

def tabX : Tab := tabAdd 20 (fun args => match args with
  | [.one (.imm (.sl 1 n _ cell)), .one (.imm (.val (.int .i64 at_)))] => some (loadV n (wordsAt cell) at_, isWords n cell)
  | _ => none) (tabAdd 22 (fun args => match args with
  | [.one (.imm (.sl 1 n _ cell)), .one (.imm (.val (.int .i64 at_))), .one (.imm (.val (.int .u64 v)))] => some (storeV n (wordsAt cell) at_ v, isWords n cell)
  | _ => none) (tabAdd 16 (fun args => match args with
  | [.one (.imm (.sl 1 n _ cell)), .one (.imm (.val (.int .i64 at_))), .one (.imm (.val (.int .u64 old))), .one (.imm (.val (.int .u64 v)))] => some (casV n (wordsAt cell) at_ old v, isWords n cell)
  | _ => none) (tabAdd 17 (fun args => match args with
  | [.one (.imm (.sl 1 n _ cell)), .one (.imm (.val (.int .i64 at_))), .one (.imm (.val (.int .u64 v)))] => some (callV n (wordsAt cell) at_ fun w => (IntKind.u64.wrap (w + v), w), isWords n cell)
  | _ => none) tabW)))
theorem tabX_ok : TabOk Try.prog tabX := by
  refine tabAdd_ok rfl (fun args r p h hp => ?_) (tabAdd_ok rfl (fun args r p h hp => ?_) (tabAdd_ok rfl (fun args r p h hp => ?_) (tabAdd_ok rfl (fun args r p h hp => ?_) tabW_ok)))
  · split at h
    · simp only [Option.some.injEq, Prod.mk.injEq] at h; obtain ⟨rfl, rfl⟩ := h; exact (load20 _ _ _ _).args (TLe.cons (words_le hp) (TLe.refl _))
    · cases h
  · split at h
    · simp only [Option.some.injEq, Prod.mk.injEq] at h; obtain ⟨rfl, rfl⟩ := h; exact (store22 _ _ _ _ _).args (TLe.cons (words_le hp) (TLe.refl _))
    · cases h
  · split at h
    · simp only [Option.some.injEq, Prod.mk.injEq] at h; obtain ⟨rfl, rfl⟩ := h; exact (cas16 _ _ _ _ _ _).args (TLe.cons (words_le hp) (TLe.refl _))
    · cases h
  · split at h
    · simp only [Option.some.injEq, Prod.mk.injEq] at h; obtain ⟨rfl, rfl⟩ := h; exact (add17 _ _ _ _ _).args (TLe.cons (words_le hp) (TLe.refl _))
    · cases h

theorem alive18 : PCall Try.prog 18 [] (.cv (ibool true)) := by
  refine PCall_of (ACall_body good Try.func18 rfl 26 rfl (by simp) ?_)
  refine AW_seq ?_
  refine AW_all good tabX tabX_ok rfl rfl ?_ ?_
  · repeat' (first | exact trivial | exact rfl | exact (fun _ _ => rfl) | apply And.intro | intro _)
    all_goals (first | omega | (change (_ : Bool) = true; simp_all; done) | (simp_all; done))
  refine AW_seq ?_
  refine AW_eff good tabX tabX_ok et0 (et0_ok _) [0] rfl rfl ?_ ?_
  · repeat' (first | exact trivial | exact rfl | exact (fun _ _ => rfl) | apply And.intro | intro _)
    all_goals (first | omega | (rename_i i hi; match i, hi with | 0, _ => exact rfl | 1, _ => exact rfl))
  refine AW_seq ?_
  refine AW_all good tabX tabX_ok rfl rfl ?_ ?_
  · repeat' (first | exact trivial | exact rfl | exact (fun _ _ => rfl) | apply And.intro | intro _)
    all_goals (first | omega | (change (_ : Bool) = true; simp_all; done) | (simp_all; done))
  refine AW_ret (bodyQ_ret rfl ?_ (Ends.intro rfl ?_ ?_))
  · repeat' (first | exact trivial | exact rfl | exact (fun _ _ => rfl) | apply And.intro | intro _)
    all_goals (first | omega | (change (_ : Bool) = true; simp_all; done) | (simp_all; done))
  · repeat' (first | exact trivial | exact rfl | exact (fun _ _ => rfl) | apply And.intro | intro _)
    all_goals (first | omega | (change (_ : Bool) = true; simp_all; done) | (simp_all; done))
  exact ret_bool rfl

theorem few19 (n : Nat) (ex : Bool) (m : Nat → Int) : PCall Try.prog 19 [.one (uS n ex m)] (.cv (.one (uS (min n 66) false m))) := by
  refine PCall_of (ACall_body good Try.func19 rfl 8 rfl (by simp) ?_)
  refine AW_seq ?_
  refine AW_all good tabX tabX_ok rfl rfl ?_ ?_
  · repeat' (first | exact trivial | exact rfl | exact (fun _ _ => rfl) | apply And.intro | intro _)
    all_goals (first | omega | (change (_ : Bool) = true; simp_all; done) | (simp_all; done))
  refine AW_seq ?_
  refine AW_all good tabX tabX_ok rfl rfl ?_ ?_
  · repeat' (first | exact trivial | exact rfl | exact (fun _ _ => rfl) | apply And.intro | intro _)
    all_goals (first | omega | (change (_ : Bool) = true; simp_all; done) | (simp_all; done))
  refine AW_ret (bodyQ_ret rfl ?_ (Ends.le rfl ?_ ?_))
  · repeat' (first | exact trivial | exact rfl | exact (fun _ _ => rfl) | apply And.intro | intro _)
    all_goals (first | omega | (change (_ : Bool) = true; simp_all; done) | (simp_all; done))
  · repeat' (first | exact trivial | exact rfl | exact (fun _ _ => rfl) | apply And.intro | intro _)
    all_goals (first | omega | (change (_ : Bool) = true; simp_all; done) | (simp_all; done))
  refine SLe.cv (CLe.imm (ILe.sl ?_ (by simp) (.inr ⟨rfl, fun i j hi hj => ILe.of_eq ?_⟩)))
  · split <;> omega
  show IV.val (.int .u64 (m (0 + i))) = IV.val (.int .u64 (m i))
  rw [Nat.zero_add]
end Go.Proofs.Ytndfcbcmeeemfaa.Abs
