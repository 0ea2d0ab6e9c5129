/-
  THE LAW WordSwaps as a contract.
-/
import Derived.Test.YtndfcbcmeeemfaaW7
namespace Go.Proofs.Ytndfcbcmeeemfaa.Abs
open Go
set_option maxRecDepth 10000

def tabY : Tab := tabAdd 18 (fun args => match args with
  | [] => some (.cv (ibool true), True)
  | _ => none) (tabAdd 19 (fun args => match args with
  | [.one (.imm (.sl 1 n _ cell))] => some (.cv (.one (uS (min n 66) false (wordsAt cell))), isWords n cell)
  | _ => none) (tabAdd 21 (fun args => match args with
  | [.one (.imm (.sl 1 n _ cell)), .one (.imm (.sl 1 n' _ cell'))] => some (.cv (ibool (sameW n (wordsAt cell) n' (wordsAt cell'))), isWords n cell ∧ isWords n' cell')
  | _ => none) tabX))
theorem tabY_ok : TabOk Try.prog tabY := by
  refine tabAdd_ok rfl (fun args r p h hp => ?_) (tabAdd_ok rfl (fun args r p h hp => ?_) (tabAdd_ok rfl (fun args r p h hp => ?_) tabX_ok))
  · split at h
    · simp only [Option.some.injEq, Prod.mk.injEq] at h; obtain ⟨rfl, rfl⟩ := h; exact alive18
    · cases h
  · split at h
    · rename_i n ex cell
      simp only [Option.some.injEq, Prod.mk.injEq] at h; obtain ⟨rfl, rfl⟩ := h; exact (few19 n ex (wordsAt cell)).args (TLe.cons (words_le hp) (TLe.refl _))
    · cases h
  · split at h
    · rename_i n ex cell n' ex' cell'
      simp only [Option.some.injEq, Prod.mk.injEq] at h; obtain ⟨rfl, rfl⟩ := h; exact (same21 n ex (wordsAt cell) n' ex' (wordsAt cell')).args (TLe.cons (words_le hp.1) (TLe.cons (words_le hp.2) TLe.nil))
    · cases h

theorem wordsAt_eq (g : Nat → Int) : wordsAt (fun i _ => IV.val (.int .u64 (g i))) = g := rfl
theorem up_ne (x : Int) : (x == IntKind.u64.wrap (x + 1)) = false := by
  rw [IntKind.wrap_u64, beq_eq_false_iff_ne]
  omega
theorem sameW_of {n : Nat} {a b : Nat → Int} (h : ∀ i, a i = b i) : sameW n a n b = true := by
  simp [sameW, h]
theorem putW_back (m : Nat → Int) (at_ v : Int) (i : Nat) : putW (putW m at_ v) at_ (m at_.toNat) i = m i := by
  unfold putW
  cases h : Nat.beq i at_.toNat with
  | true => rw [Nat.eq_of_beq_eq_true h]; rfl
  | false => rfl
theorem putW_self (m : Nat → Int) (at_ : Int) (i : Nat) : putW m at_ (m at_.toNat) i = m i := by
  unfold putW
  cases h : Nat.beq i at_.toNat with
  | true => rw [Nat.eq_of_beq_eq_true h]; rfl
  | false => rfl
theorem putW_at (m : Nat → Int) (at_ v : Int) : putW m at_ v at_.toNat = v := by simp [putW]
theorem casG_same (x v : Int) : casG x v x = (v, 1) := by simp [casG]
theorem casG_up (x v : Int) : casG (IntKind.u64.wrap (x + 1)) v x = (x, 0) := by simp [casG, up_ne x]

theorem swaps4 (n : Nat) (ex : Bool) (m : Nat → Int) (at_ v : Int) : PCall Try.prog 4 [.one (uS n ex m), iint at_, iu v] (.cv (ibool true)) := by
  refine PCall_of (ACall_body good Try.func4 rfl 103 rfl (by simp) ?_)
  refine AW_seq ?_
  refine AW_all good tabY tabY_ok rfl rfl ?_ ?_
  · repeat' (first | exact trivial | exact rfl | exact (fun _ _ => rfl) | apply And.intro | intro _)
    all_goals (first | omega | (change (_ : Bool) = true; simp_all; done) | (simp_all; done))
  refine AW_seq ?_
  refine AW_all good tabY tabY_ok rfl rfl ?_ ?_
  · repeat' (first | exact trivial | exact rfl | exact (fun _ _ => rfl) | apply And.intro | intro _)
    all_goals (first | omega | (change (_ : Bool) = true; simp_all; done) | (simp_all; done))
  refine AW_seq ?_
  refine AW_all good tabY tabY_ok rfl rfl ?_ ?_
  · repeat' (first | exact trivial | exact rfl | exact (fun _ _ => rfl) | apply And.intro | intro _)
    all_goals (first | omega | (change (_ : Bool) = true; simp_all; done) | (simp_all; done))
  refine AW_seq ?_
  refine AW_all good tabY tabY_ok rfl rfl ?_ ?_
  · repeat' (first | exact trivial | exact rfl | exact (fun _ _ => rfl) | apply And.intro | intro _)
    all_goals (first | omega | (change (_ : Bool) = true; simp_all; done) | (simp_all; done))
  refine AW_seq ?_
  refine AW_seq ?_
  refine AW_all good tabY tabY_ok rfl rfl ?_ ?_
  · repeat' (first | exact trivial | exact rfl | exact (fun _ _ => rfl) | apply And.intro | intro _)
    all_goals (first | omega | (change (_ : Bool) = true; simp_all; done) | (simp_all; done))
  refine AW_cond rfl (fun h1 => ?_) (fun h1 => ?_)
  · first
    | (exfalso; simp_all; done)
    | (
        refine AW_seq ?_
        refine AW_all good tabY tabY_ok rfl rfl ?_ ?_
        · repeat' (first | exact trivial | exact rfl | exact (fun _ _ => rfl) | apply And.intro | intro _)
          all_goals (first | omega | (change (_ : Bool) = true; simp_all; done) | (simp_all; done))
        refine AW_ret (bodyQ_ret rfl ?_ (Ends.intro rfl ?_ ?_))
        · repeat' (first | exact trivial | exact rfl | exact (fun _ _ => rfl) | apply And.intro | intro _)
          all_goals (first | omega | (change (_ : Bool) = true; simp_all; done) | (simp_all; done))
        · repeat' (first | exact trivial | exact rfl | exact (fun _ _ => rfl) | apply And.intro | intro _)
          all_goals (first | omega | (change (_ : Bool) = true; simp_all; done) | (simp_all; done))
        have hb : badAt (min n 66) at_ = true := by
          cases hb : badAt (min n 66) at_ <;> simp_all
        exact ret_bool (by simp [hb])
    )
  · first
    | (exfalso; simp_all; done)
    | (
        refine AW_skip ?_
        refine AW_seq ?_
        refine AW_all good tabY tabY_ok rfl rfl ?_ ?_
        · repeat' (first | exact trivial | exact rfl | exact (fun _ _ => rfl) | apply And.intro | intro _)
          all_goals (first | omega | (change (_ : Bool) = true; simp_all; done) | (simp_all; done))
        refine AW_seq ?_
        refine AW_all good tabY tabY_ok rfl rfl ?_ ?_
        · repeat' (first | exact trivial | exact rfl | exact (fun _ _ => rfl) | apply And.intro | intro _)
          all_goals (first | omega | (change (_ : Bool) = true; simp_all; done) | (simp_all; done))
        refine AW_seq ?_
        refine AW_all good tabY tabY_ok rfl rfl ?_ ?_
        · repeat' (first | exact trivial | exact rfl | exact (fun _ _ => rfl) | apply And.intro | intro _)
          all_goals (first | omega | (change (_ : Bool) = true; simp_all; done) | (simp_all; done))
        refine AW_ret (bodyQ_ret rfl ?_ (Ends.intro rfl ?_ ?_))
        · repeat' (first | exact trivial | exact rfl | exact (fun _ _ => rfl) | apply And.intro | intro _)
          all_goals (first | omega | (change (_ : Bool) = true; simp_all; done) | (simp_all; done))
        · repeat' (first | exact trivial | exact rfl | exact (fun _ _ => rfl) | apply And.intro | intro _)
          all_goals (first | omega | (change (_ : Bool) = true; simp_all; done) | (simp_all; done))
        have hb : badAt (min n 66) at_ = false := by
          cases hb : badAt (min n 66) at_ <;> simp_all
        refine ret_bool ?_
        simp only [wordsAt_eq, hb, cond_false, casG_same, casG_up, putW_at, sameW_of (putW_back m at_ v), sameW_of (putW_self m at_)]
        rfl
    )
end Go.Proofs.Ytndfcbcmeeemfaa.Abs
