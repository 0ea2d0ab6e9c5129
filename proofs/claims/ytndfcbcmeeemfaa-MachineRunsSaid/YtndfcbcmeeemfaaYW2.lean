/-
  THE LAW WordSwaps as a contract.
-/
import Derived.Test.YtndfcbcmeeemfaaYW1
import Derived.Test.YtndfcbcmeeemfaaX5
namespace Go.Proofs.Ytndfcbcmeeemfaa.Abs
open Go
set_option maxRecDepth 10000

def tabY : Tab := tabAdd 18 (fun args => match args with
  | [] => some (.cv (ibool true), True)
  | _ => none) (tabAdd 19 (fun args => match args with
  | [.one (.imm (.sl 1 n _ cell))] => some (.cv (.one (uS (min n 66) false (wordsAt cell))), isWords n cell)
  | _ => none) (tabAdd 21 (fun args => match args with
  | [.one (.imm (.sl 1 n _ cell)), .one (.imm (.sl 1 n' _ cell'))] => some (.cv (ibool (sameW n (wordsAt cell) n' (wordsAt cell'))), isWords n cell ∧ isWords n' cell')
  | _ => none) tabX))
theorem tabY_ok : TabOk Try.prog tabY := by
  refine tabAdd_ok rfl (fun args r p h hp => ?_) (tabAdd_ok rfl (fun args r p h hp => ?_) (tabAdd_ok rfl (fun args r p h hp => ?_) tabX_ok))
  · split at h
    · simp only [Option.some.injEq, Prod.mk.injEq] at h; obtain ⟨rfl, rfl⟩ := h; exact alive18
    · cases h
  · split at h
    · rename_i n ex cell
      simp only [Option.some.injEq, Prod.mk.injEq] at h; obtain ⟨rfl, rfl⟩ := h; exact (few19 n ex (wordsAt cell)).args (TLe.cons (words_le hp) (TLe.refl _))
    · cases h
  · split at h
    · rename_i n ex cell n' ex' cell'
      simp only [Option.some.injEq, Prod.mk.injEq] at h; obtain ⟨rfl, rfl⟩ := h; exact (same21 n ex (wordsAt cell) n' ex' (wordsAt cell')).args (TLe.cons (words_le hp.1) (TLe.cons (words_le hp.2) TLe.nil))
    · cases h

theorem wordsAt_eq (g : Nat → Int) : wordsAt (fun i _ => IV.val (.int .u64 (g i))) = g := rfl
theorem up_ne (x : Int) : (x == IntKind.u64.wrap (x + 1)) = false := by
  rw [IntKind.wrap_u64, beq_eq_false_iff_ne]
  omega
theorem sameW_of {n : Nat} {a b : Nat → Int} (h : ∀ i, a i = b i) : sameW n a n b = true := by
  simp [sameW, h]
theorem putW_back (m : Nat → Int) (at_ v : Int) (i : Nat) : putW (putW m at_ v) at_ (m at_.toNat) i = m i := by
  unfold putW
  cases h : Nat.beq i at_.toNat with
  | true => rw [Nat.eq_of_beq_eq_true h]; rfl
  | false => rfl
theorem putW_self (m : Nat → Int) (at_ : Int) (i : Nat) : putW m at_ (m at_.toNat) i = m i := by
  unfold putW
  cases h : Nat.beq i at_.toNat with
  | true => rw [Nat.eq_of_beq_eq_true h]; rfl
  | false => rfl
theorem putW_at (m : Nat → Int) (at_ v : Int) : putW m at_ v at_.toNat = v := by simp [putW]
theorem casG_same (x v : Int) : casG x v x = (v, 1) := by simp [casG]
theorem casG_up (x v : Int) : casG (IntKind.u64.wrap (x + 1)) v x = (x, 0) := by simp [casG, up_ne x]

theorem swaps4 (n : Nat) (ex : Bool) (m : Nat → Int) (at_ v : Int) : PCall Try.prog 4 [.one (uS n ex m), iint at_, iu v] (.cv (ibool true)) := by
  refine PCall_of (ACall_body good Try.func4 rfl 103 rfl (by simp) ?_)
  refine AW_seq ?_
  refine AW_all good tabY tabY_ok rfl rfl ?_ ?_
  · repeat' (first | exact trivial | exact rfl | exact (fun _ _ => rfl) | apply And.intro | intro _)
    all_goals (first | omega | (change (_ : Bool) = true; simp_all; done) | (simp_all; done))
  refine AW_seq ?_
  refine AW_all good tabY tabY_ok rfl rfl ?_ ?_
  · repeat' (first | exact trivial | exact rfl | exact (fun _ _ => rfl) | apply And.intro | intro _)
    all_goals (first | omega | (change (_ : Bool) = true; simp_all; done) | (simp_all; done))
  refine AW_seq ?_
  refine AW_all good tabY tabY_ok rfl rfl ?_ ?_
  · repeat' (first | exact trivial | exact rfl | exact (fun _ _ => rfl) | apply And.intro | intro _)
    all_goals (first | omega | (change (_ : Bool) = true; simp_all; done) | (simp_all; done))
  refine AW_seq ?_
  refine AW_all good tabY tabY_ok rfl rfl ?_ ?_
  · repeat' (first | exact trivial | exact rfl | exact (fun _ _ => rfl) | apply And.intro | intro _)
    all_goals (first | omega | (change (_ : Bool) = true; simp_all; done) | (simp_all; done))
  refine AW_seq ?_
  refine AW_seq ?_
  refine AW_all good tabY tabY_ok rfl rfl ?_ ?_
  · repeat' (first | exact trivial | exact rfl | exact (fun _ _ => rfl) | apply And.intro | intro _)
    all_goals (first | omega | (change (_ : Bool) = true; simp_all; done) | (simp_all; done))
  refine AW_cond rfl (fun h1 => ?_) (fun h1 => ?_)
  · first
    | (exfalso; simp_all; done)
    | (
        refine AW_seq ?_
        refine AW_all good tabY tabY_ok rfl rfl ?_ ?_
        · repeat' (first | exact trivial | exact rfl | exact (fun _ _ => rfl) | apply And.intro | intro _)
          all_goals (first | omega | (change (_ : Bool) = true; simp_all; done) | (simp_all; done))
        refine AW_ret (bodyQ_ret rfl ?_ (Ends.intro rfl ?_ ?_))
        · repeat' (first | exact trivial | exact rfl | exact (fun _ _ => rfl) | apply And.intro | intro _)
          all_goals (first | omega | (change (_ : Bool) = true; simp_all; done) | (simp_all; done))
        · repeat' (first | exact trivial | exact rfl | exact (fun _ _ => rfl) | apply And.intro | intro _)
          all_goals (first | omega | (change (_ : Bool) = true; simp_all; done) | (simp_all; done))
        have hb : badAt (min n 66) at_ = true := by
          cases hb : badAt (min n 66) at_ <;> simp_all
        exact ret_bool (by simp [hb])
    )
  · first
    | (exfalso; simp_all; done)
    | (
        refine AW_skip ?_
        refine AW_seq ?_
        refine AW_all good tabY tabY_ok rfl rfl ?_ ?_
        · repeat' (first | exact trivial | exact rfl | exact (fun _ _ => rfl) | apply And.intro | intro _)
          all_goals (first | omega | (change (_ : Bool) = true; simp_all; done) | (simp_all; done))
        refine AW_seq ?_
        refine AW_all good tabY tabY_ok rfl rfl ?_ ?_
        · repeat' (first | exact trivial | exact rfl | exact (fun _ _ => rfl) | apply And.intro | intro _)
          all_goals (first | omega | (change (_ : Bool) = true; simp_all; done) | (simp_all; done))
        refine AW_seq ?_
        refine AW_all good tabY tabY_ok rfl rfl ?_ ?_
        · repeat' (first | exact trivial | exact rfl | exact (fun _ _ => rfl) | apply And.intro | intro _)
          all_goals (first | omega | (change (_ : Bool) = true; simp_all; done) | (simp_all; done))
        refine AW_ret (bodyQ_ret rfl ?_ (Ends.intro rfl ?_ ?_))
        · repeat' (first | exact trivial | exact rfl | exact (fun _ _ => rfl) | apply And.intro | intro _)
          all_goals (first | omega | (change (_ : Bool) = true; simp_all; done) | (simp_all; done))
        · repeat' (first | exact trivial | exact rfl | exact (fun _ _ => rfl) | apply And.intro | intro _)
          all_goals (first | omega | (change (_ : Bool) = true; simp_all; done) | (simp_all; done))
        have hb : badAt (min n 66) at_ = false := by
          cases hb : badAt (min n 66) at_ <;> simp_all
        refine ret_bool ?_
        simp only [wordsAt_eq, hb, cond_false, casG_same, casG_up, putW_at, sameW_of (putW_back m at_ v), sameW_of (putW_self m at_)]
        rfl
    )
end Go.Proofs.Ytndfcbcmeeemfaa.Abs

/-
  THE CONTRACTS OF PACKAGE word (7): Do.
-/
namespace Go.Proofs.Ytndfcbcmeeemfaa.Abs
open Go
set_option maxRecDepth 10000

/-- What a step of kind k makes of a word, and what it answers. -/
def newW (k x y w : Int) : Int := bif k == 1 then w else bif k == 2 then x else bif k == 3 then (casG x y w).1 else IntKind.u64.wrap (w + x)
def ansW (k x y w : Int) : Int := bif k == 1 then w else bif k == 2 then 0 else bif k == 3 then (casG x y w).2 else w
def badK (k : Int) (n : Nat) (at_ : Int) : Bool := !(k == 1 || (k == 2 || (k == 3 || k == 4))) || badAt n at_
def doV (n : Nat) (m : Nat → Int) (k at_ x y : Int) : SV :=
  .tup [.one (uS (bif badK k n at_ then 0 else n) false (putW m at_ (newW k x y (m at_.toNat)))), iu (bif badK k n at_ then 0 else ansW k x y (m at_.toNat)), iint (bif badK k n at_ then 1 else 0)]
def stepC (k at_ x y : Int) : CV := .agg [.imm (.val (.int .i64 k)), .imm (.val (.int .i64 at_)), .imm (.val (.int .u64 x)), .imm (.val (.int .u64 y))]

theorem do23 (n : Nat) (ex : Bool) (m : Nat → Int) (k at_ x y : Int) : PCall Try.prog 23 [.one (uS n ex m), stepC k at_ x y] (doV n m k at_ x y) := by
  refine PCall_of (ACall_body good Try.func23 rfl 62 rfl (by simp) ?_)
  refine AW_seq ?_
  refine AW_eff good tab0 (tab0_ok _) et0 (et0_ok _) [0] rfl rfl ?_ ?_
  · repeat' (first | exact trivial | exact rfl | exact (fun _ _ => rfl) | apply And.intro | intro _)
    all_goals (first | omega | (change (_ : Bool) = true; simp_all; done) | (simp_all; done))
  refine AW_seq ?_
  refine AW_seq ?_
  refine AW_all good tabX tabX_ok rfl rfl ?_ ?_
  · repeat' (first | exact trivial | exact rfl | exact (fun _ _ => rfl) | apply And.intro | intro _)
    all_goals (first | omega | (change (_ : Bool) = true; simp_all; done) | (simp_all; done))
  refine AW_block ?_
  refine AW_seq ?_
  refine AW_all good tabX tabX_ok rfl rfl ?_ ?_
  · repeat' (first | exact trivial | exact rfl | exact (fun _ _ => rfl) | apply And.intro | intro _)
    all_goals (first | omega | (change (_ : Bool) = true; simp_all; done) | (simp_all; done))
  refine AW_cond rfl (fun h1 => ?_) (fun h1 => ?_)
  · first
    | (exfalso; simp_all; done)
    | (
        refine AW_seq ?_
        refine AW_all good tabX tabX_ok rfl rfl ?_ ?_
        · repeat' (first | exact trivial | exact rfl | exact (fun _ _ => rfl) | apply And.intro | intro _)
          all_goals (first | omega | (change (_ : Bool) = true; simp_all; done) | (simp_all; done))
        refine AW_ret (bodyQ_ret rfl ?_ (Ends.le rfl ?_ ?_))
        · repeat' (first | exact trivial | exact rfl | exact (fun _ _ => rfl) | apply And.intro | intro _)
          all_goals (first | omega | (change (_ : Bool) = true; simp_all; done) | (simp_all; done))
        · repeat' (first | exact trivial | exact rfl | exact (fun _ _ => rfl) | apply And.intro | intro _)
          all_goals (first | omega | (change (_ : Bool) = true; simp_all; done) | (simp_all; done))
        obtain rfl : k = 1 := by simpa using h1
        exact SLe.of_eq rfl
    )
  · first
    | (exfalso; simp_all; done)
    | (
        refine AW_seq ?_
        refine AW_all good tabX tabX_ok rfl rfl ?_ ?_
        · repeat' (first | exact trivial | exact rfl | exact (fun _ _ => rfl) | apply And.intro | intro _)
          all_goals (first | omega | (change (_ : Bool) = true; simp_all; done) | (simp_all; done))
        refine AW_cond rfl (fun h2 => ?_) (fun h2 => ?_)
        · first
          | (exfalso; simp_all; done)
          | (
              refine AW_seq ?_
              refine AW_all good tabX tabX_ok rfl rfl ?_ ?_
              · repeat' (first | exact trivial | exact rfl | exact (fun _ _ => rfl) | apply And.intro | intro _)
                all_goals (first | omega | (change (_ : Bool) = true; simp_all; done) | (simp_all; done))
              refine AW_ret (bodyQ_ret rfl ?_ (Ends.le rfl ?_ ?_))
              · repeat' (first | exact trivial | exact rfl | exact (fun _ _ => rfl) | apply And.intro | intro _)
                all_goals (first | omega | (change (_ : Bool) = true; simp_all; done) | (simp_all; done))
              · repeat' (first | exact trivial | exact rfl | exact (fun _ _ => rfl) | apply And.intro | intro _)
                all_goals (first | omega | (change (_ : Bool) = true; simp_all; done) | (simp_all; done))
              obtain rfl : k = 2 := by simpa using h2
              exact SLe.of_eq rfl
          )
        · first
          | (exfalso; simp_all; done)
          | (
              refine AW_seq ?_
              refine AW_all good tabX tabX_ok rfl rfl ?_ ?_
              · repeat' (first | exact trivial | exact rfl | exact (fun _ _ => rfl) | apply And.intro | intro _)
                all_goals (first | omega | (change (_ : Bool) = true; simp_all; done) | (simp_all; done))
              refine AW_cond rfl (fun h3 => ?_) (fun h3 => ?_)
              · first
                | (exfalso; simp_all; done)
                | (
                    refine AW_seq ?_
                    refine AW_all good tabX tabX_ok rfl rfl ?_ ?_
                    · repeat' (first | exact trivial | exact rfl | exact (fun _ _ => rfl) | apply And.intro | intro _)
                      all_goals (first | omega | (change (_ : Bool) = true; simp_all; done) | (simp_all; done))
                    refine AW_seq ?_
                    refine AW_seq ?_
                    refine AW_all good tabX tabX_ok rfl rfl ?_ ?_
                    · repeat' (first | exact trivial | exact rfl | exact (fun _ _ => rfl) | apply And.intro | intro _)
                      all_goals (first | omega | (change (_ : Bool) = true; simp_all; done) | (simp_all; done))
                    refine AW_cond rfl (fun h4 => ?_) (fun h4 => ?_)
                    · first
                      | (exfalso; simp_all; done)
                      | (
                          refine AW_seq ?_
                          refine AW_all good tabX tabX_ok rfl rfl ?_ ?_
                          · repeat' (first | exact trivial | exact rfl | exact (fun _ _ => rfl) | apply And.intro | intro _)
                            all_goals (first | omega | (change (_ : Bool) = true; simp_all; done) | (simp_all; done))
                          refine AW_ret (bodyQ_ret rfl ?_ (Ends.le rfl ?_ ?_))
                          · repeat' (first | exact trivial | exact rfl | exact (fun _ _ => rfl) | apply And.intro | intro _)
                            all_goals (first | omega | (change (_ : Bool) = true; simp_all; done) | (simp_all; done))
                          · repeat' (first | exact trivial | exact rfl | exact (fun _ _ => rfl) | apply And.intro | intro _)
                            all_goals (first | omega | (change (_ : Bool) = true; simp_all; done) | (simp_all; done))
                          obtain rfl : k = 3 := by simpa using h3
                          have e : (bif badAt n at_ then 0 else (casG x y (m at_.toNat)).2) = 0 := by
                            have h := h4
                            rw [wordsAt_eq] at h
                            cases hb : badAt n at_ with
                            | true => rfl
                            | false =>
                              rw [hb] at h
                              unfold casG at h ⊢
                              cases hc : m at_.toNat == x <;> simp_all
                          exact SLe.triple (CLe.of_eq rfl) (CLe.of_eq (congrArg iu e.symm)) (CLe.of_eq rfl)
                      )
                    · first
                      | (exfalso; simp_all; done)
                      | (
                          refine AW_skip ?_
                          refine AW_seq ?_
                          refine AW_all good tabX tabX_ok rfl rfl ?_ ?_
                          · repeat' (first | exact trivial | exact rfl | exact (fun _ _ => rfl) | apply And.intro | intro _)
                            all_goals (first | omega | (change (_ : Bool) = true; simp_all; done) | (simp_all; done))
                          refine AW_ret (bodyQ_ret rfl ?_ (Ends.le rfl ?_ ?_))
                          · repeat' (first | exact trivial | exact rfl | exact (fun _ _ => rfl) | apply And.intro | intro _)
                            all_goals (first | omega | (change (_ : Bool) = true; simp_all; done) | (simp_all; done))
                          · repeat' (first | exact trivial | exact rfl | exact (fun _ _ => rfl) | apply And.intro | intro _)
                            all_goals (first | omega | (change (_ : Bool) = true; simp_all; done) | (simp_all; done))
                          obtain rfl : k = 3 := by simpa using h3
                          have e : (bif badAt n at_ then 0 else (casG x y (m at_.toNat)).2) = 1 := by
                            have h := h4
                            rw [wordsAt_eq] at h
                            simpa using h
                          exact SLe.triple (CLe.of_eq rfl) (CLe.of_eq (congrArg iu e.symm)) (CLe.of_eq rfl)
                      )
                )
              · first
                | (exfalso; simp_all; done)
                | (
                    refine AW_seq ?_
                    refine AW_all good tabX tabX_ok rfl rfl ?_ ?_
                    · repeat' (first | exact trivial | exact rfl | exact (fun _ _ => rfl) | apply And.intro | intro _)
                      all_goals (first | omega | (change (_ : Bool) = true; simp_all; done) | (simp_all; done))
                    refine AW_cond rfl (fun h5 => ?_) (fun h5 => ?_)
                    · first
                      | (exfalso; simp_all; done)
                      | (
                          refine AW_seq ?_
                          refine AW_all good tabX tabX_ok rfl rfl ?_ ?_
                          · repeat' (first | exact trivial | exact rfl | exact (fun _ _ => rfl) | apply And.intro | intro _)
                            all_goals (first | omega | (change (_ : Bool) = true; simp_all; done) | (simp_all; done))
                          refine AW_ret (bodyQ_ret rfl ?_ (Ends.le rfl ?_ ?_))
                          · repeat' (first | exact trivial | exact rfl | exact (fun _ _ => rfl) | apply And.intro | intro _)
                            all_goals (first | omega | (change (_ : Bool) = true; simp_all; done) | (simp_all; done))
                          · repeat' (first | exact trivial | exact rfl | exact (fun _ _ => rfl) | apply And.intro | intro _)
                            all_goals (first | omega | (change (_ : Bool) = true; simp_all; done) | (simp_all; done))
                          obtain rfl : k = 4 := by simpa using h5
                          exact SLe.of_eq rfl
                      )
                    · first
                      | (exfalso; simp_all; done)
                      | (
                          refine AW_skip ?_
                          refine AW_seq ?_
                          refine AW_all good tabX tabX_ok rfl rfl ?_ ?_
                          · repeat' (first | exact trivial | exact rfl | exact (fun _ _ => rfl) | apply And.intro | intro _)
                            all_goals (first | omega | (change (_ : Bool) = true; simp_all; done) | (simp_all; done))
                          refine AW_ret (bodyQ_ret rfl ?_ (Ends.le rfl ?_ ?_))
                          · repeat' (first | exact trivial | exact rfl | exact (fun _ _ => rfl) | apply And.intro | intro _)
                            all_goals (first | omega | (change (_ : Bool) = true; simp_all; done) | (simp_all; done))
                          · repeat' (first | exact trivial | exact rfl | exact (fun _ _ => rfl) | apply And.intro | intro _)
                            all_goals (first | omega | (change (_ : Bool) = true; simp_all; done) | (simp_all; done))
                          have hb : badK k n at_ = true := by simp [badK, h1, h2, h3, h5]
                          unfold doV
                          rw [hb]
                          exact SLe.triple (CLe.imm (ILe.sl rfl (by simp) (.inl rfl))) (CLe.of_eq rfl) (CLe.of_eq rfl)
                      )
                )
          )
    )
end Go.Proofs.Ytndfcbcmeeemfaa.Abs

/-
  THE LAW WordDoes as a contract.
-/
namespace Go.Proofs.Ytndfcbcmeeemfaa.Abs
open Go
set_option maxRecDepth 10000

theorem sameW_self (n : Nat) (a : Nat → Int) : sameW n a n a = true := sameW_of fun _ => rfl

def tabZ : Tab := tabAdd 23 (fun args => match args with
  | [.one (.imm (.sl 1 n _ cell)), .agg [.imm (.val (.int .i64 k)), .imm (.val (.int .i64 at_)), .imm (.val (.int .u64 x)), .imm (.val (.int .u64 y))]] => some (doV n (wordsAt cell) k at_ x y, isWords n cell)
  | _ => none) tabY
theorem tabZ_ok : TabOk Try.prog tabZ := by
  refine tabAdd_ok rfl (fun args r p h hp => ?_) tabY_ok
  split at h
  · rename_i n ex cell k at_ x y
    simp only [Option.some.injEq, Prod.mk.injEq] at h; obtain ⟨rfl, rfl⟩ := h; exact (do23 n ex (wordsAt cell) k at_ x y).args (TLe.cons (words_le hp) (TLe.refl _))
  · cases h

theorem does8 (n : Nat) (ex : Bool) (m : Nat → Int) (k at_ x y : Int) : PCall Try.prog 8 [.one (uS n ex m), stepC k at_ x y] (.cv (ibool true)) := by
  refine PCall_of (ACall_body good Try.func8 rfl 148 rfl (by simp) ?_)
  refine AW_seq ?_
  refine AW_all good tabZ tabZ_ok rfl rfl ?_ ?_
  · repeat' (first | exact trivial | exact rfl | exact (fun _ _ => rfl) | apply And.intro | intro _)
    all_goals (first | omega | (rename_i hg; exact hg) | (change (_ : Bool) = true; simp_all; done) | (simp_all; done))
  refine AW_seq ?_
  refine AW_all good tabZ tabZ_ok rfl rfl ?_ ?_
  · repeat' (first | exact trivial | exact rfl | exact (fun _ _ => rfl) | apply And.intro | intro _)
    all_goals (first | omega | (rename_i hg; exact hg) | (change (_ : Bool) = true; simp_all; done) | (simp_all; done))
  refine AW_seq ?_
  refine AW_all good tabZ tabZ_ok rfl rfl ?_ ?_
  · repeat' (first | exact trivial | exact rfl | exact (fun _ _ => rfl) | apply And.intro | intro _)
    all_goals (first | omega | (rename_i hg; exact hg) | (change (_ : Bool) = true; simp_all; done) | (simp_all; done))
  refine AW_seq ?_
  refine AW_seq ?_
  refine AW_all good tabZ tabZ_ok rfl rfl ?_ ?_
  · repeat' (first | exact trivial | exact rfl | exact (fun _ _ => rfl) | apply And.intro | intro _)
    all_goals (first | omega | (rename_i hg; exact hg) | (change (_ : Bool) = true; simp_all; done) | (simp_all; done))
  refine AW_block ?_
  refine AW_seq ?_
  refine AW_all good tabZ tabZ_ok rfl rfl ?_ ?_
  · repeat' (first | exact trivial | exact rfl | exact (fun _ _ => rfl) | apply And.intro | intro _)
    all_goals (first | omega | (rename_i hg; exact hg) | (change (_ : Bool) = true; simp_all; done) | (simp_all; done))
  refine AW_cond rfl (fun h1 => ?_) (fun h1 => ?_)
  · first
    | (exfalso; simp_all; done)
    | (
        refine AW_seq ?_
        refine AW_all good tabZ tabZ_ok rfl rfl ?_ ?_
        · repeat' (first | exact trivial | exact rfl | exact (fun _ _ => rfl) | apply And.intro | intro _)
          all_goals (first | omega | (rename_i hg; exact hg) | (change (_ : Bool) = true; simp_all; done) | (simp_all; done))
        refine AW_seq ?_
        refine AW_all good tabZ tabZ_ok rfl rfl ?_ ?_
        · repeat' (first | exact trivial | exact rfl | exact (fun _ _ => rfl) | apply And.intro | intro _)
          all_goals (first | omega | (rename_i hg; exact hg) | (change (_ : Bool) = true; simp_all; done) | (simp_all; done))
        refine AW_ret (bodyQ_ret rfl ?_ (Ends.intro rfl ?_ ?_))
        · repeat' (first | exact trivial | exact rfl | exact (fun _ _ => rfl) | apply And.intro | intro _)
          all_goals (first | omega | (rename_i hg; exact hg) | (change (_ : Bool) = true; simp_all; done) | (simp_all; done))
        · repeat' (first | exact trivial | exact rfl | exact (fun _ _ => rfl) | apply And.intro | intro _)
          all_goals (first | omega | (rename_i hg; exact hg) | (change (_ : Bool) = true; simp_all; done) | (simp_all; done))
        obtain rfl : k = 1 := by simpa using h1
        refine ret_bool ?_
        have e : badK 1 (min n 66) at_ = badAt (min n 66) at_ := rfl
        have e1 : ∀ w, newW 1 x y w = w := fun _ => rfl
        have e2 : ∀ w, ansW 1 x y w = w := fun _ => rfl
        simp only [wordsAt_eq, e, e1, e2]
        cases hb : badAt (min n 66) at_ with
        | true => simp [sameW]
        | false => simp [sameW_of (putW_self m at_)]
    )
  · first
    | (exfalso; simp_all; done)
    | (
        refine AW_seq ?_
        refine AW_all good tabZ tabZ_ok rfl rfl ?_ ?_
        · repeat' (first | exact trivial | exact rfl | exact (fun _ _ => rfl) | apply And.intro | intro _)
          all_goals (first | omega | (rename_i hg; exact hg) | (change (_ : Bool) = true; simp_all; done) | (simp_all; done))
        refine AW_cond rfl (fun h2 => ?_) (fun h2 => ?_)
        · first
          | (exfalso; simp_all; done)
          | (
              refine AW_seq ?_
              refine AW_all good tabZ tabZ_ok rfl rfl ?_ ?_
              · repeat' (first | exact trivial | exact rfl | exact (fun _ _ => rfl) | apply And.intro | intro _)
                all_goals (first | omega | (rename_i hg; exact hg) | (change (_ : Bool) = true; simp_all; done) | (simp_all; done))
              refine AW_seq ?_
              refine AW_all good tabZ tabZ_ok rfl rfl ?_ ?_
              · repeat' (first | exact trivial | exact rfl | exact (fun _ _ => rfl) | apply And.intro | intro _)
                all_goals (first | omega | (rename_i hg; exact hg) | (change (_ : Bool) = true; simp_all; done) | (simp_all; done))
              refine AW_ret (bodyQ_ret rfl ?_ (Ends.intro rfl ?_ ?_))
              · repeat' (first | exact trivial | exact rfl | exact (fun _ _ => rfl) | apply And.intro | intro _)
                all_goals (first | omega | (rename_i hg; exact hg) | (change (_ : Bool) = true; simp_all; done) | (simp_all; done))
              · repeat' (first | exact trivial | exact rfl | exact (fun _ _ => rfl) | apply And.intro | intro _)
                all_goals (first | omega | (rename_i hg; exact hg) | (change (_ : Bool) = true; simp_all; done) | (simp_all; done))
              obtain rfl : k = 2 := by simpa using h2
              refine ret_bool ?_
              have e : badK 2 (min n 66) at_ = badAt (min n 66) at_ := rfl
              have e1 : ∀ w, newW 2 x y w = x := fun _ => rfl
              have e2 : ∀ w, ansW 2 x y w = 0 := fun _ => rfl
              simp only [wordsAt_eq, e, e1, e2]
              cases hb : badAt (min n 66) at_ with
              | true => simp [sameW]
              | false => simp [sameW_self]
          )
        · first
          | (exfalso; simp_all; done)
          | (
              refine AW_seq ?_
              refine AW_all good tabZ tabZ_ok rfl rfl ?_ ?_
              · repeat' (first | exact trivial | exact rfl | exact (fun _ _ => rfl) | apply And.intro | intro _)
                all_goals (first | omega | (rename_i hg; exact hg) | (change (_ : Bool) = true; simp_all; done) | (simp_all; done))
              refine AW_cond rfl (fun h3 => ?_) (fun h3 => ?_)
              · first
                | (exfalso; simp_all; done)
                | (
                    refine AW_seq ?_
                    refine AW_all good tabZ tabZ_ok rfl rfl ?_ ?_
                    · repeat' (first | exact trivial | exact rfl | exact (fun _ _ => rfl) | apply And.intro | intro _)
                      all_goals (first | omega | (rename_i hg; exact hg) | (change (_ : Bool) = true; simp_all; done) | (simp_all; done))
                    refine AW_seq ?_
                    refine AW_all good tabZ tabZ_ok rfl rfl ?_ ?_
                    · repeat' (first | exact trivial | exact rfl | exact (fun _ _ => rfl) | apply And.intro | intro _)
                      all_goals (first | omega | (rename_i hg; exact hg) | (change (_ : Bool) = true; simp_all; done) | (simp_all; done))
                    refine AW_ret (bodyQ_ret rfl ?_ (Ends.intro rfl ?_ ?_))
                    · repeat' (first | exact trivial | exact rfl | exact (fun _ _ => rfl) | apply And.intro | intro _)
                      all_goals (first | omega | (rename_i hg; exact hg) | (change (_ : Bool) = true; simp_all; done) | (simp_all; done))
                    · repeat' (first | exact trivial | exact rfl | exact (fun _ _ => rfl) | apply And.intro | intro _)
                      all_goals (first | omega | (rename_i hg; exact hg) | (change (_ : Bool) = true; simp_all; done) | (simp_all; done))
                    obtain rfl : k = 3 := by simpa using h3
                    refine ret_bool ?_
                    have e : badK 3 (min n 66) at_ = badAt (min n 66) at_ := rfl
                    have e1 : ∀ w, newW 3 x y w = (casG x y w).1 := fun _ => rfl
                    have e2 : ∀ w, ansW 3 x y w = (casG x y w).2 := fun _ => rfl
                    simp only [wordsAt_eq, e, e1, e2]
                    cases hb : badAt (min n 66) at_ with
                    | true => simp [sameW]
                    | false => simp [sameW_self]
                )
              · first
                | (exfalso; simp_all; done)
                | (
                    refine AW_seq ?_
                    refine AW_all good tabZ tabZ_ok rfl rfl ?_ ?_
                    · repeat' (first | exact trivial | exact rfl | exact (fun _ _ => rfl) | apply And.intro | intro _)
                      all_goals (first | omega | (rename_i hg; exact hg) | (change (_ : Bool) = true; simp_all; done) | (simp_all; done))
                    refine AW_cond rfl (fun h4 => ?_) (fun h4 => ?_)
                    · first
                      | (exfalso; simp_all; done)
                      | (
                          refine AW_seq ?_
                          refine AW_all good tabZ tabZ_ok rfl rfl ?_ ?_
                          · repeat' (first | exact trivial | exact rfl | exact (fun _ _ => rfl) | apply And.intro | intro _)
                            all_goals (first | omega | (rename_i hg; exact hg) | (change (_ : Bool) = true; simp_all; done) | (simp_all; done))
                          refine AW_seq ?_
                          refine AW_all good tabZ tabZ_ok rfl rfl ?_ ?_
                          · repeat' (first | exact trivial | exact rfl | exact (fun _ _ => rfl) | apply And.intro | intro _)
                            all_goals (first | omega | (rename_i hg; exact hg) | (change (_ : Bool) = true; simp_all; done) | (simp_all; done))
                          refine AW_ret (bodyQ_ret rfl ?_ (Ends.intro rfl ?_ ?_))
                          · repeat' (first | exact trivial | exact rfl | exact (fun _ _ => rfl) | apply And.intro | intro _)
                            all_goals (first | omega | (rename_i hg; exact hg) | (change (_ : Bool) = true; simp_all; done) | (simp_all; done))
                          · repeat' (first | exact trivial | exact rfl | exact (fun _ _ => rfl) | apply And.intro | intro _)
                            all_goals (first | omega | (rename_i hg; exact hg) | (change (_ : Bool) = true; simp_all; done) | (simp_all; done))
                          obtain rfl : k = 4 := by simpa using h4
                          refine ret_bool ?_
                          have e : badK 4 (min n 66) at_ = badAt (min n 66) at_ := rfl
                          have e1 : ∀ w, newW 4 x y w = IntKind.u64.wrap (w + x) := fun _ => rfl
                          have e2 : ∀ w, ansW 4 x y w = w := fun _ => rfl
                          simp only [wordsAt_eq, e, e1, e2]
                          cases hb : badAt (min n 66) at_ with
                          | true => simp [sameW]
                          | false =>
                            simp
                            exact sameW_self _ _
                      )
                    · first
                      | (exfalso; simp_all; done)
                      | (
                          refine AW_skip ?_
                          refine AW_seq ?_
                          refine AW_all good tabZ tabZ_ok rfl rfl ?_ ?_
                          · repeat' (first | exact trivial | exact rfl | exact (fun _ _ => rfl) | apply And.intro | intro _)
                            all_goals (first | omega | (rename_i hg; exact hg) | (change (_ : Bool) = true; simp_all; done) | (simp_all; done))
                          refine AW_ret (bodyQ_ret rfl ?_ (Ends.intro rfl ?_ ?_))
                          · repeat' (first | exact trivial | exact rfl | exact (fun _ _ => rfl) | apply And.intro | intro _)
                            all_goals (first | omega | (rename_i hg; exact hg) | (change (_ : Bool) = true; simp_all; done) | (simp_all; done))
                          · repeat' (first | exact trivial | exact rfl | exact (fun _ _ => rfl) | apply And.intro | intro _)
                            all_goals (first | omega | (rename_i hg; exact hg) | (change (_ : Bool) = true; simp_all; done) | (simp_all; done))
                          have e : badK k (min n 66) at_ = true := by simp [badK, h1, h2, h3, h4]
                          exact ret_bool (by rw [e]; rfl)
                      )
                )
          )
    )
end Go.Proofs.Ytndfcbcmeeemfaa.Abs

/-
  THE LAW WordApart as a contract.
-/
namespace Go.Proofs.Ytndfcbcmeeemfaa.Abs
open Go
set_option maxRecDepth 10000

theorem blt0 (i : Nat) : Nat.blt i 0 = false := rfl

theorem apart7 (n : Nat) (ex : Bool) (m : Nat → Int) (k at_ x y : Int) : PCall Try.prog 7 [.one (uS n ex m), stepC k at_ x y] (.cv (ibool true)) := by
  refine PCall_of (ACall_body good Try.func7 rfl 98 rfl (by simp) ?_)
  refine AW_seq ?_
  refine AW_eff good tabZ tabZ_ok et0 (et0_ok _) [0] rfl rfl ?_ ?_
  · repeat' (first | exact trivial | exact rfl | exact (fun _ _ => rfl) | apply And.intro | intro _)
    all_goals (first | omega | (rename_i hg; exact hg) | (change (_ : Bool) = true; simp_all; done) | (simp_all; done) | (show (0 + min n 66) * 8 ≤ 140737488355328; omega) | (simp only [maxLen]; omega))
  refine AW_seq ?_
  refine AW_all good tabZ tabZ_ok rfl rfl ?_ ?_
  · repeat' (first | exact trivial | exact rfl | exact (fun _ _ => rfl) | apply And.intro | intro _)
    all_goals (first | omega | (rename_i hg; exact hg) | (change (_ : Bool) = true; simp_all; done) | (simp_all; done) | (show (0 + min n 66) * 8 ≤ 140737488355328; omega) | (simp only [maxLen]; omega))
  refine AW_seq ?_
  refine AW_eff good tabZ tabZ_ok et0 (et0_ok _) [2] rfl rfl ?_ ?_
  · repeat' (first | exact trivial | exact rfl | exact (fun _ _ => rfl) | apply And.intro | intro _)
    all_goals (first | omega | (rename_i hg; exact hg) | (change (_ : Bool) = true; simp_all; done) | (simp_all; done) | (show (0 + min n 66) * 8 ≤ 140737488355328; omega) | (simp only [maxLen]; omega))
  refine AW_seq ?_
  refine AW_all good tabZ tabZ_ok rfl rfl ?_ ?_
  · repeat' (first | exact trivial | exact rfl | exact (fun _ _ => rfl) | apply And.intro | intro _)
    all_goals (first | omega | (rename_i hg; exact hg) | (change (_ : Bool) = true; simp_all; done) | (simp_all; done) | (show (0 + min n 66) * 8 ≤ 140737488355328; omega) | (simp only [maxLen]; omega))
  refine AW_seq ?_
  refine AW_seq ?_
  refine AW_all good tabZ tabZ_ok rfl rfl ?_ ?_
  · repeat' (first | exact trivial | exact rfl | exact (fun _ _ => rfl) | apply And.intro | intro _)
    all_goals (first | omega | (rename_i hg; exact hg) | (change (_ : Bool) = true; simp_all; done) | (simp_all; done) | (show (0 + min n 66) * 8 ≤ 140737488355328; omega) | (simp only [maxLen]; omega))
  refine AW_cond rfl (fun h1 => ?_) (fun h1 => ?_)
  · first
    | (exfalso; simp_all; done)
    | (
        refine AW_seq ?_
        refine AW_all good tabZ tabZ_ok rfl rfl ?_ ?_
        · repeat' (first | exact trivial | exact rfl | exact (fun _ _ => rfl) | apply And.intro | intro _)
          all_goals (first | omega | (rename_i hg; exact hg) | (change (_ : Bool) = true; simp_all; done) | (simp_all; done) | (show (0 + min n 66) * 8 ≤ 140737488355328; omega) | (simp only [maxLen]; omega))
        refine AW_ret (bodyQ_ret rfl ?_ (Ends.intro rfl ?_ ?_))
        · repeat' (first | exact trivial | exact rfl | exact (fun _ _ => rfl) | apply And.intro | intro _)
          all_goals (first | omega | (rename_i hg; exact hg) | (change (_ : Bool) = true; simp_all; done) | (simp_all; done) | (show (0 + min n 66) * 8 ≤ 140737488355328; omega) | (simp only [maxLen]; omega))
        · repeat' (first | exact trivial | exact rfl | exact (fun _ _ => rfl) | apply And.intro | intro _)
          all_goals (first | omega | (rename_i hg; exact hg) | (change (_ : Bool) = true; simp_all; done) | (simp_all; done) | (show (0 + min n 66) * 8 ≤ 140737488355328; omega) | (simp only [maxLen]; omega))
        have hb : badK k (min n 66) at_ = true := by
          cases hb : badK k (min n 66) at_ <;> simp_all
        exact ret_bool (by rw [hb]; rfl)
    )
  · first
    | (exfalso; simp_all; done)
    | (
        refine AW_skip ?_
        refine AW_seq ?_
        refine AW_seq ?_
        refine AW_all good tabZ tabZ_ok rfl rfl ?_ ?_
        · repeat' (first | exact trivial | exact rfl | exact (fun _ _ => rfl) | apply And.intro | intro _)
          all_goals (first | omega | (rename_i hg; exact hg) | (change (_ : Bool) = true; simp_all; done) | (simp_all; done) | (show (0 + min n 66) * 8 ≤ 140737488355328; omega) | (simp only [maxLen]; omega))
        refine AW_cond rfl (fun h2 => ?_) (fun h2 => ?_)
        · first
          | (exfalso; simp_all; done)
          | (
              refine AW_seq ?_
              refine AW_all good tabZ tabZ_ok rfl rfl ?_ ?_
              · repeat' (first | exact trivial | exact rfl | exact (fun _ _ => rfl) | apply And.intro | intro _)
                all_goals (first | omega | (rename_i hg; exact hg) | (change (_ : Bool) = true; simp_all; done) | (simp_all; done) | (show (0 + min n 66) * 8 ≤ 140737488355328; omega) | (simp only [maxLen]; omega))
              refine AW_ret (bodyQ_ret rfl ?_ (Ends.intro rfl ?_ ?_))
              · repeat' (first | exact trivial | exact rfl | exact (fun _ _ => rfl) | apply And.intro | intro _)
                all_goals (first | omega | (rename_i hg; exact hg) | (change (_ : Bool) = true; simp_all; done) | (simp_all; done) | (show (0 + min n 66) * 8 ≤ 140737488355328; omega) | (simp only [maxLen]; omega))
              · repeat' (first | exact trivial | exact rfl | exact (fun _ _ => rfl) | apply And.intro | intro _)
                all_goals (first | omega | (rename_i hg; exact hg) | (change (_ : Bool) = true; simp_all; done) | (simp_all; done) | (show (0 + min n 66) * 8 ≤ 140737488355328; omega) | (simp only [maxLen]; omega))
              exfalso
              have hb : badK k (min n 66) at_ = false := by
                cases hb : badK k (min n 66) at_ <;> simp_all
              rw [hb] at h2
              simp [sameW, wordsAt, ivInt, blt0] at h2
          )
        · first
          | (exfalso; simp_all; done)
          | (
              refine AW_skip ?_
              refine AW_seq ?_
              refine AW_seq ?_
              refine AW_all good tabZ tabZ_ok rfl rfl ?_ ?_
              · repeat' (first | exact trivial | exact rfl | exact (fun _ _ => rfl) | apply And.intro | intro _)
                all_goals (first | omega | (rename_i hg; exact hg) | (change (_ : Bool) = true; simp_all; done) | (simp_all; done) | (show (0 + min n 66) * 8 ≤ 140737488355328; omega) | (simp only [maxLen]; omega))
              refine AW_block ?_
              have hb : badK k (min n 66) at_ = false := by
                cases hb : badK k (min n 66) at_ <;> simp_all
              refine AW_loopL (fun j : { i : Nat // i ≤ min n 66 } => [(0, .cv (.one (uS (min n 66) false m))), (3, .cv (.one (vpl (stepL k at_ x y)))), (6, .cv (.one (uS (bif badK k (min n 66) at_ then 0 else min n 66) false (putW m at_ (newW k x y (m at_.toNat)))))), (50, .cv (iint (min n 66 : Nat))), (51, .cv (iint j.1))]) (fun j => min n 66 - j.1) ⟨0, Nat.zero_le _⟩ ?_ ?_
              · exact ⟨rfl, rfl, rfl, rfl, rfl, trivial⟩
              rintro ⟨i, hi⟩
              refine AW_seq ?_
              refine AW_all good tabZ tabZ_ok rfl rfl ?_ ?_
              · repeat' (first | exact trivial | exact rfl | exact (fun _ _ => rfl) | apply And.intro | intro _)
                all_goals (first | omega | (rename_i hg; exact hg) | (change (_ : Bool) = true; simp_all; done) | (simp_all; done) | (show (0 + min n 66) * 8 ≤ 140737488355328; omega) | (simp only [maxLen]; omega))
              refine AW_seq ?_
              refine AW_cond rfl (fun h3 => ?_) (fun h3 => ?_)
              · first
                | (exfalso; simp_all; done)
                | (
                    refine AW_skip ?_
                    refine AW_seq ?_
                    refine AW_block ?_
                    refine AW_seq ?_
                    refine AW_all good tabZ tabZ_ok rfl rfl ?_ ?_
                    · repeat' (first | exact trivial | exact rfl | exact (fun _ _ => rfl) | apply And.intro | intro _)
                      all_goals (first | omega | (rename_i hg; exact hg) | (change (_ : Bool) = true; simp_all; done) | (simp_all; done) | (show (0 + min n 66) * 8 ≤ 140737488355328; omega) | (simp only [maxLen]; omega))
                    refine AW_seq ?_
                    refine AW_drw good rfl tabZ tabZ_ok rfl rfl rfl ?_ ?_
                    · repeat' (first | exact trivial | exact rfl | exact (fun _ _ => rfl) | apply And.intro | intro _)
                      all_goals (first | omega | (rename_i hg; exact hg) | (change (_ : Bool) = true; simp_all; done) | (simp_all; done) | (show (0 + min n 66) * 8 ≤ 140737488355328; omega) | (simp only [maxLen]; omega))
                    refine AW_cond rfl (fun h4 => ?_) (fun h4 => ?_)
                    · first
                      | (exfalso; simp_all; done)
                      | (
                          refine AW_seq ?_
                          refine AW_all good tabZ tabZ_ok rfl rfl ?_ ?_
                          · repeat' (first | exact trivial | exact rfl | exact (fun _ _ => rfl) | apply And.intro | intro _)
                            all_goals (first | omega | (rename_i hg; exact hg) | (change (_ : Bool) = true; simp_all; done) | (simp_all; done) | (show (0 + min n 66) * 8 ≤ 140737488355328; omega) | (simp only [maxLen]; omega))
                          refine AW_ret (bodyQ_ret rfl ?_ (Ends.intro rfl ?_ ?_))
                          · repeat' (first | exact trivial | exact rfl | exact (fun _ _ => rfl) | apply And.intro | intro _)
                            all_goals (first | omega | (rename_i hg; exact hg) | (change (_ : Bool) = true; simp_all; done) | (simp_all; done) | (show (0 + min n 66) * 8 ≤ 140737488355328; omega) | (simp only [maxLen]; omega))
                          · repeat' (first | exact trivial | exact rfl | exact (fun _ _ => rfl) | apply And.intro | intro _)
                            all_goals (first | omega | (rename_i hg; exact hg) | (change (_ : Bool) = true; simp_all; done) | (simp_all; done) | (show (0 + min n 66) * 8 ≤ 140737488355328; omega) | (simp only [maxLen]; omega))
                          exfalso
                          have h5 : putW m at_ (newW k x y (m at_.toNat)) i ≠ m i ∧ (i : Int) ≠ at_ := by
                            cases h6 : ((i : Int) != at_) <;> simp_all
                          refine h5.1 ?_
                          unfold putW
                          have h7 : Nat.beq i at_.toNat = false := by
                            cases h8 : Nat.beq i at_.toNat with
                            | false => rfl
                            | true =>
                              exfalso
                              have := Nat.eq_of_beq_eq_true h8
                              simp only [badK, badAt, Bool.or_eq_false_iff, Bool.not_eq_false', decide_eq_false_iff_not] at hb
                              omega
                          rw [h7]
                          rfl
                      )
                    · first
                      | (exfalso; simp_all; done)
                      | (
                          refine AW_skip ?_
                          refine AW_all good tabZ tabZ_ok rfl rfl ?_ ?_
                          · repeat' (first | exact trivial | exact rfl | exact (fun _ _ => rfl) | apply And.intro | intro _)
                            all_goals (first | omega | (rename_i hg; exact hg) | (change (_ : Bool) = true; simp_all; done) | (simp_all; done) | (show (0 + min n 66) * 8 ≤ 140737488355328; omega) | (simp only [maxLen]; omega))
                          have hlt : i < min n 66 := by simpa using h3
                          refine loop_next ⟨i + 1, hlt⟩ ⟨rfl, rfl, rfl, rfl, ?_, trivial⟩ ?_
                          · exact congrArg (fun z => SV.cv (iint z)) (next_int i (min n 66) hlt (by simp only [maxLen]; omega))
                          · show min n 66 - (i + 1) < min n 66 - i
                            omega
                      )
                )
              · first
                | (exfalso; simp_all; done)
                | (
                    refine AW_exit ?_
                    refine AW_seq ?_
                    refine AW_all good tabZ tabZ_ok rfl rfl ?_ ?_
                    · repeat' (first | exact trivial | exact rfl | exact (fun _ _ => rfl) | apply And.intro | intro _)
                      all_goals (first | omega | (rename_i hg; exact hg) | (change (_ : Bool) = true; simp_all; done) | (simp_all; done) | (show (0 + min n 66) * 8 ≤ 140737488355328; omega) | (simp only [maxLen]; omega))
                    refine AW_seq ?_
                    refine AW_all good tabZ tabZ_ok rfl rfl ?_ ?_
                    · repeat' (first | exact trivial | exact rfl | exact (fun _ _ => rfl) | apply And.intro | intro _)
                      all_goals (first | omega | (rename_i hg; exact hg) | (change (_ : Bool) = true; simp_all; done) | (simp_all; done) | (show (0 + min n 66) * 8 ≤ 140737488355328; omega) | (simp only [maxLen]; omega))
                    refine AW_seq ?_
                    refine AW_all good tabZ tabZ_ok rfl rfl ?_ ?_
                    · repeat' (first | exact trivial | exact rfl | exact (fun _ _ => rfl) | apply And.intro | intro _)
                      all_goals (first | omega | (rename_i hg; exact hg) | (change (_ : Bool) = true; simp_all; done) | (simp_all; done) | (show (0 + min n 66) * 8 ≤ 140737488355328; omega) | (simp only [maxLen]; omega))
                    refine AW_ret (bodyQ_ret rfl ?_ (Ends.intro rfl ?_ ?_))
                    · repeat' (first | exact trivial | exact rfl | exact (fun _ _ => rfl) | apply And.intro | intro _)
                      all_goals (first | omega | (rename_i hg; exact hg) | (change (_ : Bool) = true; simp_all; done) | (simp_all; done) | (show (0 + min n 66) * 8 ≤ 140737488355328; omega) | (simp only [maxLen]; omega))
                    · repeat' (first | exact trivial | exact rfl | exact (fun _ _ => rfl) | apply And.intro | intro _)
                      all_goals (first | omega | (rename_i hg; exact hg) | (change (_ : Bool) = true; simp_all; done) | (simp_all; done) | (show (0 + min n 66) * 8 ≤ 140737488355328; omega) | (simp only [maxLen]; omega))
                    have hA : badAt (min n 66) at_ = false := by
                      simp only [badK, Bool.or_eq_false_iff] at hb
                      exact hb.2
                    refine ret_bool ?_
                    simp only [wordsAt_eq, hb, hA, cond_false, putW_at]
                    simp
                )
          )
    )
end Go.Proofs.Ytndfcbcmeeemfaa.Abs

/-
  THE LAW WordCas as a contract.
-/
namespace Go.Proofs.Ytndfcbcmeeemfaa.Abs
open Go
set_option maxRecDepth 10000

/-- Sums of words. -/
def sumW (g : Nat → Int) : Nat → Int
  | 0 => 0
  | j + 1 => IntKind.u64.wrap (sumW g j + g j)
def sumI (g : Nat → Int) : Nat → Int
  | 0 => 0
  | j + 1 => sumI g j + g j
theorem sumW_eq (g : Nat → Int) (j : Nat) : sumW g j = sumI g j % 18446744073709551616 := by
  induction j with
  | zero => rfl
  | succ j ih => simp only [sumW, sumI, IntKind.wrap_u64, ih]; omega
def turned (g : Nat → Int) (n off : Nat) (j : Nat) : Int := g ((j + off) % n)
theorem sumI_turned (g : Nat → Int) (n off : Nat) (h : off < n) : ∀ k, k ≤ n → sumI (turned g n off) k = bif Nat.ble k (n - off) then sumI g (off + k) - sumI g off else sumI g n - sumI g off + sumI g (k - (n - off))
  | 0, _ => by simp [sumI, Nat.ble_eq_true_of_le (Nat.zero_le (n - off))]
  | k + 1, hk => by
    have ih := sumI_turned g n off h k (by omega)
    simp only [sumI, turned]
    rcases Nat.lt_or_ge k (n - off) with h1 | h1
    · have e1 : Nat.ble k (n - off) = true := Nat.ble_eq_true_of_le (by omega)
      have e2 : Nat.ble (k + 1) (n - off) = true := Nat.ble_eq_true_of_le (by omega)
      have e3 : (k + off) % n = off + k := by rw [Nat.mod_eq_of_lt (by omega)]; omega
      rw [ih, e1, e2, e3]
      simp only [cond_true]
      show sumI g (off + k) - sumI g off + g (off + k) = sumI g (off + k) + g (off + k) - sumI g off
      omega
    · have e2 : Nat.ble (k + 1) (n - off) = false := by
        cases h2 : Nat.ble (k + 1) (n - off) with
        | false => rfl
        | true => have := Nat.le_of_ble_eq_true h2; omega
      have e3 : (k + off) % n = k - (n - off) := by
        have : k + off = (k - (n - off)) + n := by omega
        rw [this, Nat.add_mod_right, Nat.mod_eq_of_lt (by omega)]
      have e4 : k + 1 - (n - off) = (k - (n - off)) + 1 := by omega
      rw [ih, e2, e3, e4]
      simp only [cond_false, sumI]
      rcases Nat.lt_or_ge (n - off) k with h3 | h3
      · have e1 : Nat.ble k (n - off) = false := by
          cases h2 : Nat.ble k (n - off) with
          | false => rfl
          | true => have := Nat.le_of_ble_eq_true h2; omega
        rw [e1]
        simp only [cond_false]
        omega
      · have e1 : Nat.ble k (n - off) = true := Nat.ble_eq_true_of_le h3
        have e5 : k = n - off := by omega
        rw [e1]
        simp only [cond_true]
        have e6 : off + k = n := by omega
        have e7 : k - (n - off) = 0 := by omega
        rw [e6, e7]
        simp only [sumI]
        omega
theorem sumW_turned (g : Nat → Int) (n off : Nat) (h : off < n) : sumW (turned g n off) n = sumW g n := by
  rw [sumW_eq, sumW_eq, sumI_turned g n off h n (Nat.le_refl _)]
  cases h1 : Nat.ble n (n - off) with
  | true =>
    have := Nat.le_of_ble_eq_true h1
    have e : off = 0 := by omega
    subst e
    simp [sumI]
  | false =>
    simp only [cond_false]
    have : n - (n - off) = off := by omega
    rw [this]
    congr 1
    omega

def offW (b : Int) (n : Nat) : Nat := (Int.tmod (Int.tmod b n + n) n).toNat

theorem offI (b : Int) (n : Nat) (h0 : 0 < n) (h1 : n ≤ 20) : IntKind.i64.wrap (Int.tmod b n + n) = Int.tmod b n + n ∧ 0 < Int.tmod b n + n ∧ Int.tmod (Int.tmod b n + n) n = offW b n ∧ offW b n < n := by
  have h2 := Int.tmod_lt_of_pos b (b := (n : Int)) (by omega)
  have h3 : -(n : Int) < Int.tmod b n := Int.lt_tmod_of_pos b (by omega)
  have h4 : 0 ≤ Int.tmod (Int.tmod b n + n) n := Int.tmod_nonneg _ (by omega)
  have h5 := Int.tmod_lt_of_pos (Int.tmod b n + n) (b := (n : Int)) (by omega)
  refine ⟨?_, by omega, ?_, ?_⟩
  · rw [IntKind.wrap_i64]; omega
  · unfold offW; omega
  · unfold offW; omega
theorem offW_lt (b : Int) (n : Nat) (h0 : 0 < n) (h1 : n ≤ 20) : offW b n < n := (offI b n h0 h1).2.2.2
theorem kW (b : Int) (n i : Nat) (h0 : i < n) (h1 : n ≤ 20) : Int.tmod (IntKind.i64.wrap (i + Int.tmod (IntKind.i64.wrap (Int.tmod b n + n)) n)) n = ((i + offW b n) % n : Nat) := by
  obtain ⟨h2, h3, h4, h5⟩ := offI b n (by omega) h1
  rw [h2, h4]
  have : IntKind.i64.wrap (i + offW b n) = ((i + offW b n : Nat) : Int) := by rw [IntKind.wrap_i64]; omega
  rw [this]
  rfl

structure CasS where
  i : Nat
  done : Int
  first : Int
  m : Nat → Int
def CasI (old : Int) (n : Nat) : Type := { j : CasS // j.i ≤ n ∧ j.m 1 = 0 ∧ (j.done = 0 ∧ j.m 0 = old ∨ j.done = 1 ∧ j.m 0 = j.first ∧ j.m 0 ≠ old) }

theorem cas3 (old : Int) (n : Nat) (ex : Bool) (news : Nat → Int) (by_ : Int) : PCall Try.prog 3 [iu old, .one (uS n ex news), iint by_] (.cv (ibool true)) := by
  refine PCall_of (ACall_body good Try.func3 rfl 131 rfl (by simp) ?_)
  refine AW_seq ?_
  refine AW_all good tabZ tabZ_ok rfl rfl ?_ ?_
  · repeat' (first | exact trivial | exact rfl | exact (fun _ _ => rfl) | apply And.intro | intro _)
    all_goals (first | omega | (rename_i hg; exact hg) | (rename_i hg; change (_ : Bool) = true; rw [hg]; rfl) | (change (_ : Bool) = true; simp_all; done) | (simp_all; done))
  refine AW_seq ?_
  refine AW_all good tabZ tabZ_ok rfl rfl ?_ ?_
  · repeat' (first | exact trivial | exact rfl | exact (fun _ _ => rfl) | apply And.intro | intro _)
    all_goals (first | omega | (rename_i hg; exact hg) | (rename_i hg; change (_ : Bool) = true; rw [hg]; rfl) | (change (_ : Bool) = true; simp_all; done) | (simp_all; done))
  refine AW_seq ?_
  refine AW_slot 1 (y := .cv (.one (uS (min n 20) false news))) rfl (SLe.cv (CLe.imm (ILe.sl ?_ (by simp) (.inr ⟨rfl, fun i j hi hj => ILe.of_eq ?_⟩)))) ?_
  · split <;> omega
  · show IV.val (.int .u64 (news (0 + i))) = IV.val (.int .u64 (news i))
    rw [Nat.zero_add]
  refine AW_eff good tabZ tabZ_ok et0 (et0_ok _) [1] rfl rfl ?_ ?_
  · repeat' (first | exact trivial | exact rfl | exact (fun _ _ => rfl) | apply And.intro | intro _)
    all_goals (first | omega | (rename_i hg; exact hg) | (rename_i hg; change (_ : Bool) = true; rw [hg]; rfl) | (change (_ : Bool) = true; simp_all; done) | (simp_all; done))
  refine AW_seq ?_
  refine AW_slot 7 (y := .cv (.one (uS 2 false fun i => bif Nat.beq i 0 then old else 0))) rfl (SLe.cv (CLe.imm (ILe.sl rfl (by simp) (.inr ⟨rfl, fun i j hi hj => ILe.of_eq ?_⟩)))) ?_
  · obtain rfl : j = 0 := by
      have : j < 1 := hj
      omega
    match i, hi with
    | 0, _ => rfl
    | 1, _ => rfl
  refine AW_all good tabZ tabZ_ok rfl rfl ?_ ?_
  · repeat' (first | exact trivial | exact rfl | exact (fun _ _ => rfl) | apply And.intro | intro _)
    all_goals (first | omega | (rename_i hg; exact hg) | (rename_i hg; change (_ : Bool) = true; rw [hg]; rfl) | (change (_ : Bool) = true; simp_all; done) | (simp_all; done))
  refine AW_seq ?_
  refine AW_all good tabZ tabZ_ok rfl rfl ?_ ?_
  · repeat' (first | exact trivial | exact rfl | exact (fun _ _ => rfl) | apply And.intro | intro _)
    all_goals (first | omega | (rename_i hg; exact hg) | (rename_i hg; change (_ : Bool) = true; rw [hg]; rfl) | (change (_ : Bool) = true; simp_all; done) | (simp_all; done))
  refine AW_seq ?_
  refine AW_seq ?_
  refine AW_all good tabZ tabZ_ok rfl rfl ?_ ?_
  · repeat' (first | exact trivial | exact rfl | exact (fun _ _ => rfl) | apply And.intro | intro _)
    all_goals (first | omega | (rename_i hg; exact hg) | (rename_i hg; change (_ : Bool) = true; rw [hg]; rfl) | (change (_ : Bool) = true; simp_all; done) | (simp_all; done))
  refine AW_block ?_
  refine AW_loopH 0 (fun j : CasI old (min n 20) => [(0, .cv (iu old)), (1, .cv (.one (uS (min n 20) false news))), (2, .cv (iint by_)), (7, .cv (.one (uS 2 false j.1.m))), (8, .cv (iint j.1.done)), (9, .cv (iu j.1.first)), (28, .cv (.one (uS (min n 20) false news))), (29, .cv (iint (min n 20 : Nat))), (30, .cv (iint j.1.i))]) (fun _ => []) (fun j => min n 20 - j.1.i) ⟨⟨0, 0, 0, fun i => bif Nat.beq i 0 then old else 0⟩, Nat.zero_le _, rfl, .inl ⟨rfl, rfl⟩⟩ [] rfl rfl ?_ trivial ?_
  · refine ⟨SLe.of_eq rfl, SLe.of_eq rfl, SLe.of_eq rfl, SLe.of_eq rfl, SLe.of_eq rfl, SLe.of_eq rfl, SLe.of_eq rfl, SLe.of_eq rfl, SLe.of_eq rfl, trivial⟩
  rintro ⟨⟨i, done, first, m⟩, hi, h1m, hd⟩
  try simp only at hi h1m hd
  refine AW_seq ?_
  refine AW_all good tabZ tabZ_ok rfl rfl ?_ ?_
  · repeat' (first | exact trivial | exact rfl | exact (fun _ _ => rfl) | apply And.intro | intro _)
    all_goals (first | omega | (rename_i hg; exact hg) | (rename_i hg; change (_ : Bool) = true; rw [hg]; rfl) | (change (_ : Bool) = true; simp_all; done) | (simp_all; done))
  refine AW_seq ?_
  refine AW_cond rfl (fun h1 => ?_) (fun h1 => ?_)
  · first
    | (exfalso; simp_all; done)
    | (
        refine AW_skip ?_
        refine AW_seq ?_
        refine AW_block ?_
        refine AW_seq ?_
        refine AW_all good tabZ tabZ_ok rfl rfl ?_ ?_
        · repeat' (first | exact trivial | exact rfl | exact (fun _ _ => rfl) | apply And.intro | intro _)
          all_goals (first | omega | (rename_i hg; exact hg) | (rename_i hg; change (_ : Bool) = true; rw [hg]; rfl) | (change (_ : Bool) = true; simp_all; done) | (simp_all; done))
        refine AW_seq ?_
        refine AW_seq ?_
        refine AW_all good tabZ tabZ_ok rfl rfl ?_ ?_
        · repeat' (first | exact trivial | exact rfl | exact (fun _ _ => rfl) | apply And.intro | intro _)
          all_goals (first | omega | (rename_i hg; exact hg) | (rename_i hg; change (_ : Bool) = true; rw [hg]; rfl) | (change (_ : Bool) = true; simp_all; done) | (simp_all; done))
        refine AW_cond rfl (fun h2 => ?_) (fun h2 => ?_)
        · first
          | (exfalso; simp_all; done)
          | (
              refine AW_exit ?_
              refine AW_all good tabZ tabZ_ok rfl rfl ?_ ?_
              · repeat' (first | exact trivial | exact rfl | exact (fun _ _ => rfl) | apply And.intro | intro _)
                all_goals (first | omega | (rename_i hg; exact hg) | (rename_i hg; change (_ : Bool) = true; rw [hg]; rfl) | (change (_ : Bool) = true; simp_all; done) | (simp_all; done))
              have hlt : i < min n 20 := by simpa using h1
              have hv : news i = old := by simpa using h2
              refine loopH_next ⟨⟨i + 1, done, first, m⟩, hlt, h1m, hd⟩ [] rfl rfl ⟨SLe.of_eq rfl, SLe.of_eq rfl, SLe.of_eq rfl, SLe.of_eq rfl, SLe.of_eq rfl, SLe.of_eq rfl, SLe.of_eq rfl, SLe.of_eq rfl, SLe.of_eq (congrArg (fun z => SV.cv (iint z)) (next_int i (min n 20) hlt (by simp only [maxLen]; omega))), trivial⟩ trivial ?_
              show min n 20 - (i + 1) < min n 20 - i
              omega
          )
        · first
          | (exfalso; simp_all; done)
          | (
              refine AW_skip ?_
              refine AW_seq ?_
              refine AW_all good tabZ tabZ_ok rfl rfl ?_ ?_
              · repeat' (first | exact trivial | exact rfl | exact (fun _ _ => rfl) | apply And.intro | intro _)
                all_goals (first | omega | (rename_i hg; exact hg) | (rename_i hg; change (_ : Bool) = true; rw [hg]; rfl) | (change (_ : Bool) = true; simp_all; done) | (simp_all; done))
              refine AW_seq ?_
              refine AW_seq ?_
              refine AW_all good tabZ tabZ_ok rfl rfl ?_ ?_
              · repeat' (first | exact trivial | exact rfl | exact (fun _ _ => rfl) | apply And.intro | intro _)
                all_goals (first | omega | (rename_i hg; exact hg) | (rename_i hg; change (_ : Bool) = true; rw [hg]; rfl) | (change (_ : Bool) = true; simp_all; done) | (simp_all; done))
              refine AW_cond rfl (fun h3 => ?_) (fun h3 => ?_)
              · first
                | (exfalso; simp_all; done)
                | (
                    refine AW_seq ?_
                    refine AW_all good tabZ tabZ_ok rfl rfl ?_ ?_
                    · repeat' (first | exact trivial | exact rfl | exact (fun _ _ => rfl) | apply And.intro | intro _)
                      all_goals (first | omega | (rename_i hg; exact hg) | (rename_i hg; change (_ : Bool) = true; rw [hg]; rfl) | (change (_ : Bool) = true; simp_all; done) | (simp_all; done))
                    refine AW_ret (bodyQ_ret rfl ?_ (Ends.intro rfl ?_ ?_))
                    · repeat' (first | exact trivial | exact rfl | exact (fun _ _ => rfl) | apply And.intro | intro _)
                      all_goals (first | omega | (rename_i hg; exact hg) | (rename_i hg; change (_ : Bool) = true; rw [hg]; rfl) | (change (_ : Bool) = true; simp_all; done) | (simp_all; done))
                    · repeat' (first | exact trivial | exact rfl | exact (fun _ _ => rfl) | apply And.intro | intro _)
                      all_goals (first | omega | (rename_i hg; exact hg) | (rename_i hg; change (_ : Bool) = true; rw [hg]; rfl) | (change (_ : Bool) = true; simp_all; done) | (simp_all; done))
                    exact absurd h3 (by decide)
                )
              · first
                | (exfalso; simp_all; done)
                | (
                    refine AW_skip ?_
                    refine AW_seq ?_
                    refine AW_all good tabZ tabZ_ok rfl rfl ?_ ?_
                    · repeat' (first | exact trivial | exact rfl | exact (fun _ _ => rfl) | apply And.intro | intro _)
                      all_goals (first | omega | (rename_i hg; exact hg) | (rename_i hg; change (_ : Bool) = true; rw [hg]; rfl) | (change (_ : Bool) = true; simp_all; done) | (simp_all; done))
                    refine AW_seq ?_
                    refine AW_all good tabZ tabZ_ok rfl rfl ?_ ?_
                    · repeat' (first | exact trivial | exact rfl | exact (fun _ _ => rfl) | apply And.intro | intro _)
                      all_goals (first | omega | (rename_i hg; exact hg) | (rename_i hg; change (_ : Bool) = true; rw [hg]; rfl) | (change (_ : Bool) = true; simp_all; done) | (simp_all; done))
                    refine AW_cond rfl (fun h4 => ?_) (fun h4 => ?_)
                    · first
                      | (exfalso; simp_all; done)
                      | (
                          refine AW_seq ?_
                          refine AW_all good tabZ tabZ_ok rfl rfl ?_ ?_
                          · repeat' (first | exact trivial | exact rfl | exact (fun _ _ => rfl) | apply And.intro | intro _)
                            all_goals (first | omega | (rename_i hg; exact hg) | (rename_i hg; change (_ : Bool) = true; rw [hg]; rfl) | (change (_ : Bool) = true; simp_all; done) | (simp_all; done))
                          refine AW_all good tabZ tabZ_ok rfl rfl ?_ ?_
                          · repeat' (first | exact trivial | exact rfl | exact (fun _ _ => rfl) | apply And.intro | intro _)
                            all_goals (first | omega | (rename_i hg; exact hg) | (rename_i hg; change (_ : Bool) = true; rw [hg]; rfl) | (change (_ : Bool) = true; simp_all; done) | (simp_all; done))
                          refine AW_all good tabZ tabZ_ok rfl rfl ?_ ?_
                          · repeat' (first | exact trivial | exact rfl | exact (fun _ _ => rfl) | apply And.intro | intro _)
                            all_goals (first | omega | (rename_i hg; exact hg) | (rename_i hg; change (_ : Bool) = true; rw [hg]; rfl) | (change (_ : Bool) = true; simp_all; done) | (simp_all; done))
                          have hlt : i < min n 20 := by simpa using h1
                          have hv : news i ≠ old := by simpa using h2
                          have hm0 : m 0 = old := by
                            have h := h4
                            cases hc : m 0 == old with
                            | true => simpa using hc
                            | false =>
                              exfalso
                              change ((casG old (news i) (m 0)).2 == 1) = true at h
                              simp [casG, hc] at h
                          have hd0 : done = 0 := by
                            rcases hd with h | h
                            · exact h.1
                            · exact absurd hm0 h.2.2
                          subst hd0
                          have hp : putW m 0 (casG old (news i) (m 0)).1 0 = news i := by
                            have h : (casG old (news i) (m 0)).1 = news i := by simp [casG, hm0]
                            rw [h]
                            rfl
                          refine loopH_next ⟨⟨i + 1, 1, news i, putW m 0 (casG old (news i) (m 0)).1⟩, hlt, h1m, .inr ⟨rfl, hp, fun h => hv (hp.symm.trans h)⟩⟩ [] rfl rfl ⟨SLe.of_eq rfl, SLe.of_eq rfl, SLe.of_eq rfl, SLe.of_eq rfl, SLe.of_eq rfl, SLe.of_eq rfl, SLe.of_eq rfl, SLe.of_eq rfl, SLe.of_eq (congrArg (fun z => SV.cv (iint z)) (next_int i (min n 20) hlt (by simp only [maxLen]; omega))), trivial⟩ trivial ?_
                          show min n 20 - (i + 1) < min n 20 - i
                          omega
                      )
                    · first
                      | (exfalso; simp_all; done)
                      | (
                          refine AW_skip ?_
                          refine AW_all good tabZ tabZ_ok rfl rfl ?_ ?_
                          · repeat' (first | exact trivial | exact rfl | exact (fun _ _ => rfl) | apply And.intro | intro _)
                            all_goals (first | omega | (rename_i hg; exact hg) | (rename_i hg; change (_ : Bool) = true; rw [hg]; rfl) | (change (_ : Bool) = true; simp_all; done) | (simp_all; done))
                          have hlt : i < min n 20 := by simpa using h1
                          have hm0 : m 0 ≠ old := by
                            have h := h4
                            intro hc
                            change ((casG old (news i) (m 0)).2 == 1) = false at h
                            simp [casG, hc] at h
                          have hp : putW m 0 (casG old (news i) (m 0)).1 0 = m 0 := by
                            have hb : (m 0 == old) = false := by simpa using hm0
                            have h : (casG old (news i) (m 0)).1 = m 0 := by simp [casG, hb]
                            rw [h]
                            rfl
                          have hd' : done = 0 ∧ putW m 0 (casG old (news i) (m 0)).1 0 = old ∨ done = 1 ∧ putW m 0 (casG old (news i) (m 0)).1 0 = first ∧ putW m 0 (casG old (news i) (m 0)).1 0 ≠ old := by rw [hp]; exact hd
                          refine loopH_next ⟨⟨i + 1, done, first, putW m 0 (casG old (news i) (m 0)).1⟩, hlt, h1m, hd'⟩ [] rfl rfl ⟨SLe.of_eq rfl, SLe.of_eq rfl, SLe.of_eq rfl, SLe.of_eq rfl, SLe.of_eq rfl, SLe.of_eq rfl, SLe.of_eq rfl, SLe.of_eq rfl, SLe.of_eq (congrArg (fun z => SV.cv (iint z)) (next_int i (min n 20) hlt (by simp only [maxLen]; omega))), trivial⟩ trivial ?_
                          show min n 20 - (i + 1) < min n 20 - i
                          omega
                      )
                )
          )
    )
  · first
    | (exfalso; simp_all; done)
    | (
        refine AW_exit ?_
        refine AW_seq ?_
        refine AW_all good tabZ tabZ_ok rfl rfl ?_ ?_
        · repeat' (first | exact trivial | exact rfl | exact (fun _ _ => rfl) | apply And.intro | intro _)
          all_goals (first | omega | (rename_i hg; exact hg) | (rename_i hg; change (_ : Bool) = true; rw [hg]; rfl) | (change (_ : Bool) = true; simp_all; done) | (simp_all; done))
        refine AW_seq ?_
        refine AW_seq ?_
        refine AW_all good tabZ tabZ_ok rfl rfl ?_ ?_
        · repeat' (first | exact trivial | exact rfl | exact (fun _ _ => rfl) | apply And.intro | intro _)
          all_goals (first | omega | (rename_i hg; exact hg) | (rename_i hg; change (_ : Bool) = true; rw [hg]; rfl) | (change (_ : Bool) = true; simp_all; done) | (simp_all; done))
        refine AW_block ?_
        refine AW_loopH 0 (fun j : { j : Nat × (Nat → Int) // j.1 ≤ min n 20 ∧ j.2 0 = m 0 ∧ j.2 1 = sumW (turned news (min n 20) (offW by_ (min n 20))) j.1 } => [(0, .cv (iu old)), (1, .cv (.one (uS (min n 20) false news))), (2, .cv (iint by_)), (7, .cv (.one (uS 2 false j.1.2))), (8, .cv (iint done)), (9, .cv (iu first)), (15, .cv (iu (sumW news j.1.1))), (53, .cv (.one (uS (min n 20) false news))), (54, .cv (iint (min n 20 : Nat))), (55, .cv (iint j.1.1))]) (fun _ => []) (fun j => min n 20 - j.1.1) ⟨⟨0, m⟩, Nat.zero_le _, rfl, h1m⟩ [] rfl rfl ?_ trivial ?_
        · exact ⟨SLe.of_eq rfl, SLe.of_eq rfl, SLe.of_eq rfl, SLe.of_eq rfl, SLe.of_eq rfl, SLe.of_eq rfl, SLe.of_eq rfl, SLe.of_eq rfl, SLe.of_eq rfl, SLe.of_eq rfl, trivial⟩
        clear h1 hi h1m
        rintro ⟨⟨i, m2⟩, hi, h2m, h2s⟩
        try simp only at hi h2m h2s
        refine AW_seq ?_
        refine AW_all good tabZ tabZ_ok rfl rfl ?_ ?_
        · repeat' (first | exact trivial | exact rfl | exact (fun _ _ => rfl) | apply And.intro | intro _)
          all_goals (first | omega | (rename_i hg; exact hg) | (rename_i hg; change (_ : Bool) = true; rw [hg]; rfl) | (change (_ : Bool) = true; simp_all; done) | (simp_all; done))
        refine AW_seq ?_
        refine AW_cond rfl (fun h5 => ?_) (fun h5 => ?_)
        · first
          | (exfalso; simp_all; done)
          | (
              refine AW_skip ?_
              refine AW_seq ?_
              refine AW_block ?_
              refine AW_seq ?_
              refine AW_all good tabZ tabZ_ok rfl rfl ?_ ?_
              · repeat' (first | exact trivial | exact rfl | exact (fun _ _ => rfl) | apply And.intro | intro _)
                all_goals (first | omega | (rename_i hg; exact hg) | (rename_i hg; change (_ : Bool) = true; rw [hg]; rfl) | (change (_ : Bool) = true; simp_all; done) | (simp_all; done))
              refine AW_seq ?_
              have hlt : i < min n 20 := by simpa using h5
              have hoff := offW_lt by_ (min n 20) (by omega) (by omega)
              have hmod : (i + offW by_ (min n 20)) % min n 20 < min n 20 := Nat.mod_lt _ (by omega)
              refine AW_all good tabZ tabZ_ok rfl rfl ?_ ?_
              · repeat' (first | exact trivial | exact rfl | exact (fun _ _ => rfl) | apply And.intro | intro _)
                all_goals (first | omega | (rename_i hg; exact hg) | (rename_i hg; change (_ : Bool) = true; rw [hg]; rfl) | (change (_ : Bool) = true; simp_all; done) | (simp_all; done))
              refine AW_seq ?_
              refine AW_slot 17 (y := .cv (iint ((i + offW by_ (min n 20)) % min n 20 : Nat))) rfl (SLe.of_eq (congrArg (fun z => SV.cv (iint z)) (kW by_ (min n 20) i hlt (by omega)))) ?_
              refine AW_all good tabZ tabZ_ok rfl rfl ?_ ?_
              · repeat' (first | exact trivial | exact rfl | exact (fun _ _ => rfl) | apply And.intro | intro _)
                all_goals (first | omega | (rename_i hg; exact hg) | (rename_i hg; change (_ : Bool) = true; rw [hg]; rfl) | (change (_ : Bool) = true; simp_all; done) | (simp_all; done))
              refine AW_seq ?_
              refine AW_seq ?_
              refine AW_all good tabZ tabZ_ok rfl rfl ?_ ?_
              · repeat' (first | exact trivial | exact rfl | exact (fun _ _ => rfl) | apply And.intro | intro _)
                all_goals (first | omega | (rename_i hg; exact hg) | (rename_i hg; change (_ : Bool) = true; rw [hg]; rfl) | (change (_ : Bool) = true; simp_all; done) | (simp_all; done))
              refine AW_cond rfl (fun h6 => ?_) (fun h6 => ?_)
              · first
                | (exfalso; simp_all; done)
                | (
                    refine AW_seq ?_
                    refine AW_all good tabZ tabZ_ok rfl rfl ?_ ?_
                    · repeat' (first | exact trivial | exact rfl | exact (fun _ _ => rfl) | apply And.intro | intro _)
                      all_goals (first | omega | (rename_i hg; exact hg) | (rename_i hg; change (_ : Bool) = true; rw [hg]; rfl) | (change (_ : Bool) = true; simp_all; done) | (simp_all; done))
                    refine AW_ret (bodyQ_ret rfl ?_ (Ends.intro rfl ?_ ?_))
                    · repeat' (first | exact trivial | exact rfl | exact (fun _ _ => rfl) | apply And.intro | intro _)
                      all_goals (first | omega | (rename_i hg; exact hg) | (rename_i hg; change (_ : Bool) = true; rw [hg]; rfl) | (change (_ : Bool) = true; simp_all; done) | (simp_all; done))
                    · repeat' (first | exact trivial | exact rfl | exact (fun _ _ => rfl) | apply And.intro | intro _)
                      all_goals (first | omega | (rename_i hg; exact hg) | (rename_i hg; change (_ : Bool) = true; rw [hg]; rfl) | (change (_ : Bool) = true; simp_all; done) | (simp_all; done))
                    exact absurd h6 (by decide)
                )
              · first
                | (exfalso; simp_all; done)
                | (
                    refine AW_skip ?_
                    refine AW_seq ?_
                    refine AW_all good tabZ tabZ_ok rfl rfl ?_ ?_
                    · repeat' (first | exact trivial | exact rfl | exact (fun _ _ => rfl) | apply And.intro | intro _)
                      all_goals (first | omega | (rename_i hg; exact hg) | (rename_i hg; change (_ : Bool) = true; rw [hg]; rfl) | (change (_ : Bool) = true; simp_all; done) | (simp_all; done))
                    refine AW_all good tabZ tabZ_ok rfl rfl ?_ ?_
                    · repeat' (first | exact trivial | exact rfl | exact (fun _ _ => rfl) | apply And.intro | intro _)
                      all_goals (first | omega | (rename_i hg; exact hg) | (rename_i hg; change (_ : Bool) = true; rw [hg]; rfl) | (change (_ : Bool) = true; simp_all; done) | (simp_all; done))
                    refine AW_all good tabZ tabZ_ok rfl rfl ?_ ?_
                    · repeat' (first | exact trivial | exact rfl | exact (fun _ _ => rfl) | apply And.intro | intro _)
                      all_goals (first | omega | (rename_i hg; exact hg) | (rename_i hg; change (_ : Bool) = true; rw [hg]; rfl) | (change (_ : Bool) = true; simp_all; done) | (simp_all; done))
                    refine loopH_next ⟨⟨i + 1, putW m2 1 (IntKind.u64.wrap (m2 1 + news ((i + offW by_ (min n 20)) % min n 20)))⟩, hlt, h2m, ?_⟩ [] rfl rfl ⟨SLe.of_eq rfl, SLe.of_eq rfl, SLe.of_eq rfl, SLe.of_eq rfl, SLe.of_eq rfl, SLe.of_eq rfl, SLe.of_eq rfl, SLe.of_eq rfl, SLe.of_eq rfl, SLe.of_eq (congrArg (fun z => SV.cv (iint z)) (next_int i (min n 20) hlt (by simp only [maxLen]; omega))), trivial⟩ trivial ?_
                    · show IntKind.u64.wrap (m2 1 + news ((i + offW by_ (min n 20)) % min n 20)) = IntKind.u64.wrap (sumW (turned news (min n 20) (offW by_ (min n 20))) i + news ((i + offW by_ (min n 20)) % min n 20))
                      rw [h2s]
                    show min n 20 - (i + 1) < min n 20 - i
                    omega
                )
          )
        · first
          | (exfalso; simp_all; done)
          | (
              refine AW_exit ?_
              refine AW_seq ?_
              refine AW_seq ?_
              refine AW_all good tabZ tabZ_ok rfl rfl ?_ ?_
              · repeat' (first | exact trivial | exact rfl | exact (fun _ _ => rfl) | apply And.intro | intro _)
                all_goals (first | omega | (rename_i hg; exact hg) | (rename_i hg; change (_ : Bool) = true; rw [hg]; rfl) | (change (_ : Bool) = true; simp_all; done) | (simp_all; done))
              refine AW_cond rfl (fun h7 => ?_) (fun h7 => ?_)
              · first
                | (exfalso; simp_all; done)
                | (
                    refine AW_seq ?_
                    refine AW_all good tabZ tabZ_ok rfl rfl ?_ ?_
                    · repeat' (first | exact trivial | exact rfl | exact (fun _ _ => rfl) | apply And.intro | intro _)
                      all_goals (first | omega | (rename_i hg; exact hg) | (rename_i hg; change (_ : Bool) = true; rw [hg]; rfl) | (change (_ : Bool) = true; simp_all; done) | (simp_all; done))
                    refine AW_ret (bodyQ_ret rfl ?_ (Ends.intro rfl ?_ ?_))
                    · repeat' (first | exact trivial | exact rfl | exact (fun _ _ => rfl) | apply And.intro | intro _)
                      all_goals (first | omega | (rename_i hg; exact hg) | (rename_i hg; change (_ : Bool) = true; rw [hg]; rfl) | (change (_ : Bool) = true; simp_all; done) | (simp_all; done))
                    · repeat' (first | exact trivial | exact rfl | exact (fun _ _ => rfl) | apply And.intro | intro _)
                      all_goals (first | omega | (rename_i hg; exact hg) | (rename_i hg; change (_ : Bool) = true; rw [hg]; rfl) | (change (_ : Bool) = true; simp_all; done) | (simp_all; done))
                    have hi2 : i = min n 20 := by
                      have : ¬ i < min n 20 := by simpa using h5
                      omega
                    have hs : m2 1 = sumW news i := by
                      rw [h2s]
                      rcases Nat.eq_zero_or_pos (min n 20) with h | h
                      · rw [hi2, h]; rfl
                      · rw [hi2]; exact sumW_turned _ _ _ (offW_lt by_ (min n 20) h (by omega))
                    exfalso
                    have h7' : (m2 1 != sumW news i) = false := by rw [hs]; simp
                    have h8 : decide (done > 1) = false := by
                      rcases hd with h | h <;> simp [h.1]
                    change (bif (bif (m2 1 != sumW news i) then true else decide (done > 1)) then true else false) = true at h7
                    rw [h7', h8] at h7
                    exact absurd h7 (by decide)
                )
              · first
                | (exfalso; simp_all; done)
                | (
                    refine AW_skip ?_
                    refine AW_seq ?_
                    refine AW_all good tabZ tabZ_ok rfl rfl ?_ ?_
                    · repeat' (first | exact trivial | exact rfl | exact (fun _ _ => rfl) | apply And.intro | intro _)
                      all_goals (first | omega | (rename_i hg; exact hg) | (rename_i hg; change (_ : Bool) = true; rw [hg]; rfl) | (change (_ : Bool) = true; simp_all; done) | (simp_all; done))
                    refine AW_ret (bodyQ_ret rfl ?_ (Ends.intro rfl ?_ ?_))
                    · repeat' (first | exact trivial | exact rfl | exact (fun _ _ => rfl) | apply And.intro | intro _)
                      all_goals (first | omega | (rename_i hg; exact hg) | (rename_i hg; change (_ : Bool) = true; rw [hg]; rfl) | (change (_ : Bool) = true; simp_all; done) | (simp_all; done))
                    · repeat' (first | exact trivial | exact rfl | exact (fun _ _ => rfl) | apply And.intro | intro _)
                      all_goals (first | omega | (rename_i hg; exact hg) | (rename_i hg; change (_ : Bool) = true; rw [hg]; rfl) | (change (_ : Bool) = true; simp_all; done) | (simp_all; done))
                    refine ret_bool ?_
                    change (bif (bif done == 1 then m2 0 == first else false) then true else (bif done == 0 then m2 0 == old else false)) = true
                    rw [h2m]
                    rcases hd with h | h
                    · simp [h.1, h.2]
                    · simp [h.1, h.2.1]
                )
          )
    )
end Go.Proofs.Ytndfcbcmeeemfaa.Abs
