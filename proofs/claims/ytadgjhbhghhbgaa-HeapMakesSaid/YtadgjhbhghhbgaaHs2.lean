/-
  THE LIBRARY's SORT AT NO ITEMS, AND AT ANY.
-/
import Derived.Test.YtadgjhbhghhbgaaHs1
namespace Go.Proofs.Ytadgjhbhghhbgaa.Abs
open Go
set_option maxRecDepth 10000

theorem insNil (ex : Bool) (c : Nat → Nat → IV) : PCall Try.prog 90 [.one (.imm (.sl 2 0 ex c)), iint 0, iint 0, .one (fnV 57 [])] (.tup []) := by
  refine PCall_of (ACall_body good Try.func90 rfl 53 rfl (by simp) ?_)
  refine AW_seq ?_
  refine AW_all good tab0 (tab0_ok _) rfl rfl ?_ ?_
  · repeat' (first | exact trivial | exact rfl | exact (fun _ _ => rfl) | refine And.intro ?_ ?_ | intro _)
    all_goals (first | omega | (unfold maxLen; omega) | exact bytes_ok (by omega) (by decide) | exact bytes_okI (by omega) (by omega) (by decide) | exact of_decide_eq_true (by assumption) | decide | exact slOk_lit | exact slOk_f | exact slOk_nil | assumption | exact .inl rfl | exact .inr rfl | (rename_i hg; exact hg) | (rename_i hg; exact eqf hg) | (rename_i hg; exact eqt hg) | (rename_i hg; change (_ : Bool) = true; rw [hg]; rfl) | (change (_ : Bool) = true; simp_all; done) | skip)
  refine AW_block ?_
  refine AW_loopX [0, 1, 2, 3] [] (fun j : Unit => [(8, .cv (iint 1))]) (fun j => []) (fun j => 0) () ⟨SLe.of_eq rfl, trivial⟩ trivial ?_
  rintro ⟨⟩
  refine AW_seq ?_
  refine AW_seq ?_
  refine AW_all good tab0 (tab0_ok _) rfl rfl ?_ ?_
  · repeat' (first | exact trivial | exact rfl | exact (fun _ _ => rfl) | refine And.intro ?_ ?_ | intro _)
    all_goals (first | omega | (unfold maxLen; omega) | exact bytes_ok (by omega) (by decide) | exact bytes_okI (by omega) (by omega) (by decide) | exact of_decide_eq_true (by assumption) | decide | exact slOk_lit | exact slOk_f | exact slOk_nil | assumption | exact .inl rfl | exact .inr rfl | (rename_i hg; exact hg) | (rename_i hg; exact eqf hg) | (rename_i hg; exact eqt hg) | (rename_i hg; change (_ : Bool) = true; rw [hg]; rfl) | (change (_ : Bool) = true; simp_all; done) | skip)
  refine AW_cond rfl (fun h1 => ?_) (fun h1 => ?_)
  · first
    | (exfalso; (first | (cases h1; done) | exact absurd h1 (by decide) | simp_all); done)
    | (
        refine AW_skip ?_
        refine AW_seq ?_
        refine AW_block ?_
        refine AW_seq ?_
        fail
    )
  · first
    | (exfalso; (first | (cases h1; done) | exact absurd h1 (by decide) | simp_all); done)
    | (
        refine AW_exit ?_
        refine ⟨_, _, rfl, ?_, Ends.le rfl ?_ ?_⟩
        · repeat' (first | exact trivial | exact rfl | exact (fun _ _ => rfl) | refine And.intro ?_ ?_ | intro _)
          all_goals (first | omega | (unfold maxLen; omega) | exact bytes_ok (by omega) (by decide) | exact bytes_okI (by omega) (by omega) (by decide) | exact of_decide_eq_true (by assumption) | decide | exact slOk_lit | exact slOk_f | exact slOk_nil | assumption | exact .inl rfl | exact .inr rfl | (rename_i hg; exact hg) | (rename_i hg; exact eqf hg) | (rename_i hg; exact eqt hg) | (rename_i hg; change (_ : Bool) = true; rw [hg]; rfl) | (change (_ : Bool) = true; simp_all; done) | skip)
        · repeat' (first | exact trivial | exact rfl | exact (fun _ _ => rfl) | refine And.intro ?_ ?_ | intro _)
          all_goals (first | omega | (unfold maxLen; omega) | exact bytes_ok (by omega) (by decide) | exact bytes_okI (by omega) (by omega) (by decide) | exact of_decide_eq_true (by assumption) | decide | exact slOk_lit | exact slOk_f | exact slOk_nil | assumption | exact .inl rfl | exact .inr rfl | (rename_i hg; exact hg) | (rename_i hg; exact eqf hg) | (rename_i hg; exact eqt hg) | (rename_i hg; change (_ : Bool) = true; rw [hg]; rfl) | (change (_ : Bool) = true; simp_all; done) | skip)
        exact SLe.of_eq rfl
    )

def tz1 : Tab := tabAdd 90 (fun args => match args with
  | [.one (.imm (.sl e 0 _ _)), x, y, .one (.fn (.func g) 0 _ 0 _)] => bif Nat.beq e 2 && Nat.beq g 57 then match nI.dec x, nI.dec y with
    | some (x1, xp), some (y1, yp) => some (.tup [], xp ∧ (yp ∧ (x1 = 0 ∧ y1 = 0)))
    | _, _ => none
    else none
  | _ => none) tab0
theorem tz1_ok : TabOk Try.prog tz1 := by
  refine tabAdd_ok rfl (fun args r p hc hp => ?_) (tab0_ok _)
  split at hc
  · rename_i e ex c x y g f1 f2
    cases hb : (Nat.beq e 2 && Nat.beq g 57) with
    | false => rw [hb] at hc; cases hc
    | true =>
      rw [hb] at hc
      simp only [cond_true] at hc
      rw [Bool.and_eq_true] at hb
      obtain rfl := Nat.eq_of_beq_eq_true hb.1
      obtain rfl := Nat.eq_of_beq_eq_true hb.2
      split at hc
      · rename_i x1 xp y1 yp xd yd
        simp only [Option.some.injEq, Prod.mk.injEq] at hc
        obtain ⟨rfl, rfl⟩ := hc
        obtain ⟨xq, yq, rfl, rfl⟩ := hp
        exact (insNil ex c).args (TLe.cons (CLe.refl _) (TLe.cons (nI.le _ _ _ xd xq) (TLe.cons (nI.le _ _ _ yd yq) (TLe.cons (CLe.fn (fun i hi => absurd hi (Nat.not_lt_zero i)) fun i hi => absurd hi (Nat.not_lt_zero i)) TLe.nil))))
      · cases hc
  · cases hc

theorem pdqNil (ex : Bool) (c : Nat → Nat → IV) : PCall Try.prog 73 [.one (.imm (.sl 2 0 ex c)), iint 0, iint 0, iint 0, .one (fnV 57 [])] (.tup []) := by
  refine PCall_of (ACall_body good Try.func73 rfl 148 rfl (by simp) ?_)
  refine AW_seq ?_
  refine AW_all good tz1 (tz1_ok) rfl rfl ?_ ?_
  · repeat' (first | exact trivial | exact rfl | exact (fun _ _ => rfl) | refine And.intro ?_ ?_ | intro _)
    all_goals (first | omega | (unfold maxLen; omega) | exact bytes_ok (by omega) (by decide) | exact bytes_okI (by omega) (by omega) (by decide) | exact of_decide_eq_true (by assumption) | decide | exact slOk_lit | exact slOk_f | exact slOk_nil | assumption | exact .inl rfl | exact .inr rfl | (rename_i hg; exact hg) | (rename_i hg; exact eqf hg) | (rename_i hg; exact eqt hg) | (rename_i hg; change (_ : Bool) = true; rw [hg]; rfl) | (change (_ : Bool) = true; simp_all; done) | skip)
  refine AW_seq ?_
  refine AW_all good tz1 (tz1_ok) rfl rfl ?_ ?_
  · repeat' (first | exact trivial | exact rfl | exact (fun _ _ => rfl) | refine And.intro ?_ ?_ | intro _)
    all_goals (first | omega | (unfold maxLen; omega) | exact bytes_ok (by omega) (by decide) | exact bytes_okI (by omega) (by omega) (by decide) | exact of_decide_eq_true (by assumption) | decide | exact slOk_lit | exact slOk_f | exact slOk_nil | assumption | exact .inl rfl | exact .inr rfl | (rename_i hg; exact hg) | (rename_i hg; exact eqf hg) | (rename_i hg; exact eqt hg) | (rename_i hg; change (_ : Bool) = true; rw [hg]; rfl) | (change (_ : Bool) = true; simp_all; done) | skip)
  refine AW_block ?_
  refine AW_loopX [0, 4] [] (fun j : Unit => [(1, .cv (iint 0)), (2, .cv (iint 0))]) (fun j => []) (fun j => 0) () ⟨SLe.of_eq rfl, SLe.of_eq rfl, trivial⟩ trivial ?_
  rintro ⟨⟩
  refine AW_block ?_
  refine AW_seq ?_
  refine AW_all good tz1 (tz1_ok) rfl rfl ?_ ?_
  · repeat' (first | exact trivial | exact rfl | exact (fun _ _ => rfl) | refine And.intro ?_ ?_ | intro _)
    all_goals (first | omega | (unfold maxLen; omega) | exact bytes_ok (by omega) (by decide) | exact bytes_okI (by omega) (by omega) (by decide) | exact of_decide_eq_true (by assumption) | decide | exact slOk_lit | exact slOk_f | exact slOk_nil | assumption | exact .inl rfl | exact .inr rfl | (rename_i hg; exact hg) | (rename_i hg; exact eqf hg) | (rename_i hg; exact eqt hg) | (rename_i hg; change (_ : Bool) = true; rw [hg]; rfl) | (change (_ : Bool) = true; simp_all; done) | skip)
  refine AW_seq ?_
  refine AW_seq ?_
  refine AW_all good tz1 (tz1_ok) rfl rfl ?_ ?_
  · repeat' (first | exact trivial | exact rfl | exact (fun _ _ => rfl) | refine And.intro ?_ ?_ | intro _)
    all_goals (first | omega | (unfold maxLen; omega) | exact bytes_ok (by omega) (by decide) | exact bytes_okI (by omega) (by omega) (by decide) | exact of_decide_eq_true (by assumption) | decide | exact slOk_lit | exact slOk_f | exact slOk_nil | assumption | exact .inl rfl | exact .inr rfl | (rename_i hg; exact hg) | (rename_i hg; exact eqf hg) | (rename_i hg; exact eqt hg) | (rename_i hg; change (_ : Bool) = true; rw [hg]; rfl) | (change (_ : Bool) = true; simp_all; done) | skip)
  refine AW_cond rfl (fun h1 => ?_) (fun h1 => ?_)
  · first
    | (exfalso; (first | (cases h1; done) | exact absurd h1 (by decide) | simp_all); done)
    | (
        refine AW_seq ?_
        refine AW_all good tz1 (tz1_ok) rfl rfl ?_ ?_
        · repeat' (first | exact trivial | exact rfl | exact (fun _ _ => rfl) | refine And.intro ?_ ?_ | intro _)
          all_goals (first | omega | (unfold maxLen; omega) | exact bytes_ok (by omega) (by decide) | exact bytes_okI (by omega) (by omega) (by decide) | exact of_decide_eq_true (by assumption) | decide | exact slOk_lit | exact slOk_f | exact slOk_nil | assumption | exact .inl rfl | exact .inr rfl | (rename_i hg; exact hg) | (rename_i hg; exact eqf hg) | (rename_i hg; exact eqt hg) | (rename_i hg; change (_ : Bool) = true; rw [hg]; rfl) | (change (_ : Bool) = true; simp_all; done) | skip)
        refine AW_ret (bodyQ_ret rfl ?_ (Ends.le rfl ?_ ?_))
        · repeat' (first | exact trivial | exact rfl | exact (fun _ _ => rfl) | refine And.intro ?_ ?_ | intro _)
          all_goals (first | omega | (unfold maxLen; omega) | exact bytes_ok (by omega) (by decide) | exact bytes_okI (by omega) (by omega) (by decide) | exact of_decide_eq_true (by assumption) | decide | exact slOk_lit | exact slOk_f | exact slOk_nil | assumption | exact .inl rfl | exact .inr rfl | (rename_i hg; exact hg) | (rename_i hg; exact eqf hg) | (rename_i hg; exact eqt hg) | (rename_i hg; change (_ : Bool) = true; rw [hg]; rfl) | (change (_ : Bool) = true; simp_all; done) | skip)
        · repeat' (first | exact trivial | exact rfl | exact (fun _ _ => rfl) | refine And.intro ?_ ?_ | intro _)
          all_goals (first | omega | (unfold maxLen; omega) | exact bytes_ok (by omega) (by decide) | exact bytes_okI (by omega) (by omega) (by decide) | exact of_decide_eq_true (by assumption) | decide | exact slOk_lit | exact slOk_f | exact slOk_nil | assumption | exact .inl rfl | exact .inr rfl | (rename_i hg; exact hg) | (rename_i hg; exact eqf hg) | (rename_i hg; exact eqt hg) | (rename_i hg; change (_ : Bool) = true; rw [hg]; rfl) | (change (_ : Bool) = true; simp_all; done) | skip)
        exact SLe.of_eq rfl
    )
  · first
    | (exfalso; (first | (cases h1; done) | exact absurd h1 (by decide) | simp_all); done)
    | (
        refine AW_skip ?_
        refine AW_seq ?_
        refine AW_seq ?_
        fail
    )

def tz2 : Tab := tabAdd 73 (fun args => match args with
  | [.one (.imm (.sl e 0 _ _)), x, y, z, .one (.fn (.func g) 0 _ 0 _)] => bif Nat.beq e 2 && Nat.beq g 57 then match nI.dec x, nI.dec y, nI.dec z with
    | some (x1, xp), some (y1, yp), some (z1, zp) => some (.tup [], xp ∧ (yp ∧ (zp ∧ (x1 = 0 ∧ y1 = 0 ∧ z1 = 0))))
    | _, _, _ => none
    else none
  | _ => none) tab0
theorem tz2_ok : TabOk Try.prog tz2 := by
  refine tabAdd_ok rfl (fun args r p hc hp => ?_) (tab0_ok _)
  split at hc
  · rename_i e ex c x y z g f1 f2
    cases hb : (Nat.beq e 2 && Nat.beq g 57) with
    | false => rw [hb] at hc; cases hc
    | true =>
      rw [hb] at hc
      simp only [cond_true] at hc
      rw [Bool.and_eq_true] at hb
      obtain rfl := Nat.eq_of_beq_eq_true hb.1
      obtain rfl := Nat.eq_of_beq_eq_true hb.2
      split at hc
      · rename_i x1 xp y1 yp z1 zp xd yd zd
        simp only [Option.some.injEq, Prod.mk.injEq] at hc
        obtain ⟨rfl, rfl⟩ := hc
        obtain ⟨xq, yq, zq, rfl, rfl, rfl⟩ := hp
        exact (pdqNil ex c).args (TLe.cons (CLe.refl _) (TLe.cons (nI.le _ _ _ xd xq) (TLe.cons (nI.le _ _ _ yd yq) (TLe.cons (nI.le _ _ _ zd zq) (TLe.cons (CLe.fn (fun i hi => absurd hi (Nat.not_lt_zero i)) fun i hi => absurd hi (Nat.not_lt_zero i)) TLe.nil)))))
      · cases hc
  · cases hc

def tz3 : Tab := tabC1 74 (codI .u64) (fun _ => .cv (iint 0)) (fun x => x = 0) tz2
theorem tz3_ok : TabOk Try.prog tz3 := tabC1_ok rfl (fun x h => by subst h; exact lenZ) tz2_ok

theorem sortNil (ex : Bool) (c : Nat → Nat → IV) : PCall Try.prog 56 [.one (.imm (.sl 2 0 ex c)), .one (fnV 57 [])] (.tup []) := by
  refine PCall_of (ACall_body good Try.func56 rfl 14 rfl (by simp) ?_)
  refine AW_seq ?_
  refine AW_all good tz3 (tz3_ok) rfl rfl ?_ ?_
  · repeat' (first | exact trivial | exact rfl | exact (fun _ _ => rfl) | refine And.intro ?_ ?_ | intro _)
    all_goals (first | omega | (unfold maxLen; omega) | exact bytes_ok (by omega) (by decide) | exact bytes_okI (by omega) (by omega) (by decide) | exact of_decide_eq_true (by assumption) | decide | exact slOk_lit | exact slOk_f | exact slOk_nil | assumption | exact .inl rfl | exact .inr rfl | (rename_i hg; exact hg) | (rename_i hg; exact eqf hg) | (rename_i hg; exact eqt hg) | (rename_i hg; change (_ : Bool) = true; rw [hg]; rfl) | (change (_ : Bool) = true; simp_all; done) | skip)
  refine AW_all good tz3 (tz3_ok) rfl rfl ?_ ?_
  · repeat' (first | exact trivial | exact rfl | exact (fun _ _ => rfl) | refine And.intro ?_ ?_ | intro _)
    all_goals (first | omega | (unfold maxLen; omega) | exact bytes_ok (by omega) (by decide) | exact bytes_okI (by omega) (by omega) (by decide) | exact of_decide_eq_true (by assumption) | decide | exact slOk_lit | exact slOk_f | exact slOk_nil | assumption | exact .inl rfl | exact .inr rfl | (rename_i hg; exact hg) | (rename_i hg; exact eqf hg) | (rename_i hg; exact eqt hg) | (rename_i hg; change (_ : Bool) = true; rw [hg]; rfl) | (change (_ : Bool) = true; simp_all; done) | skip)
  refine ⟨_, _, rfl, ?_, Ends.le rfl ?_ ?_⟩
  · repeat' (first | exact trivial | exact rfl | exact (fun _ _ => rfl) | refine And.intro ?_ ?_ | intro _)
    all_goals (first | omega | (unfold maxLen; omega) | exact bytes_ok (by omega) (by decide) | exact bytes_okI (by omega) (by omega) (by decide) | exact of_decide_eq_true (by assumption) | decide | exact slOk_lit | exact slOk_f | exact slOk_nil | assumption | exact .inl rfl | exact .inr rfl | (rename_i hg; exact hg) | (rename_i hg; exact eqf hg) | (rename_i hg; exact eqt hg) | (rename_i hg; change (_ : Bool) = true; rw [hg]; rfl) | (change (_ : Bool) = true; simp_all; done) | skip)
  · repeat' (first | exact trivial | exact rfl | exact (fun _ _ => rfl) | refine And.intro ?_ ?_ | intro _)
    all_goals (first | omega | (unfold maxLen; omega) | exact bytes_ok (by omega) (by decide) | exact bytes_okI (by omega) (by omega) (by decide) | exact of_decide_eq_true (by assumption) | decide | exact slOk_lit | exact slOk_f | exact slOk_nil | assumption | exact .inl rfl | exact .inr rfl | (rename_i hg; exact hg) | (rename_i hg; exact eqf hg) | (rename_i hg; exact eqt hg) | (rename_i hg; change (_ : Bool) = true; rw [hg]; rfl) | (change (_ : Bool) = true; simp_all; done) | skip)
  exact SLe.of_eq rfl

end Go.Proofs.Ytadgjhbhghhbgaa.Abs
