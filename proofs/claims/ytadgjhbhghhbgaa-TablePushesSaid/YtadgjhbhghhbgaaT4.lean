/-
  THE CONTRACTS OF PACKAGE table: New, Open, Shut.
-/
import Derived.Test.YtadgjhbhghhbgaaT3
namespace Go.Proofs.Ytadgjhbhghhbgaa.Abs
open Go
set_option maxRecDepth 10000

theorem one_int {x : Int} {i : Nat} (h : i < 1) : [ivOf (Value.int IntKind.i64 x)].getD ((0 + i) * lay3.size + 0) ivDef = .val (.int .i64 (intsAt (fun i q => [ivOf (Value.int IntKind.i64 x)].getD ((0 + i) * lay3.size + q) ivDef) i)) := by
  obtain rfl : i = 0 := by omega
  rfl
def beginR (n : Nat) : RecD := ⟨0, zeroIV lay42 1, zeroIV lay42 2, zeroIV lay42 3, zeroIV lay42 4, .sl 1 n false fun _ j => zeroIV lay3 j, .sl 3 n false fun _ j => zeroIV lay190 j⟩
theorem begin35 (n : Nat) (h1 : 1 ≤ n) (h8 : n ≤ 8) : PCall Try.prog 35 [iint n] (.tup [recC (beginR n), iint 0]) := by
  have hbytes : (lay3.bytes : Int) * n ≤ 281474976710656 := by
    show (8 : Int) * n ≤ _
    omega
  have hbytes2 : (lay190.bytes : Int) * n ≤ 281474976710656 := by
    show (24 : Int) * n ≤ _
    omega
  refine PCall_of (ACall_body good Try.func35 rfl 16 rfl (by simp) ?_)
  refine AW_seq ?_
  refine AW_all good tabO1 tabO1_ok rfl rfl ?_ ?_
  · repeat' (first | exact trivial | exact rfl | exact (fun _ _ => rfl) | refine And.intro ?_ ?_ | intro _)
    all_goals (first | omega | exact of_decide_eq_true (by assumption) | decide | exact hmx | exact hbytes | exact hbytes2 | exact recs_lit | exact one_int (by assumption) | exact ints_lit | (rename_i hg; exact hg) | (rename_i hg; change (_ : Bool) = true; rw [hg]; rfl) | (rename_i hg; revert hg; simp; omega) | (change (_ : Bool) = true; simp_all; done) | trace_state)
  refine AW_seq ?_
  refine AW_seq ?_
  refine AW_all good tabO1 tabO1_ok rfl rfl ?_ ?_
  · repeat' (first | exact trivial | exact rfl | exact (fun _ _ => rfl) | refine And.intro ?_ ?_ | intro _)
    all_goals (first | omega | exact of_decide_eq_true (by assumption) | decide | exact hmx | exact hbytes | exact hbytes2 | exact recs_lit | exact one_int (by assumption) | exact ints_lit | (rename_i hg; exact hg) | (rename_i hg; change (_ : Bool) = true; rw [hg]; rfl) | (rename_i hg; revert hg; simp; omega) | (change (_ : Bool) = true; simp_all; done) | trace_state)
  refine AW_cond rfl (fun h1 => ?_) (fun h1 => ?_)
  · first
    | (exfalso; simp_all; done)
    | (
        refine AW_seq ?_
        refine AW_all good tabO1 tabO1_ok rfl rfl ?_ ?_
        · repeat' (first | exact trivial | exact rfl | exact (fun _ _ => rfl) | refine And.intro ?_ ?_ | intro _)
          all_goals (first | omega | exact of_decide_eq_true (by assumption) | decide | exact hmx | exact hbytes | exact hbytes2 | exact recs_lit | exact one_int (by assumption) | exact ints_lit | (rename_i hg; exact hg) | (rename_i hg; change (_ : Bool) = true; rw [hg]; rfl) | (rename_i hg; revert hg; simp; omega) | (change (_ : Bool) = true; simp_all; done) | trace_state)
        refine AW_ret (bodyQ_ret rfl ?_ (Ends.le rfl ?_ ?_))
        · repeat' (first | exact trivial | exact rfl | exact (fun _ _ => rfl) | refine And.intro ?_ ?_ | intro _)
          all_goals (first | omega | exact of_decide_eq_true (by assumption) | decide | exact hmx | exact hbytes | exact hbytes2 | exact recs_lit | exact one_int (by assumption) | exact ints_lit | (rename_i hg; exact hg) | (rename_i hg; change (_ : Bool) = true; rw [hg]; rfl) | (rename_i hg; revert hg; simp; omega) | (change (_ : Bool) = true; simp_all; done) | trace_state)
        · repeat' (first | exact trivial | exact rfl | exact (fun _ _ => rfl) | refine And.intro ?_ ?_ | intro _)
          all_goals (first | omega | exact of_decide_eq_true (by assumption) | decide | exact hmx | exact hbytes | exact hbytes2 | exact recs_lit | exact one_int (by assumption) | exact ints_lit | (rename_i hg; exact hg) | (rename_i hg; change (_ : Bool) = true; rw [hg]; rfl) | (rename_i hg; revert hg; simp; omega) | (change (_ : Bool) = true; simp_all; done) | trace_state)
        exfalso
        have h : (bif decide ((n : Int) < 1) then true else decide ((n : Int) > 8)) = true := by assumption
        rw [decide_eq_false (by omega)] at h
        have := of_decide_eq_true (show decide ((n : Int) > 8) = true from h)
        omega
    )
  · first
    | (exfalso; simp_all; done)
    | (
        refine AW_skip ?_
        refine AW_seq ?_
        refine AW_drwF good rfl tabO1 tabO1_ok [1, 3] rfl rfl rfl rfl ?_ ?_
        · repeat' (first | exact trivial | exact rfl | exact (fun _ _ => rfl) | refine And.intro ?_ ?_ | intro _)
          all_goals (first | omega | exact of_decide_eq_true (by assumption) | decide | exact hmx | exact hbytes | exact hbytes2 | exact recs_lit | exact one_int (by assumption) | exact ints_lit | (rename_i hg; exact hg) | (rename_i hg; change (_ : Bool) = true; rw [hg]; rfl) | (rename_i hg; revert hg; simp; omega) | (change (_ : Bool) = true; simp_all; done) | trace_state)
        refine AW_ret (bodyQ_ret rfl ?_ (Ends.le rfl ?_ ?_))
        · repeat' (first | exact trivial | exact rfl | exact (fun _ _ => rfl) | refine And.intro ?_ ?_ | intro _)
          all_goals (first | omega | exact of_decide_eq_true (by assumption) | decide | exact hmx | exact hbytes | exact hbytes2 | exact recs_lit | exact one_int (by assumption) | exact ints_lit | (rename_i hg; exact hg) | (rename_i hg; change (_ : Bool) = true; rw [hg]; rfl) | (rename_i hg; revert hg; simp; omega) | (change (_ : Bool) = true; simp_all; done) | trace_state)
        · repeat' (first | exact trivial | exact rfl | exact (fun _ _ => rfl) | refine And.intro ?_ ?_ | intro _)
          all_goals (first | omega | exact of_decide_eq_true (by assumption) | decide | exact hmx | exact hbytes | exact hbytes2 | exact recs_lit | exact one_int (by assumption) | exact ints_lit | (rename_i hg; exact hg) | (rename_i hg; change (_ : Bool) = true; rw [hg]; rfl) | (rename_i hg; revert hg; simp; omega) | (change (_ : Bool) = true; simp_all; done) | trace_state)
        exact SLe.of_eq rfl
    )

def tabP1 : Tab := tabAdd 35 (fun args => match args with
  | [.one (.imm (.val (.int .i64 n)))] => some (.tup [recC (beginR n.toNat), iint 0], 1 ≤ n ∧ n ≤ 8)
  | _ => none) (tabAdd 16 (fun args => match args with
  | [c] => match asTbl c with
    | some (t, q) => some (.tup [recC (nowR t), iint (bif shp t then 0 else 1)], q)
    | none => none
  | _ => none) tabO1)
theorem tabP1_ok : TabOk Try.prog tabP1 := by
  refine tabAdd_ok rfl (fun args r p h hp => ?_) (tabAdd_ok rfl (fun args r p h hp => ?_) tabO1_ok)
  · split at h
    · rename_i n
      simp only [Option.some.injEq, Prod.mk.injEq] at h; obtain ⟨rfl, rfl⟩ := h
      obtain ⟨k, rfl⟩ : ∃ k : Nat, n = k := ⟨n.toNat, by omega⟩
      exact begin35 k (by omega) (by omega)
    · cases h
  · split at h
    · split at h
      · rename_i hc
        simp only [Option.some.injEq, Prod.mk.injEq] at h; obtain ⟨rfl, rfl⟩ := h
        exact (now16 _).args (TLe.cons (asTbl_le hc hp) TLe.nil)
      · cases h
    · cases h

def newT (n : Nat) : Tbl := ⟨1, fun _ => beginR n, n, fun _ => -1, 8, fun _ => -1⟩
theorem new11 (n : Nat) (h1 : 1 ≤ n) (h8 : n ≤ 8) : PCall Try.prog 11 [iint n] (.tup [tblC (newT n), iint 0]) := by
  refine PCall_of (ACall_body good Try.func11 rfl 23 rfl (by simp) ?_)
  refine AW_seq ?_
  refine AW_all good tabP1 tabP1_ok rfl rfl ?_ ?_
  · repeat' (first | exact trivial | exact rfl | exact (fun _ _ => rfl) | refine And.intro ?_ ?_ | intro _)
    all_goals (first | omega | exact of_decide_eq_true (by assumption) | decide | exact hmx | exact hbytes | exact hbytes2 | exact recs_lit | exact one_int (by assumption) | exact ints_lit | (rename_i hg; exact hg) | (rename_i hg; change (_ : Bool) = true; rw [hg]; rfl) | (rename_i hg; revert hg; simp; omega) | (change (_ : Bool) = true; simp_all; done) | trace_state)
  refine AW_seq ?_
  refine AW_all good tabP1 tabP1_ok rfl rfl ?_ ?_
  · repeat' (first | exact trivial | exact rfl | exact (fun _ _ => rfl) | refine And.intro ?_ ?_ | intro _)
    all_goals (first | omega | exact of_decide_eq_true (by assumption) | decide | exact hmx | exact hbytes | exact hbytes2 | exact recs_lit | exact one_int (by assumption) | exact ints_lit | (rename_i hg; exact hg) | (rename_i hg; change (_ : Bool) = true; rw [hg]; rfl) | (rename_i hg; revert hg; simp; omega) | (change (_ : Bool) = true; simp_all; done) | trace_state)
  refine AW_seq ?_
  refine AW_seq ?_
  refine AW_all good tabP1 tabP1_ok rfl rfl ?_ ?_
  · repeat' (first | exact trivial | exact rfl | exact (fun _ _ => rfl) | refine And.intro ?_ ?_ | intro _)
    all_goals (first | omega | exact of_decide_eq_true (by assumption) | decide | exact hmx | exact hbytes | exact hbytes2 | exact recs_lit | exact one_int (by assumption) | exact ints_lit | (rename_i hg; exact hg) | (rename_i hg; change (_ : Bool) = true; rw [hg]; rfl) | (rename_i hg; revert hg; simp; omega) | (change (_ : Bool) = true; simp_all; done) | trace_state)
  refine AW_cond rfl (fun h1 => ?_) (fun h1 => ?_)
  · first
    | (exfalso; cases h1; done)
    | (
        refine AW_seq ?_
        refine AW_all good tabP1 tabP1_ok rfl rfl ?_ ?_
        · repeat' (first | exact trivial | exact rfl | exact (fun _ _ => rfl) | refine And.intro ?_ ?_ | intro _)
          all_goals (first | omega | exact of_decide_eq_true (by assumption) | decide | exact hmx | exact hbytes | exact hbytes2 | exact recs_lit | exact one_int (by assumption) | exact ints_lit | (rename_i hg; exact hg) | (rename_i hg; change (_ : Bool) = true; rw [hg]; rfl) | (rename_i hg; revert hg; simp; omega) | (change (_ : Bool) = true; simp_all; done) | trace_state)
        refine AW_ret (bodyQ_ret rfl ?_ (Ends.le rfl ?_ ?_))
        · repeat' (first | exact trivial | exact rfl | exact (fun _ _ => rfl) | refine And.intro ?_ ?_ | intro _)
          all_goals (first | omega | exact of_decide_eq_true (by assumption) | decide | exact hmx | exact hbytes | exact hbytes2 | exact recs_lit | exact one_int (by assumption) | exact ints_lit | (rename_i hg; exact hg) | (rename_i hg; change (_ : Bool) = true; rw [hg]; rfl) | (rename_i hg; revert hg; simp; omega) | (change (_ : Bool) = true; simp_all; done) | trace_state)
        · repeat' (first | exact trivial | exact rfl | exact (fun _ _ => rfl) | refine And.intro ?_ ?_ | intro _)
          all_goals (first | omega | exact of_decide_eq_true (by assumption) | decide | exact hmx | exact hbytes | exact hbytes2 | exact recs_lit | exact one_int (by assumption) | exact ints_lit | (rename_i hg; exact hg) | (rename_i hg; change (_ : Bool) = true; rw [hg]; rfl) | (rename_i hg; revert hg; simp; omega) | (change (_ : Bool) = true; simp_all; done) | trace_state)
        fail
    )
  · first
    | (exfalso; cases h1; done)
    | (
        refine AW_skip ?_
        refine AW_seq ?_
        refine AW_drwF good rfl tabP1 tabP1_ok [1, 2, 5] rfl rfl rfl rfl ?_ ?_
        · repeat' (first | exact trivial | exact rfl | exact (fun _ _ => rfl) | refine And.intro ?_ ?_ | intro _)
          all_goals (first | omega | exact of_decide_eq_true (by assumption) | decide | exact hmx | exact hbytes | exact hbytes2 | exact recs_lit | exact one_int (by assumption) | exact ints_lit | (rename_i hg; exact hg) | (rename_i hg; change (_ : Bool) = true; rw [hg]; rfl) | (rename_i hg; revert hg; simp; omega) | (change (_ : Bool) = true; simp_all; done) | trace_state)
        refine AW_ret (bodyQ_ret rfl ?_ (Ends.le rfl ?_ ?_))
        · repeat' (first | exact trivial | exact rfl | exact (fun _ _ => rfl) | refine And.intro ?_ ?_ | intro _)
          all_goals (first | omega | exact of_decide_eq_true (by assumption) | decide | exact hmx | exact hbytes | exact hbytes2 | exact recs_lit | exact one_int (by assumption) | exact ints_lit | (rename_i hg; exact hg) | (rename_i hg; change (_ : Bool) = true; rw [hg]; rfl) | (rename_i hg; revert hg; simp; omega) | (change (_ : Bool) = true; simp_all; done) | trace_state)
        · repeat' (first | exact trivial | exact rfl | exact (fun _ _ => rfl) | refine And.intro ?_ ?_ | intro _)
          all_goals (first | omega | exact of_decide_eq_true (by assumption) | decide | exact hmx | exact hbytes | exact hbytes2 | exact recs_lit | exact one_int (by assumption) | exact ints_lit | (rename_i hg; exact hg) | (rename_i hg; change (_ : Bool) = true; rw [hg]; rfl) | (rename_i hg; revert hg; simp; omega) | (change (_ : Bool) = true; simp_all; done) | trace_state)
        refine SLe.pair (CLe.aggL ⟨CLe.imm (ILe.sl rfl (by simp) (.inr ⟨rfl, fun i j hi hj => ILe.of_eq ?_⟩)), CLe.of_eq rfl, CLe.of_eq rfl, trivial⟩) (CLe.of_eq rfl)
        obtain rfl : i = 0 := by
          have : i < 1 := hi
          omega
        match j, hj with
        | 0, _ => rfl
        | 1, _ => rfl
        | 2, _ => rfl
        | 3, _ => rfl
        | 4, _ => rfl
        | 5, _ => rfl
        | 6, _ => rfl
    )
end Go.Proofs.Ytadgjhbhghhbgaa.Abs
