/-
  AN INTEGER, REPEATED.
-/
import Derived.Test.YtadgjhbhghhbgaaT1
namespace Go.Proofs.Ytadgjhbhghhbgaa.Abs
open Go
set_option maxRecDepth 10000

def tabN1 : Tab := tabAdd 59 (fun args => match args with
  | [.one (.imm (.val (.int .u64 a))), .one (.imm (.val (.int .u64 n)))] => some (.tup [u64 0, u64 n], a = 1 ∧ 1 ≤ n ∧ n ≤ 8)
  | _ => none) tabM1
theorem tabN1_ok : TabOk Try.prog tabN1 := by
  refine tabAdd_ok rfl (fun args r p h hp => ?_) tabM1_ok
  split at h
  · rename_i a n
    simp only [Option.some.injEq, Prod.mk.injEq] at h; obtain ⟨rfl, rfl⟩ := h
    obtain ⟨rfl, h1, h2⟩ := hp
    exact mul59 n h1 h2
  · cases h

theorem repeat36 (ex : Bool) (x : Int) (n : Nat) (hn1 : 1 ≤ n) (h8 : n ≤ 8) : PCall Try.prog 36 [.one (iS 1 ex fun _ => x), iint n] (.cv (.one (iS n false fun _ => x))) := by
  have w1 : IntKind.u64.wrap ((1 : Nat) : Int) = 1 := by decide
  refine PCall_of (ACall_body good Try.func36 rfl 48 rfl (by simp) ?_)
  refine AW_seq ?_
  refine AW_all good tabN1 tabN1_ok rfl rfl ?_ ?_
  · repeat' (first | exact trivial | exact rfl | exact (fun _ _ => rfl) | refine And.intro ?_ ?_ | intro _)
    all_goals (first | omega | exact of_decide_eq_true (by assumption) | decide | exact hmx | exact hbytes | (rw [IntKind.wrap_u64]; omega) | exact w1 | (rename_i hg; exact hg) | (rename_i hg; change (_ : Bool) = true; rw [hg]; rfl) | (change (_ : Bool) = true; simp_all; done) | trace_state)
  refine AW_seq ?_
  refine AW_seq ?_
  refine AW_all good tabN1 tabN1_ok rfl rfl ?_ ?_
  · repeat' (first | exact trivial | exact rfl | exact (fun _ _ => rfl) | refine And.intro ?_ ?_ | intro _)
    all_goals (first | omega | exact of_decide_eq_true (by assumption) | decide | exact hmx | exact hbytes | (rw [IntKind.wrap_u64]; omega) | exact w1 | (rename_i hg; exact hg) | (rename_i hg; change (_ : Bool) = true; rw [hg]; rfl) | (change (_ : Bool) = true; simp_all; done) | trace_state)
  refine AW_cond rfl (fun h1 => ?_) (fun h1 => ?_)
  · first
    | (exfalso; first | (simp_all; done) | (simp at h1; omega); done)
    | (
        fail
    )
  · first
    | (exfalso; first | (simp_all; done) | (simp at h1; omega); done)
    | (
        refine AW_skip ?_
        refine AW_seq ?_
        refine AW_all good tabN1 tabN1_ok rfl rfl ?_ ?_
        · repeat' (first | exact trivial | exact rfl | exact (fun _ _ => rfl) | refine And.intro ?_ ?_ | intro _)
          all_goals (first | omega | exact of_decide_eq_true (by assumption) | decide | exact hmx | exact hbytes | (rw [IntKind.wrap_u64]; omega) | exact w1 | (rename_i hg; exact hg) | (rename_i hg; change (_ : Bool) = true; rw [hg]; rfl) | (change (_ : Bool) = true; simp_all; done) | trace_state)
        refine AW_seq ?_
        refine AW_seq ?_
        refine AW_slot 5 (y := .cv (u64 0)) rfl (SLe.of_eq rfl) ?_
        refine AW_slot 6 (y := .cv (u64 n)) rfl (SLe.of_eq (congrArg (fun z => SV.cv (u64 z)) (by rw [IntKind.wrap_u64]; omega))) ?_
        refine AW_all good tabN1 tabN1_ok rfl rfl ?_ ?_
        · repeat' (first | exact trivial | exact rfl | exact (fun _ _ => rfl) | refine And.intro ?_ ?_ | intro _)
          all_goals (first | omega | exact of_decide_eq_true (by assumption) | decide | exact hmx | exact hbytes | (rw [IntKind.wrap_u64]; omega) | exact w1 | (rename_i hg; exact hg) | (rename_i hg; change (_ : Bool) = true; rw [hg]; rfl) | (change (_ : Bool) = true; simp_all; done) | trace_state)
        refine AW_cond rfl (fun h2 => ?_) (fun h2 => ?_)
        · first
          | (exfalso; first | (simp_all; done) | (simp at h2; omega); done)
          | (
              fail
          )
        · first
          | (exfalso; first | (simp_all; done) | (simp at h2; omega); done)
          | (
              refine AW_skip ?_
              refine AW_seq ?_
              have hwn : IntKind.i64.wrap (n : Int) = n := by rw [IntKind.wrap_i64]; omega
              have hwt : (IntKind.i64.wrap (n : Int)).toNat = n := by omega
              have hmin : Nat.min 1 (IntKind.i64.wrap (n : Int)).toNat = 1 := by rw [hwt]; exact Nat.min_eq_left hn1
              have hbytes : (lay3.bytes : Int) * IntKind.i64.wrap (n : Int) ≤ 281474976710656 := by
                show (8 : Int) * _ ≤ _
                omega
              refine AW_all good tabN1 tabN1_ok rfl rfl ?_ ?_
              · repeat' (first | exact trivial | exact rfl | exact (fun _ _ => rfl) | refine And.intro ?_ ?_ | intro _)
                all_goals (first | omega | exact of_decide_eq_true (by assumption) | decide | exact hmx | exact hbytes | (rw [IntKind.wrap_u64]; omega) | exact w1 | (rename_i hg; exact hg) | (rename_i hg; change (_ : Bool) = true; rw [hg]; rfl) | (change (_ : Bool) = true; simp_all; done) | trace_state)
              refine AW_seq ?_
              refine AW_all good tabN1 tabN1_ok rfl rfl ?_ ?_
              · repeat' (first | exact trivial | exact rfl | exact (fun _ _ => rfl) | refine And.intro ?_ ?_ | intro _)
                all_goals (first | omega | exact of_decide_eq_true (by assumption) | decide | exact hmx | exact hbytes | (rw [IntKind.wrap_u64]; omega) | exact w1 | (rename_i hg; exact hg) | (rename_i hg; change (_ : Bool) = true; rw [hg]; rfl) | (change (_ : Bool) = true; simp_all; done) | trace_state)
              refine AW_seq ?_
              refine AW_block ?_
              refine AW_loopH 1 (fun c : { c : Nat // 1 ≤ c ∧ c ≤ n } => [(7, .cv (.one (.osl 0 1 0 0 n true))), (8, .cv (iint c.1))]) (fun c => [(0, .rows 3 1 n fun i _ => bif Nat.blt i c.1 then .val (.int .i64 x) else .val (.int .i64 0))]) (fun c => n - c.1) ⟨1, by omega, hn1⟩ [0] rfl rfl ?_ ?_ ?_
              · exact ⟨SLe.of_eq (congrArg (fun z => SV.cv (.one (.osl 0 1 0 0 z true))) hwt), SLe.of_eq (congrArg (fun z : Nat => SV.cv (iint z)) hmin), trivial⟩
              · refine ⟨⟨rfl, _, rfl, BLe.rows hwt.symm fun i j hi hj => ILe.of_eq ?_⟩, trivial⟩
                obtain rfl : j = 0 := by omega
                show (bif Nat.ble 0 i && Nat.blt i (0 + Nat.min 1 (IntKind.i64.wrap (n : Int)).toNat) then IV.val (.int .i64 x) else IV.val (.int .i64 0)) = bif Nat.blt i 1 then IV.val (.int .i64 x) else IV.val (.int .i64 0)
                rw [hmin]
                cases i <;> rfl
              rintro ⟨c, hc1, hc2⟩
              dsimp only at hc1 hc2 ⊢
              refine AW_seq ?_
              refine AW_seq ?_
              refine AW_all good tabN1 tabN1_ok rfl rfl ?_ ?_
              · repeat' (first | exact trivial | exact rfl | exact (fun _ _ => rfl) | refine And.intro ?_ ?_ | intro _)
                all_goals (first | omega | exact of_decide_eq_true (by assumption) | decide | exact hmx | exact hbytes | (rw [IntKind.wrap_u64]; omega) | exact w1 | (rename_i hg; exact hg) | (rename_i hg; change (_ : Bool) = true; rw [hg]; rfl) | (change (_ : Bool) = true; simp_all; done) | trace_state)
              refine AW_cond rfl (fun h3 => ?_) (fun h3 => ?_)
              · first
                | (exfalso; first | (simp_all; done) | (simp at h3; omega); done)
                | (
                    refine AW_skip ?_
                    refine AW_block ?_
                    refine AW_drwE good rfl tabN1 tabN1_ok rfl rfl rfl rfl ?_ ?_
                    · repeat' (first | exact trivial | exact rfl | exact (fun _ _ => rfl) | refine And.intro ?_ ?_ | intro _)
                      all_goals (first | omega | exact of_decide_eq_true (by assumption) | decide | exact hmx | exact hbytes | (rw [IntKind.wrap_u64]; omega) | exact w1 | (rename_i hg; exact hg) | (rename_i hg; change (_ : Bool) = true; rw [hg]; rfl) | (change (_ : Bool) = true; simp_all; done) | trace_state)
                    have hlt : c < n := by simpa using h3
                    obtain ⟨k, hk⟩ : ∃ k, Nat.min ((c : Int) - 0).toNat ((n : Int) - (c : Int)).toNat = k := ⟨_, rfl⟩
                    have hk1 : 1 ≤ k ∧ c + k ≤ n ∧ k ≤ c := by
                      have e : k = Nat.min c (n - c) := by
                        rw [← hk]
                        congr 1 <;> omega
                      have a1 : Nat.min c (n - c) ≤ c := Nat.min_le_left _ _
                      have a2 : Nat.min c (n - c) ≤ n - c := Nat.min_le_right _ _
                      have a3 : 0 < Nat.min c (n - c) := Nat.lt_min.2 ⟨by omega, by omega⟩
                      omega
                    dsimp only [blkQ]
                    refine loopH_next ⟨c + k, by omega, hk1.2.1⟩ [0] rfl rfl ⟨SLe.of_eq rfl, SLe.of_eq (congrArg (fun z => SV.cv (iint z)) ?_), trivial⟩ ⟨⟨rfl, _, rfl, BLe.rows rfl fun i j hi hj => ILe.of_eq ?_⟩, trivial⟩ ?_
                    · show IntKind.i64.wrap ((c : Int) + (Nat.min ((c : Int) - 0).toNat ((n : Int) - (c : Int)).toNat : Nat)) = ((c + k : Nat) : Int)
                      rw [hk, IntKind.wrap_i64]
                      omega
                    · show (bif Nat.ble (0 + c) i && Nat.blt i (0 + c + Nat.min ((c : Int) - 0).toNat ((n : Int) - (c : Int)).toNat) then (bif Nat.blt (0 + 0 + (i - (0 + c))) c then IV.val (.int .i64 x) else IV.val (.int .i64 0)) else (bif Nat.blt i c then IV.val (.int .i64 x) else IV.val (.int .i64 0))) = bif Nat.blt i (c + k) then IV.val (.int .i64 x) else IV.val (.int .i64 0)
                      rw [hk, inSeg, Nat.zero_add, Nat.zero_add]
                      by_cases hq : c ≤ i ∧ i < c + k
                      · rw [decide_eq_true hq, blt_t (show i - c < c by omega), blt_t hq.2]
                        rfl
                      · rw [decide_eq_false hq]
                        rcases Nat.lt_or_ge i c with h | h
                        · rw [blt_t h, blt_t (show i < c + k by omega)]
                          rfl
                        · rw [blt_f h, blt_f (show c + k ≤ i by omega)]
                          rfl
                    show n - (c + k) < n - c
                    omega
                )
              · first
                | (exfalso; first | (simp_all; done) | (simp at h3; omega); done)
                | (
                    refine AW_exit ?_
                    refine AW_seq ?_
                    refine AW_all good tabN1 tabN1_ok rfl rfl ?_ ?_
                    · repeat' (first | exact trivial | exact rfl | exact (fun _ _ => rfl) | refine And.intro ?_ ?_ | intro _)
                      all_goals (first | omega | exact of_decide_eq_true (by assumption) | decide | exact hmx | exact hbytes | (rw [IntKind.wrap_u64]; omega) | exact w1 | (rename_i hg; exact hg) | (rename_i hg; change (_ : Bool) = true; rw [hg]; rfl) | (change (_ : Bool) = true; simp_all; done) | trace_state)
                    refine AW_ret (bodyQ_ret rfl ?_ (Ends.le rfl ?_ ?_))
                    · repeat' (first | exact trivial | exact rfl | exact (fun _ _ => rfl) | refine And.intro ?_ ?_ | intro _)
                      all_goals (first | omega | exact of_decide_eq_true (by assumption) | decide | exact hmx | exact hbytes | (rw [IntKind.wrap_u64]; omega) | exact w1 | (rename_i hg; exact hg) | (rename_i hg; change (_ : Bool) = true; rw [hg]; rfl) | (change (_ : Bool) = true; simp_all; done) | trace_state)
                    · repeat' (first | exact trivial | exact rfl | exact (fun _ _ => rfl) | refine And.intro ?_ ?_ | intro _)
                      all_goals (first | omega | exact of_decide_eq_true (by assumption) | decide | exact hmx | exact hbytes | (rw [IntKind.wrap_u64]; omega) | exact w1 | (rename_i hg; exact hg) | (rename_i hg; change (_ : Bool) = true; rw [hg]; rfl) | (change (_ : Bool) = true; simp_all; done) | trace_state)
                    have he : c = n := by
                      have : ¬ c < n := by simpa using h3
                      omega
                    subst he
                    refine SLe.cv (CLe.imm (ILe.sl rfl (by simp) (.inr ⟨rfl, fun i j hi hj => ILe.of_eq ?_⟩)))
                    show (bif Nat.blt (0 + i) c then IV.val (.int .i64 x) else IV.val (.int .i64 0)) = _
                    rw [Nat.zero_add, blt_t hi]
                    rfl
                )
          )
    )
end Go.Proofs.Ytadgjhbhghhbgaa.Abs
