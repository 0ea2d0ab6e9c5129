/-
  THE LAW HeapSorts, AS IT IS WALKED: true all the way.
-/
import Derived.Test.YtadgjhbhghhbgaaHq16
namespace Go.Proofs.Ytadgjhbhghhbgaa.Abs
open Go
set_option maxRecDepth 10000

set_option maxHeartbeats 2000000 in
theorem lawSorts (k : Nat) (hk : 202 ≤ k) (l : Sl Item) : PCall Try.prog 5 [.one (.imm (slI itE l))] (.cv (ibool true)) := by
  refine PCall_of (ACall_body good Try.func5 rfl 130 rfl (by simp) ?_)
  refine AW_lenle 0 rfl (fun hml => ?_)
  refine AW_seq ?_
  refine AW_all good (tr5 k) (tr5_ok hk) rfl rfl ?_ ?_
  · repeat' (first | exact trivial | exact rfl | exact (fun _ _ => rfl) | refine And.intro ?_ ?_ | intro _)
  refine AW_seq ?_
  refine AW_all good (tr5 k) (tr5_ok hk) rfl rfl ?_ ?_
  · repeat' (first | exact trivial | exact rfl | exact (fun _ _ => rfl) | refine And.intro ?_ ?_ | intro _)
    all_goals omega
  refine AW_seq ?_
  obtain ⟨m, hm⟩ : ∃ m, ((if 8 < (l.n : Int) then 8 else (l.n : Int)) - 0).toNat = m := ⟨_, rfl⟩
  have hm8 : m ≤ 8 := by
    rw [← hm]
    split <;> omega
  have hm512 : m ≤ maxLen := by
    unfold maxLen
    omega
  refine AW_slot 0 (y := .cv (.one (.imm (slI itE ⟨m, l.at_⟩)))) rfl (SLe.cv (CLe.imm (ILe.sl hm.symm (by simp) (.inr ⟨rfl, fun q j hq hj => ILe.of_eq ?_⟩)))) ?_
  · rfl
  refine AW_all good (tr5 k) (tr5_ok hk) rfl rfl ?_ ?_
  · repeat' (first | exact trivial | exact rfl | exact (fun _ _ => rfl) | refine And.intro ?_ ?_ | intro _)
  skip
  refine AW_blk 0 rfl (B := bkV 50 arE (newAr 512)) (BLe.of_eq rfl) ?_
  refine AW_slot 4 (y := .cv (iint 0)) rfl (SLe.of_eq rfl) ?_
  refine AW_seq ?_
  refine AW_all good (tr5 k) (tr5_ok hk) rfl rfl ?_ ?_
  · repeat' (first | exact trivial | exact rfl | exact (fun _ _ => rfl) | refine And.intro ?_ ?_ | intro _)
  refine AW_seq ?_
  refine AW_all good (tr5 k) (tr5_ok hk) rfl rfl ?_ ?_
  · repeat' (first | exact trivial | exact rfl | exact (fun _ _ => rfl) | refine And.intro ?_ ?_ | intro _)
  refine AW_seq ?_
  refine AW_seq ?_
  refine AW_all good (tr5 k) (tr5_ok hk) rfl rfl ?_ ?_
  · repeat' (first | exact trivial | exact rfl | exact (fun _ _ => rfl) | refine And.intro ?_ ?_ | intro _)
  refine AW_block ?_
  refine AW_loopX [0, 3, 4, 31, 32] [] (fun j : { j : Nat × (Ar × (Int × (Sl Item × (Int × Sl Item)))) // j.1 ≤ m ∧ PutI j.1 j.2.1 j.2.2.1 j.2.2.2.1 j.2.2.2.2.1 j.2.2.2.2.2 } => [(33, .cv (iint j.1.1)), (5, .cv (u64 j.1.2.2.1)), (6, .cv (u64 j.1.2.2.2.2.1)), (7, .cv (.one (.imm (slI itE j.1.2.2.2.1)))), (8, .cv (.one (.imm (slI itE j.1.2.2.2.2.2))))]) (fun j => [(0, bkV 50 arE j.1.2.1)]) (fun j => m - j.1.1) ⟨(0, newAr 512, 0, ⟨0, fun _ => it0⟩, 0, ⟨0, fun _ => it0⟩), Nat.zero_le _, put_start⟩ ⟨SLe.of_eq rfl, SLe.of_eq rfl, SLe.of_eq rfl, SLe.cv (CLe.imm (ILe.sl rfl (by simp) (.inl rfl))), SLe.cv (CLe.imm (ILe.sl rfl (by simp) (.inl rfl))), trivial⟩ ⟨⟨_, rfl, BLe.of_eq rfl⟩, trivial⟩ ?_
  rintro ⟨⟨i, a, r, row, half, bef⟩, hi, hI⟩
  dsimp only at hi hI ⊢
  refine AW_seq ?_
  refine AW_all good (tr5 k) (tr5_ok hk) rfl rfl ?_ ?_
  · repeat' (first | exact trivial | exact rfl | exact (fun _ _ => rfl) | refine And.intro ?_ ?_ | intro _)
  refine AW_seq ?_
  refine AW_cond rfl (fun h1 => ?_) (fun h1 => ?_)
  · first
    | (exfalso; first | (simp_all; done) | exact absurd (h1.symm.trans (eqx_f x _)) Bool.noConfusion; done)
    | (
        refine AW_skip ?_
        refine AW_seq ?_
        refine AW_block ?_
        refine AW_seq ?_
        have hlt : i < m := by
          have h : (i : Int) < (m : Int) := of_decide_eq_true (by assumption)
          omega
        refine AW_all good (tr5 k) (tr5_ok hk) rfl rfl ?_ ?_
        · repeat' (first | exact trivial | exact rfl | exact (fun _ _ => rfl) | refine And.intro ?_ ?_ | intro _)
          all_goals omega
        refine AW_seq ?_
        refine AW_all good (tr5 k) (tr5_ok hk) rfl rfl ?_ ?_
        · repeat' (first | exact trivial | exact rfl | exact (fun _ _ => rfl) | refine And.intro ?_ ?_ | intro _)
          all_goals exact slOk_lit
        refine AW_seq ?_
        refine AW_seq ?_
        obtain ⟨x, hx⟩ : ∃ x, l.at_ i = x := ⟨_, rfl⟩
        obtain ⟨b, t, hins, hN1, hN2⟩ := put_step hI (by omega) x
        have hrn : row.n ≤ 512 := by
          have := hI.n
          omega
        have h512 := hrn
        refine AW_blk 2 rfl (B := bkV 54 itE x) (BLe.of_eq (by rw [← hx]; rfl)) ?_
        refine AW_blk 4 rfl (B := bkV 50 arE b) (BLe.of_eq ?_) ?_
        · show _ = bkV 50 arE (b, t, (0 : Int)).1
          rw [← hins, ← hx]
          rfl
        refine AW_slot 12 (y := .cv (u64 t)) rfl (SLe.of_eq ?_) ?_
        · show _ = SV.cv (u64 (b, t, (0 : Int)).2.1)
          rw [← hins, ← hx]
          rfl
        refine AW_slot 13 (y := .cv (iint 0)) rfl (SLe.of_eq ?_) ?_
        · show _ = SV.cv (iint (b, t, (0 : Int)).2.2)
          rw [← hins, ← hx]
          rfl
        refine AW_all good (tr5 k) (tr5_ok hk) rfl rfl ?_ ?_
        · repeat' (first | exact trivial | exact rfl | exact (fun _ _ => rfl) | refine And.intro ?_ ?_ | intro _)
          all_goals assumption
        refine AW_cond rfl (fun h2 => ?_) (fun h2 => ?_)
        · first
          | (exfalso; first | (simp_all; done) | exact absurd (h2.symm.trans (eqx_f x _)) Bool.noConfusion; done)
          | (
              refine AW_seq ?_
              refine AW_all good (tr5 k) (tr5_ok hk) rfl rfl ?_ ?_
              · repeat' (first | exact trivial | exact rfl | exact (fun _ _ => rfl) | refine And.intro ?_ ?_ | intro _)
              refine AW_ret (bodyQ_ret rfl ?_ (Ends.le rfl ?_ ?_))
              · repeat' (first | exact trivial | exact rfl | exact (fun _ _ => rfl) | refine And.intro ?_ ?_ | intro _)
              · repeat' (first | exact trivial | exact rfl | exact (fun _ _ => rfl) | refine And.intro ?_ ?_ | intro _)
              exact SLe.of_eq rfl
          )
        · first
          | (exfalso; first | (simp_all; done) | exact absurd (h2.symm.trans (eqx_f x _)) Bool.noConfusion; done)
          | (
              refine AW_skip ?_
              refine AW_seq ?_
              refine AW_seq ?_
              refine AW_all good (tr5 k) (tr5_ok hk) rfl rfl ?_ ?_
              · repeat' (first | exact trivial | exact rfl | exact (fun _ _ => rfl) | refine And.intro ?_ ?_ | intro _)
              refine AW_cond rfl (fun h3 => ?_) (fun h3 => ?_)
              · first
                | (exfalso; first | (simp_all; done) | exact absurd (h3.symm.trans (eqx_f x _)) Bool.noConfusion; done)
                | (
                    refine AW_seq ?_
                    refine AW_all good (tr5 k) (tr5_ok hk) rfl rfl ?_ ?_
                    · repeat' (first | exact trivial | exact rfl | exact (fun _ _ => rfl) | refine And.intro ?_ ?_ | intro _)
                    refine AW_ret (bodyQ_ret rfl ?_ (Ends.le rfl ?_ ?_))
                    · repeat' (first | exact trivial | exact rfl | exact (fun _ _ => rfl) | refine And.intro ?_ ?_ | intro _)
                    · repeat' (first | exact trivial | exact rfl | exact (fun _ _ => rfl) | refine And.intro ?_ ?_ | intro _)
                    exact SLe.of_eq rfl
                )
              · first
                | (exfalso; first | (simp_all; done) | exact absurd (h3.symm.trans (eqx_f x _)) Bool.noConfusion; done)
                | (
                    refine AW_skip ?_
                    refine AW_seq ?_
                    refine AW_drwG good rfl (tr5 k) (tr5_ok hk) et0 (et0_ok _) [] [0, 0, 0, 0, 12, 29, 63, 127] [false, false, false, false, false, true, false, false] (by rfl) (by rfl) rfl (by rfl) (by rfl) ?_ ?_ ?_
                    · repeat' (first | exact trivial | exact rfl | exact (fun _ _ => rfl) | refine And.intro ?_ ?_ | intro _)
                      all_goals (first | exact hrn | exact slOk_lit)
                    · repeat' (first | refine And.intro ?_ ?_ | exact trivial | exact rfl | intro _)
                      all_goals (first | exact hrn | exact slOk_lit)
                    refine AW_seq ?_
                    refine AW_all good (tr5 k) (tr5_ok hk) rfl rfl ?_ ?_
                    · repeat' (first | exact trivial | exact rfl | exact (fun _ _ => rfl) | refine And.intro ?_ ?_ | intro _)
                      all_goals omega
                    refine AW_cond rfl (fun h4 => ?_) (fun h4 => ?_)
                    · first
                      | (exfalso; first | (simp_all; done) | exact absurd (h4.symm.trans (eqx_f x _)) Bool.noConfusion; done)
                      | (
                          refine AW_all good (tr5 k) (tr5_ok hk) rfl rfl ?_ ?_
                          · repeat' (first | exact trivial | exact rfl | exact (fun _ _ => rfl) | refine And.intro ?_ ?_ | intro _)
                          refine AW_all good (tr5 k) (tr5_ok hk) rfl rfl ?_ ?_
                          · repeat' (first | exact trivial | exact rfl | exact (fun _ _ => rfl) | refine And.intro ?_ ?_ | intro _)
                          refine loopX_next ⟨(i + 1, b, t, withI row x, t, withI row x), hlt, hN2⟩ [0, 1] rfl rfl ⟨SLe.of_eq (congrArg (fun z => SV.cv (iint z)) (next_int i m hlt hm512)), SLe.of_eq rfl, SLe.of_eq rfl, SLe.of_eq rfl, SLe.of_eq rfl, trivial⟩ ⟨SLe.of_eq rfl, SLe.of_eq rfl, SLe.of_eq rfl, SLe.of_eq rfl, SLe.of_eq rfl, trivial⟩ ⟨⟨rfl, _, rfl, BLe.of_eq rfl⟩, trivial⟩ trivial ?_
                          show m - (i + 1) < m - i
                          omega
                      )
                    · first
                      | (exfalso; first | (simp_all; done) | exact absurd (h4.symm.trans (eqx_f x _)) Bool.noConfusion; done)
                      | (
                          refine AW_skip ?_
                          refine AW_all good (tr5 k) (tr5_ok hk) rfl rfl ?_ ?_
                          · repeat' (first | exact trivial | exact rfl | exact (fun _ _ => rfl) | refine And.intro ?_ ?_ | intro _)
                          refine loopX_next ⟨(i + 1, b, t, withI row x, half, bef), hlt, hN1⟩ [0, 1] rfl rfl ⟨SLe.of_eq (congrArg (fun z => SV.cv (iint z)) (next_int i m hlt hm512)), SLe.of_eq rfl, SLe.of_eq rfl, SLe.of_eq rfl, SLe.of_eq rfl, trivial⟩ ⟨SLe.of_eq rfl, SLe.of_eq rfl, SLe.of_eq rfl, SLe.of_eq rfl, SLe.of_eq rfl, trivial⟩ ⟨⟨rfl, _, rfl, BLe.of_eq rfl⟩, trivial⟩ trivial ?_
                          show m - (i + 1) < m - i
                          omega
                      )
                )
          )
    )
  · first
    | (exfalso; first | (simp_all; done) | exact absurd (h1.symm.trans (eqx_f x _)) Bool.noConfusion; done)
    | (
        refine AW_exit ?_
        refine AW_seq ?_
        refine AW_seq ?_
        have hend : i = m := by
          have h : ¬ (i : Int) < (m : Int) := of_decide_eq_false (by assumption)
          omega
        subst hend
        have hP0 : PopI row 0 a r half bef := ⟨hI.right, hI.rng, hI.heap, hI.half, by have := hI.free; omega⟩
        have hn8 : row.n ≤ 8 := by
          have := hI.n
          omega
        have hrow : row.n ≤ maxLen := by
          unfold maxLen
          omega
        have hsR : Sorted row := hI.srt
        refine AW_all good (tr5 k) (tr5_ok hk) rfl rfl ?_ ?_
        · repeat' (first | exact trivial | exact rfl | exact (fun _ _ => rfl) | refine And.intro ?_ ?_ | intro _)
        refine AW_block ?_
        refine AW_loopX [3, 4, 6, 8, 70, 71] [] (fun j : { j : Nat × (Ar × Int) // j.1 ≤ row.n ∧ PopI row j.1 j.2.1 j.2.2 half bef } => [(72, .cv (iint j.1.1)), (5, .cv (u64 j.1.2.2))]) (fun j => [(0, bkV 50 arE j.1.2.1)]) (fun j => row.n - j.1.1) ⟨(0, a, r), Nat.zero_le _, hP0⟩ ⟨SLe.of_eq rfl, SLe.of_eq rfl, trivial⟩ ⟨⟨_, rfl, BLe.of_eq rfl⟩, trivial⟩ ?_
        rintro ⟨⟨i, a, r⟩, hi, hP⟩
        dsimp only at hi hP ⊢
        refine AW_seq ?_
        refine AW_all good (tr5 k) (tr5_ok hk) rfl rfl ?_ ?_
        · repeat' (first | exact trivial | exact rfl | exact (fun _ _ => rfl) | refine And.intro ?_ ?_ | intro _)
        refine AW_seq ?_
        refine AW_cond rfl (fun h5 => ?_) (fun h5 => ?_)
        · first
          | (exfalso; first | (simp_all; done) | exact absurd (h5.symm.trans (eqx_f x _)) Bool.noConfusion; done)
          | (
              refine AW_skip ?_
              refine AW_seq ?_
              refine AW_block ?_
              refine AW_seq ?_
              have hlt : i < row.n := by
                have h : (i : Int) < (row.n : Int) := of_decide_eq_true (by assumption)
                omega
              refine AW_all good (tr5 k) (tr5_ok hk) rfl rfl ?_ ?_
              · repeat' (first | exact trivial | exact rfl | exact (fun _ _ => rfl) | refine And.intro ?_ ?_ | intro _)
                all_goals omega
              refine AW_seq ?_
              refine AW_all good (tr5 k) (tr5_ok hk) rfl rfl ?_ ?_
              · repeat' (first | exact trivial | exact rfl | exact (fun _ _ => rfl) | refine And.intro ?_ ?_ | intro _)
                all_goals exact slOk_lit
              refine AW_seq ?_
              refine AW_seq ?_
              obtain ⟨x, hx⟩ : ∃ x, row.at_ i = x := ⟨_, rfl⟩
              obtain ⟨b, t, hpop, hpx, hN1⟩ := pop_step hP hsR hn8 hlt
              refine AW_blk 2 rfl (B := bkV 54 itE x) (BLe.of_eq (by rw [← hx]; rfl)) ?_
              refine AW_blk 4 rfl (B := bkV 50 arE b) (BLe.of_eq ?_) ?_
              · show _ = bkV 50 arE (b, t, (0 : Int), row.at_ i).1
                rw [← hpop]
                rfl
              refine AW_blk 5 rfl (B := bkV 54 itE x) (BLe.of_eq ?_) ?_
              · rw [← hx, ← hpx]
                rfl
              refine AW_slot 17 (y := .cv (u64 t)) rfl (SLe.of_eq ?_) ?_
              · show _ = SV.cv (u64 (b, t, (0 : Int), row.at_ i).2.1)
                rw [← hpop]
                rfl
              refine AW_slot 19 (y := .cv (iint 0)) rfl (SLe.of_eq ?_) ?_
              · show _ = SV.cv (iint (b, t, (0 : Int), row.at_ i).2.2.1)
                rw [← hpop]
                rfl
              refine AW_all good (tr5 k) (tr5_ok hk) rfl rfl ?_ ?_
              · repeat' (first | exact trivial | exact rfl | exact (fun _ _ => rfl) | refine And.intro ?_ ?_ | intro _)
                all_goals assumption
              refine AW_cond rfl (fun h6 => ?_) (fun h6 => ?_)
              · first
                | (exfalso; first | (simp_all; done) | exact absurd (h6.symm.trans (eqx_f x _)) Bool.noConfusion; done)
                | (
                    refine AW_seq ?_
                    refine AW_all good (tr5 k) (tr5_ok hk) rfl rfl ?_ ?_
                    · repeat' (first | exact trivial | exact rfl | exact (fun _ _ => rfl) | refine And.intro ?_ ?_ | intro _)
                    refine AW_ret (bodyQ_ret rfl ?_ (Ends.le rfl ?_ ?_))
                    · repeat' (first | exact trivial | exact rfl | exact (fun _ _ => rfl) | refine And.intro ?_ ?_ | intro _)
                    · repeat' (first | exact trivial | exact rfl | exact (fun _ _ => rfl) | refine And.intro ?_ ?_ | intro _)
                    exact SLe.of_eq rfl
                )
              · first
                | (exfalso; first | (simp_all; done) | exact absurd (h6.symm.trans (eqx_f x _)) Bool.noConfusion; done)
                | (
                    refine AW_skip ?_
                    refine AW_seq ?_
                    refine AW_seq ?_
                    refine AW_all good (tr5 k) (tr5_ok hk) rfl rfl ?_ ?_
                    · repeat' (first | exact trivial | exact rfl | exact (fun _ _ => rfl) | refine And.intro ?_ ?_ | intro _)
                    refine AW_cond rfl (fun h7 => ?_) (fun h7 => ?_)
                    · first
                      | (exfalso; first | (simp_all; done) | exact absurd (h7.symm.trans (eqx_f x _)) Bool.noConfusion; done)
                      | (
                          refine AW_seq ?_
                          refine AW_all good (tr5 k) (tr5_ok hk) rfl rfl ?_ ?_
                          · repeat' (first | exact trivial | exact rfl | exact (fun _ _ => rfl) | refine And.intro ?_ ?_ | intro _)
                          refine AW_ret (bodyQ_ret rfl ?_ (Ends.le rfl ?_ ?_))
                          · repeat' (first | exact trivial | exact rfl | exact (fun _ _ => rfl) | refine And.intro ?_ ?_ | intro _)
                          · repeat' (first | exact trivial | exact rfl | exact (fun _ _ => rfl) | refine And.intro ?_ ?_ | intro _)
                          exact SLe.of_eq rfl
                      )
                    · first
                      | (exfalso; first | (simp_all; done) | exact absurd (h7.symm.trans (eqx_f x _)) Bool.noConfusion; done)
                      | (
                          refine AW_skip ?_
                          refine AW_all good (tr5 k) (tr5_ok hk) rfl rfl ?_ ?_
                          · repeat' (first | exact trivial | exact rfl | exact (fun _ _ => rfl) | refine And.intro ?_ ?_ | intro _)
                          refine AW_all good (tr5 k) (tr5_ok hk) rfl rfl ?_ ?_
                          · repeat' (first | exact trivial | exact rfl | exact (fun _ _ => rfl) | refine And.intro ?_ ?_ | intro _)
                          refine loopX_next ⟨(i + 1, b, t), hlt, hN1⟩ [0, 1] rfl rfl ⟨SLe.of_eq (congrArg (fun z => SV.cv (iint z)) (next_int i row.n hlt hrow)), SLe.of_eq rfl, trivial⟩ ⟨SLe.of_eq rfl, SLe.of_eq rfl, SLe.of_eq rfl, SLe.of_eq rfl, SLe.of_eq rfl, SLe.of_eq rfl, trivial⟩ ⟨⟨rfl, _, rfl, BLe.of_eq rfl⟩, trivial⟩ trivial ?_
                          show row.n - (i + 1) < row.n - i
                          omega
                      )
                )
          )
        · first
          | (exfalso; first | (simp_all; done) | exact absurd (h5.symm.trans (eqx_f x _)) Bool.noConfusion; done)
          | (
              refine AW_exit ?_
              refine AW_seq ?_
              have hend : i = row.n := by
                have h : ¬ (i : Int) < (row.n : Int) := of_decide_eq_false (by assumption)
                omega
              subst hend
              obtain ⟨hr0, hok, hsm⟩ := sorts_end hk hP
              refine AW_all good (tr5 k) (tr5_ok hk) rfl rfl ?_ ?_
              · repeat' (first | exact trivial | exact rfl | exact (fun _ _ => rfl) | refine And.intro ?_ ?_ | intro _)
                all_goals exact slOk_lit
              skip
              obtain ⟨G, hG⟩ : ∃ G, itmsL k a half = G := ⟨_, rfl⟩
              rw [hG] at hsm
              refine AW_slot 20 (y := .cv (.one (.imm (slI itE G)))) rfl (SLe.of_eq (by rw [← hG]; rfl)) ?_
              refine AW_slot 21 (y := .cv (ibool true)) rfl (SLe.of_eq (by rw [← hok]; rfl)) ?_
              refine AW_seq ?_
              refine AW_all good (tr5 k) (tr5_ok hk) rfl rfl ?_ ?_
              · repeat' (first | exact trivial | exact rfl | exact (fun _ _ => rfl) | refine And.intro ?_ ?_ | intro _)
                all_goals (first | exact slOk_lit | assumption | (rename_i hg; exact eqt hg))
              skip
              refine AW_slot 2 (y := .cv (ibool true)) rfl (SLe.of_eq ?_) ?_
              · show SV.cv (ibool (bif (bif (bif (bif aliveB then (0 : Int) == 0 else false) then r == 0 else false) then true else false) then sameI G bef else false)) = _
                rw [alive_true, hr0, hsm]
                rfl
              refine AW_ret (bodyQ_ret rfl ?_ (Ends.le rfl ?_ ?_))
              · repeat' (first | exact trivial | exact rfl | exact (fun _ _ => rfl) | refine And.intro ?_ ?_ | intro _)
              · repeat' (first | exact trivial | exact rfl | exact (fun _ _ => rfl) | refine And.intro ?_ ?_ | intro _)
              exact SLe.of_eq rfl
          )
    )

end Go.Proofs.Ytadgjhbhghhbgaa.Abs
