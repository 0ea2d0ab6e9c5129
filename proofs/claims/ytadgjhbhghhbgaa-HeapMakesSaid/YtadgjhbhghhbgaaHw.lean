/-
  THE LAW HeapMakes: is, few, Apart.
-/
import Derived.Test.YtadgjhbhghhbgaaHm
import Derived.Test.YtadgjhbhghhbgaaHu
namespace Go.Proofs.Ytadgjhbhghhbgaa.Abs
open Go
set_option maxRecDepth 10000

theorem lawFewN (n : Int) (a : Ar) : PCall Try.prog 26 [iint n, (codPtr arE).enc a] (.cv (ibool (fewB a n))) := by
  refine PCall_of (ACall_body good Try.func26 rfl 11 rfl (by simp) ?_)
  refine AW_seq ?_
  refine AW_all good tab0 (tab0_ok _) rfl rfl ?_ ?_
  · repeat' (first | exact trivial | exact rfl | exact (fun _ _ => rfl) | refine And.intro ?_ ?_ | intro _)
  refine AW_seq ?_
  refine AW_all good tab0 (tab0_ok _) rfl rfl ?_ ?_
  · repeat' (first | exact trivial | exact rfl | exact (fun _ _ => rfl) | refine And.intro ?_ ?_ | intro _)
  refine AW_ret (bodyQ_ret rfl ?_ (Ends.le rfl ?_ ?_))
  · repeat' (first | exact trivial | exact rfl | exact (fun _ _ => rfl) | refine And.intro ?_ ?_ | intro _)
  · repeat' (first | exact trivial | exact rfl | exact (fun _ _ => rfl) | refine And.intro ?_ ?_ | intro _)
  exact SLe.of_eq rfl

set_option maxHeartbeats 1000000 in
theorem lawIs (k : Nat) (hk : 202 ≤ k) (a b : Ar) (r : Int) (want : Sl Item) (hn : a.nodes.n ≤ 512) : PCall Try.prog 27 [arC a, arC b, u64 r, .one (.imm (slI itE want))] (.cv (ibool (isB k a b r want))) := by
  refine PCall_of (ACall_body good Try.func27 rfl 53 rfl (by simp) ?_)
  refine AW_seq ?_
  refine AW_all good (tr5 k) (tr5_ok hk) rfl rfl ?_ ?_
  · repeat' (first | exact trivial | exact rfl | exact (fun _ _ => rfl) | refine And.intro ?_ ?_ | intro _)
  refine AW_seq ?_
  refine AW_seq ?_
  refine AW_all good (tr5 k) (tr5_ok hk) rfl rfl ?_ ?_
  · repeat' (first | exact trivial | exact rfl | exact (fun _ _ => rfl) | refine And.intro ?_ ?_ | intro _)
  refine AW_cond rfl (fun h1 => ?_) (fun h1 => ?_)
  · first
    | (exfalso; simp_all; done)
    | (
        refine AW_seq ?_
        refine AW_all good (tr5 k) (tr5_ok hk) rfl rfl ?_ ?_
        · repeat' (first | exact trivial | exact rfl | exact (fun _ _ => rfl) | refine And.intro ?_ ?_ | intro _)
        refine AW_ret (bodyQ_ret rfl ?_ (Ends.le rfl ?_ ?_))
        · repeat' (first | exact trivial | exact rfl | exact (fun _ _ => rfl) | refine And.intro ?_ ?_ | intro _)
        · repeat' (first | exact trivial | exact rfl | exact (fun _ _ => rfl) | refine And.intro ?_ ?_ | intro _)
        have h : ((a.nodes.n : Int) != b.nodes.n) = true := h1
        unfold isB
        rw [h]
        exact SLe.of_eq rfl
    )
  · first
    | (exfalso; simp_all; done)
    | (
        refine AW_skip ?_
        refine AW_seq ?_
        refine AW_seq ?_
        have hnn : ((a.nodes.n : Int) != b.nodes.n) = false := h1
        refine AW_all good (tr5 k) (tr5_ok hk) rfl rfl ?_ ?_
        · repeat' (first | exact trivial | exact rfl | exact (fun _ _ => rfl) | refine And.intro ?_ ?_ | intro _)
        refine AW_block ?_
        refine AW_loopX [2, 3, 5, 21, 22] [1] (fun j : { i : Nat // i ≤ a.nodes.n ∧ ∀ k, k < i → isBad a b k = false } => [(23, .cv (iint j.1))]) (fun j => []) (fun j => a.nodes.n - j.1) ⟨0, Nat.zero_le _, fun k hk => absurd hk (Nat.not_lt_zero k)⟩ ⟨SLe.of_eq rfl, trivial⟩ trivial ?_
        rintro ⟨i, hi, hb⟩
        dsimp only at hi hb ⊢
        refine AW_seq ?_
        refine AW_all good (tr5 k) (tr5_ok hk) rfl rfl ?_ ?_
        · repeat' (first | exact trivial | exact rfl | exact (fun _ _ => rfl) | refine And.intro ?_ ?_ | intro _)
        refine AW_seq ?_
        refine AW_cond rfl (fun h2 => ?_) (fun h2 => ?_)
        · first
          | (exfalso; simp_all; done)
          | (
              refine AW_skip ?_
              refine AW_seq ?_
              refine AW_block ?_
              refine AW_seq ?_
              have hlt : i < a.nodes.n := by
                have h : (i : Int) < (a.nodes.n : Int) := of_decide_eq_true (by assumption)
                omega
              have hlb : i < b.nodes.n := by
                have : (a.nodes.n : Int) = b.nodes.n := by simpa using hnn
                omega
              refine AW_all good (tr5 k) (tr5_ok hk) rfl rfl ?_ ?_
              · repeat' (first | exact trivial | exact rfl | exact (fun _ _ => rfl) | refine And.intro ?_ ?_ | intro _)
                all_goals omega
              refine AW_seq ?_
              refine AW_drwG good rfl (tr5 k) (tr5_ok hk) et0 (et0_ok _) [] [0, 1, 3, 7, 15, 31, 15, 127, 255, 15, 1023, 2047] [false, false, false, false, false, false, false, false, false, false, false, false] (by rfl) (by rfl) rfl (by rfl) (by rfl) ?_ ?_ ?_
              · repeat' (first | exact trivial | exact rfl | exact (fun _ _ => rfl) | refine And.intro ?_ ?_ | intro _)
                all_goals (first | omega | assumption | (rename_i hg; exact eqt hg))
              · repeat' (first | refine And.intro ?_ ?_ | exact trivial | exact rfl | intro _)
                all_goals assumption
              refine AW_cond rfl (fun h3 => ?_) (fun h3 => ?_)
              · first
                | (exfalso; simp_all; done)
                | (
                    refine AW_seq ?_
                    refine AW_all good (tr5 k) (tr5_ok hk) rfl rfl ?_ ?_
                    · repeat' (first | exact trivial | exact rfl | exact (fun _ _ => rfl) | refine And.intro ?_ ?_ | intro _)
                    refine AW_ret (bodyQ_ret rfl ?_ (Ends.le rfl ?_ ?_))
                    · repeat' (first | exact trivial | exact rfl | exact (fun _ _ => rfl) | refine And.intro ?_ ?_ | intro _)
                    · repeat' (first | exact trivial | exact rfl | exact (fun _ _ => rfl) | refine And.intro ?_ ?_ | intro _)
                    have hib : isBad a b i = true := by assumption
                    unfold isB
                    rw [hnn, anyB_hit hlt hib]
                    exact SLe.of_eq rfl
                )
              · first
                | (exfalso; simp_all; done)
                | (
                    refine AW_skip ?_
                    have hib : isBad a b i = false := by assumption
                    refine AW_all good (tr5 k) (tr5_ok hk) rfl rfl ?_ ?_
                    · repeat' (first | exact trivial | exact rfl | exact (fun _ _ => rfl) | refine And.intro ?_ ?_ | intro _)
                    refine loopX_next ⟨i + 1, hlt, fun k hk => ?_⟩ [0, 1] rfl rfl ⟨SLe.of_eq (congrArg (fun z => SV.cv (iint z)) (succ_wrap (by omega))), trivial⟩ ⟨SLe.of_eq rfl, SLe.of_eq rfl, SLe.of_eq rfl, SLe.of_eq rfl, SLe.of_eq rfl, trivial⟩ trivial ⟨⟨rfl, _, _, rfl, rfl, BLe.of_eq rfl⟩, trivial⟩ ?_
                    · rcases Nat.lt_succ_iff_lt_or_eq.1 hk with h | h
                      · exact hb k h
                      · rw [h]; exact hib
                    show a.nodes.n - (i + 1) < a.nodes.n - i
                    omega
                )
          )
        · first
          | (exfalso; simp_all; done)
          | (
              refine AW_exit ?_
              refine AW_seq ?_
              have hend : i = a.nodes.n := by
                have h : ¬ (i : Int) < (a.nodes.n : Int) := of_decide_eq_false (by assumption)
                omega
              refine AW_all good (tr5 k) (tr5_ok hk) rfl rfl ?_ ?_
              · repeat' (first | exact trivial | exact rfl | exact (fun _ _ => rfl) | refine And.intro ?_ ?_ | intro _)
                all_goals exact slOk_lit
              refine AW_seq ?_
              refine AW_all good (tr5 k) (tr5_ok hk) rfl rfl ?_ ?_
              · repeat' (first | exact trivial | exact rfl | exact (fun _ _ => rfl) | refine And.intro ?_ ?_ | intro _)
                all_goals (first | exact slOk_lit | assumption | (rename_i hg; exact eqt hg))
              refine AW_ret (bodyQ_ret rfl ?_ (Ends.le rfl ?_ ?_))
              · repeat' (first | exact trivial | exact rfl | exact (fun _ _ => rfl) | refine And.intro ?_ ?_ | intro _)
              · repeat' (first | exact trivial | exact rfl | exact (fun _ _ => rfl) | refine And.intro ?_ ?_ | intro _)
              unfold isB
              rw [hnn, anyB_all fun k hk => hb k (by omega)]
              exact SLe.of_eq rfl
          )
    )

set_option maxHeartbeats 1000000 in
theorem ref12Apart (k : Nat) (hk : 202 ≤ k) (a : Ar) (r s : Int) : PCall Try.prog 29 [arC a, u64 r, u64 s] (.cv (ibool (apartB k a r s))) := by
  refine PCall_of (ACall_body good Try.func29 rfl 15 rfl (by simp) ?_)
  have ho := topF_ok k a t30 r t30_ok
  refine AW_seq ?_
  refine AW_all good tab0 (tab0_ok _) rfl rfl ?_ ?_
  · repeat' (first | exact trivial | exact rfl | exact (fun _ _ => rfl) | refine And.intro ?_ ?_ | intro _)
  refine AW_seq ?_
  refine AW_drwG good rfl tab0 (tab0_ok _) (eTp k) (eTp_ok hk) [] [0, 0, 0, 0, 14, 0, 63, 127, 255] [false, false, false, false, true, false, true, false, false] (by rfl) (by rfl) rfl (by rfl) (by rfl) ?_ ?_ ?_
  · repeat' (first | exact trivial | exact rfl | exact (fun _ _ => rfl) | refine And.intro ?_ ?_ | intro _)
    all_goals (first | exact ho.1 | exact ho.2 | exact slOk_lit)
  · repeat' (first | refine And.intro ?_ ?_ | exact trivial | exact rfl | intro _)
  refine AW_ret (bodyQ_ret rfl ?_ (Ends.le rfl ?_ ?_))
  · repeat' (first | exact trivial | exact rfl | exact (fun _ _ => rfl) | refine And.intro ?_ ?_ | intro _)
  · repeat' (first | exact trivial | exact rfl | exact (fun _ _ => rfl) | refine And.intro ?_ ?_ | intro _)
  exact SLe.of_eq rfl

noncomputable def tr7 (k : Nat) : Tab := tabC2 26 nI (codPtr arE) (fun n a => .cv (ibool (fewB a n))) (fun _ _ => True) (tabC4 27 arA arA rI (codSl itE) (fun a b r w => .cv (ibool (isB k a b r w))) (fun a _ _ _ => a.nodes.n ≤ 512) (tabC3 29 arA rI rI (fun a r s => .cv (ibool (apartB k a r s))) (fun _ _ _ => True) (tr6 k)))
theorem tr7_ok {k : Nat} (hk : 202 ≤ k) : TabOk Try.prog (tr7 k) := tabC2_ok rfl (fun n a _ => lawFewN n a) (tabC4_ok rfl (fun a b r w h => lawIs k hk a b r w h) (tabC3_ok rfl (fun a r s _ => ref12Apart k hk a r s) (tr6_ok hk)))

end Go.Proofs.Ytadgjhbhghhbgaa.Abs

/-
  THE LAW HeapMakes, AS IT IS WALKED: true all the way.
-/
namespace Go.Proofs.Ytadgjhbhghhbgaa.Abs
open Go
set_option maxRecDepth 10000

set_option maxHeartbeats 4000000 in
theorem lawMakes (k : Nat) (hk : 202 ≤ k) (a0 : Ar) (hg0 : RngA a0) (r s : Int) (hr : RngK r) (hs : RngK s) (x : Item) : PCall Try.prog 6 [arC a0, u64 r, u64 s, itC x] (.cv (ibool true)) := by
  refine PCall_of (ACall_body good Try.func6 rfl 191 rfl (by simp) ?_)
  refine AW_seq ?_
  refine AW_all good (tr7 k) (tr7_ok hk) rfl rfl ?_ ?_
  · repeat' (first | exact trivial | exact rfl | exact (fun _ _ => rfl) | refine And.intro ?_ ?_ | intro _)
  refine AW_seq ?_
  refine AW_all good (tr7 k) (tr7_ok hk) rfl rfl ?_ ?_
  · repeat' (first | exact trivial | exact rfl | exact (fun _ _ => rfl) | refine And.intro ?_ ?_ | intro _)
    all_goals exact slOk_lit
  skip
  obtain ⟨a, ha⟩ : ∃ a, fewA a0 = a := ⟨_, rfl⟩
  have hg : RngA a := by
    rw [← ha]
    exact fun q hq => hg0 q (Nat.lt_of_lt_of_le hq (Nat.min_le_left _ _))
  refine AW_blk 0 rfl (B := bkV 50 arE a) (BLe.of_eq (by rw [← ha]; rfl)) ?_
  refine AW_seq ?_
  refine AW_all good (tr7 k) (tr7_ok hk) rfl rfl ?_ ?_
  · repeat' (first | exact trivial | exact rfl | exact (fun _ _ => rfl) | refine And.intro ?_ ?_ | intro _)
    all_goals exact slOk_lit
  skip
  obtain ⟨L, hL⟩ : ∃ L, itmsL k a r = L := ⟨_, rfl⟩
  obtain ⟨okL, hokL⟩ : ∃ ok, itmsB k a r = ok := ⟨_, rfl⟩
  refine AW_slot 9 (y := .cv (.one (.imm (slI itE L)))) rfl (SLe.of_eq (by rw [← hL]; rfl)) ?_
  refine AW_slot 10 (y := .cv (ibool okL)) rfl (SLe.of_eq (by rw [← hokL]; rfl)) ?_
  refine AW_seq ?_
  refine AW_all good (tr7 k) (tr7_ok hk) rfl rfl ?_ ?_
  · repeat' (first | exact trivial | exact rfl | exact (fun _ _ => rfl) | refine And.intro ?_ ?_ | intro _)
    all_goals exact slOk_lit
  skip
  obtain ⟨M, hM⟩ : ∃ M, itmsL k a s = M := ⟨_, rfl⟩
  obtain ⟨okM, hokM⟩ : ∃ ok, itmsB k a s = ok := ⟨_, rfl⟩
  refine AW_slot 11 (y := .cv (.one (.imm (slI itE M)))) rfl (SLe.of_eq (by rw [← hM]; rfl)) ?_
  refine AW_slot 12 (y := .cv (ibool okM)) rfl (SLe.of_eq (by rw [← hokM]; rfl)) ?_
  refine AW_seq ?_
  refine AW_seq ?_
  refine AW_all good (tr7 k) (tr7_ok hk) rfl rfl ?_ ?_
  · repeat' (first | exact trivial | exact rfl | exact (fun _ _ => rfl) | refine And.intro ?_ ?_ | intro _)
    all_goals (first | assumption | (rename_i hg; exact eqf hg))
  refine AW_cond rfl (fun h1 => ?_) (fun h1 => ?_)
  · first
    | (exfalso; simp_all; done)
    | (
        refine AW_seq ?_
        refine AW_all good (tr7 k) (tr7_ok hk) rfl rfl ?_ ?_
        · repeat' (first | exact trivial | exact rfl | exact (fun _ _ => rfl) | refine And.intro ?_ ?_ | intro _)
        refine AW_ret (bodyQ_ret rfl ?_ (Ends.le rfl ?_ ?_))
        · repeat' (first | exact trivial | exact rfl | exact (fun _ _ => rfl) | refine And.intro ?_ ?_ | intro _)
        · repeat' (first | exact trivial | exact rfl | exact (fun _ _ => rfl) | refine And.intro ?_ ?_ | intro _)
        first | exact SLe.of_eq rfl | (rw [alive_true]; exact SLe.of_eq rfl)
    )
  · first
    | (exfalso; simp_all; done)
    | (
        refine AW_skip ?_
        refine AW_seq ?_
        have hoff : okL = true ∧ okM = true := by
          cases okL <;> cases okM <;> simp_all
        obtain ⟨rfl, rfl⟩ := hoff
        have hT := makes_ok hk hg hr hs x hokL hokM
        rw [hL, hM] at hT
        have hA512 := hT.nodes
        have hLn := hT.ln
        have hMn := hT.mn
        have hL512 : L.n ≤ 512 := by omega
        refine AW_freeze 0 rfl rfl ?_
        refine AW_all good (tr7 k) (tr7_ok hk) rfl rfl ?_ ?_
        · repeat' (first | exact trivial | exact rfl | exact (fun _ _ => rfl) | refine And.intro ?_ ?_ | intro _)
        refine AW_seq ?_
        refine AW_all good (tr7 k) (tr7_ok hk) rfl rfl ?_ ?_
        · repeat' (first | exact trivial | exact rfl | exact (fun _ _ => rfl) | refine And.intro ?_ ?_ | intro _)
          all_goals exact slOk_lit
        skip
        obtain ⟨q, hq⟩ : ∃ q, insA a r x = q := ⟨_, rfl⟩
        refine AW_blk 3 rfl (B := bkV 50 arE q.1) (BLe.of_eq (by rw [← hq]; rfl)) ?_
        refine AW_slot 15 (y := .cv (u64 q.2.1)) rfl (SLe.of_eq (by rw [← hq]; rfl)) ?_
        refine AW_slot 16 (y := .cv (iint q.2.2)) rfl (SLe.of_eq (by rw [← hq]; rfl)) ?_
        have i5 := hT.ins5
        have iN := hT.ins
        rw [hq] at i5 iN
        refine AW_seq ?_
        refine AW_seq ?_
        refine AW_all good (tr7 k) (tr7_ok hk) rfl rfl ?_ ?_
        · repeat' (first | exact trivial | exact rfl | exact (fun _ _ => rfl) | refine And.intro ?_ ?_ | intro _)
        refine AW_viaX [1, 2, 4, 9, 11, 13, 14] [3] (fun j : Unit => []) (fun j => []) (fun j => ?_) ?_
        · skip
          refine AW_seq ?_
          refine AW_all good (tr7 k) (tr7_ok hk) rfl rfl ?_ ?_
          · repeat' (first | exact trivial | exact rfl | exact (fun _ _ => rfl) | refine And.intro ?_ ?_ | intro _)
            all_goals (first | exact Nat.le_refl _ | (unfold maxLen; omega) | exact bytes_ok (by omega) (by decide))
          refine AW_seq ?_
          refine AW_seq ?_
          refine AW_frzS 17 6 rfl rfl (Nat.le_refl _) ?_
          refine AW_slot 17 (y := .cv (.one (.imm (slI itE L)))) rfl (SLe.cv (CLe.imm (ILe.sl (Nat.zero_add _).symm (by simp) (.inr ⟨rfl, fun i j hi hj => ILe.of_eq rfl⟩)))) ?_
          refine AW_all good (tr7 k) (tr7_ok hk) rfl rfl ?_ ?_
          · repeat' (first | exact trivial | exact rfl | exact (fun _ _ => rfl) | refine And.intro ?_ ?_ | intro _)
          refine AW_block ?_
          refine AW_loopX [1, 2, 4, 9, 13, 14, 83, 84] [3] (fun j : { i : Nat // i ≤ M.n } => [(85, .cv (iint j.1)), (17, .cv (.one (.imm (slI itE (allR L M j.1)))))]) (fun j => []) (fun j => M.n - j.1) ⟨0, Nat.zero_le _⟩ ⟨SLe.of_eq rfl, SLe.of_eq rfl, trivial⟩ trivial ?_
          rintro ⟨i, hi⟩
          dsimp only at hi ⊢
          have hrn : (allR L M i).n ≤ 512 := by rw [allR_n]; omega
          refine AW_seq ?_
          refine AW_all good (tr7 k) (tr7_ok hk) rfl rfl ?_ ?_
          · repeat' (first | exact trivial | exact rfl | exact (fun _ _ => rfl) | refine And.intro ?_ ?_ | intro _)
          refine AW_seq ?_
          refine AW_cond rfl (fun h2 => ?_) (fun h2 => ?_)
          · first
            | (exfalso; simp_all; done)
            | (
                refine AW_skip ?_
                refine AW_seq ?_
                refine AW_block ?_
                refine AW_seq ?_
                have hlt : i < M.n := by
                  have h : (i : Int) < (M.n : Int) := of_decide_eq_true (by assumption)
                  omega
                refine AW_all good (tr7 k) (tr7_ok hk) rfl rfl ?_ ?_
                · repeat' (first | exact trivial | exact rfl | exact (fun _ _ => rfl) | refine And.intro ?_ ?_ | intro _)
                  all_goals omega
                skip
                obtain ⟨z, hz⟩ : ∃ z, M.at_ i = z := ⟨_, rfl⟩
                refine AW_blk 7 rfl (B := bkV 54 itE z) (BLe.of_eq (by rw [← hz]; rfl)) ?_
                refine AW_all good (tr7 k) (tr7_ok hk) rfl rfl ?_ ?_
                · repeat' (first | exact trivial | exact rfl | exact (fun _ _ => rfl) | refine And.intro ?_ ?_ | intro _)
                  all_goals (first | exact hrn | exact slOk_lit)
                skip
                refine AW_slot 17 (y := .cv (.one (.imm (slI itE (allR L M (i + 1)))))) rfl (SLe.of_eq ?_) ?_
                · show SV.cv (.one (.imm (slI itE (withI (allR L M i) z)))) = _
                  rw [← hz]
                  rfl
                refine AW_all good (tr7 k) (tr7_ok hk) rfl rfl ?_ ?_
                · repeat' (first | exact trivial | exact rfl | exact (fun _ _ => rfl) | refine And.intro ?_ ?_ | intro _)
                refine loopX_next ⟨i + 1, hlt⟩ [0, 1, 2, 3, 4, 5, 6] rfl rfl ⟨SLe.of_eq (congrArg (fun z => SV.cv (iint z)) (succ_wrap (by omega))), SLe.of_eq rfl, trivial⟩ ⟨SLe.of_eq rfl, SLe.of_eq rfl, SLe.of_eq rfl, SLe.of_eq rfl, SLe.cv (CLe.fn (fun i hi => absurd hi (Nat.not_lt_zero i)) (fun i hi => by cases i with | zero => exact CLe.refl _ | succ q => exact absurd hi (Nat.not_lt_zero q ∘ Nat.lt_of_succ_lt_succ))), SLe.of_eq rfl, SLe.of_eq rfl, SLe.of_eq rfl, trivial⟩ trivial ⟨⟨rfl, _, _, rfl, rfl, BLe.of_eq rfl⟩, trivial⟩ ?_
                show M.n - (i + 1) < M.n - i
                omega
            )
          · first
            | (exfalso; simp_all; done)
            | (
                refine AW_exit ?_
                refine AW_seq ?_
                have hend : i = M.n := by
                  have h : ¬ (i : Int) < (M.n : Int) := of_decide_eq_false (by assumption)
                  omega
                subst hend
                refine AW_all good (tr7 k) (tr7_ok hk) rfl rfl ?_ ?_
                · repeat' (first | exact trivial | exact rfl | exact (fun _ _ => rfl) | refine And.intro ?_ ?_ | intro _)
                  all_goals exact slOk_lit
                skip
                obtain ⟨w, hw⟩ : ∃ w, meldA a r s = w := ⟨_, rfl⟩
                refine AW_blk 3 rfl (B := bkV 50 arE w.1) (BLe.of_eq (by rw [← hw]; rfl)) ?_
                refine AW_slot 15 (y := .cv (u64 w.2.1)) rfl (SLe.of_eq (by rw [← hw]; rfl)) ?_
                refine AW_slot 16 (y := .cv (iint w.2.2)) rfl (SLe.of_eq (by rw [← hw]; rfl)) ?_
                have m5 := hT.meld5
                have mN := hT.meld
                rw [hw] at m5 mN
                refine AW_seq ?_
                refine AW_seq ?_
                obtain ⟨N, hN⟩ : ∃ N, allR L M M.n = N := ⟨_, rfl⟩
                refine AW_slot 17 (y := .cv (.one (.imm (slI itE N)))) rfl (SLe.of_eq (by rw [← hN]; rfl)) ?_
                refine AW_all good (tr7 k) (tr7_ok hk) rfl rfl ?_ ?_
                · repeat' (first | exact trivial | exact rfl | exact (fun _ _ => rfl) | refine And.intro ?_ ?_ | intro _)
                  all_goals (first | exact slOk_lit | assumption | (rename_i hg; exact eqf hg))
                skip
                rw [hN] at m5 mN
                have hNn : N.n ≤ maxLen := by
                  rw [← hN, allR_n]
                  unfold maxLen
                  omega
                refine AW_viaX [1, 4, 9, 13, 14] [3] (fun j : Unit => []) (fun j => []) (fun j => ?_) ?_
                · skip
                  refine AW_seq ?_
                  refine AW_all good (tr7 k) (tr7_ok hk) rfl rfl ?_ ?_
                  · repeat' (first | exact trivial | exact rfl | exact (fun _ _ => rfl) | refine And.intro ?_ ?_ | intro _)
                    all_goals exact slOk_lit
                  skip
                  obtain ⟨q, hq⟩ : ∃ q, popC a r = q := ⟨_, rfl⟩
                  obtain ⟨y, hy⟩ : ∃ y, popX a r = y := ⟨_, rfl⟩
                  refine AW_blk 3 rfl (B := bkV 50 arE q.1) (BLe.of_eq (by rw [← hq]; rfl)) ?_
                  refine AW_blk 8 rfl (B := bkV 54 itE y) (BLe.of_eq (by rw [← hy]; rfl)) ?_
                  refine AW_slot 15 (y := .cv (u64 q.2.1)) rfl (SLe.of_eq (by rw [← hq]; rfl)) ?_
                  refine AW_slot 16 (y := .cv (iint q.2.2.1)) rfl (SLe.of_eq (by rw [← hq]; rfl)) ?_
                  have p0 := hT.pop0
                  have pN := hT.pop
                  rw [hq, hy] at p0 pN
                  refine AW_seq ?_
                  refine AW_seq ?_
                  refine AW_all good (tr7 k) (tr7_ok hk) rfl rfl ?_ ?_
                  · repeat' (first | exact trivial | exact rfl | exact (fun _ _ => rfl) | refine And.intro ?_ ?_ | intro _)
                  refine AW_cond rfl (fun h3 => ?_) (fun h3 => ?_)
                  · first
                    | (exfalso; simp_all; done)
                    | (
                        refine AW_seq ?_
                        have hL0 : L.n = 0 := by
                          have : ((L.n : Int) == 0) = true := by assumption
                          have : (L.n : Int) = 0 := by simpa using this
                          omega
                        obtain ⟨z1, z2⟩ := p0 hL0
                        refine AW_all good (tr7 k) (tr7_ok hk) rfl rfl ?_ ?_
                        · repeat' (first | exact trivial | exact rfl | exact (fun _ _ => rfl) | refine And.intro ?_ ?_ | intro _)
                          all_goals (first | assumption | (rename_i hg; exact eqt hg))
                        skip
                        refine AW_slot 8 (y := .cv (ibool true)) rfl (SLe.of_eq ?_) ?_
                        · show SV.cv (ibool (bif (bif aliveB then (q.2.2.1 == 3) else false) then itEq y it0 else false)) = _
                          rw [alive_true, z1, z2, itEq_iff.2 rfl]
                          rfl
                        refine AW_ret (bodyQ_ret rfl ?_ (Ends.le rfl ?_ ?_))
                        · repeat' (first | exact trivial | exact rfl | exact (fun _ _ => rfl) | refine And.intro ?_ ?_ | intro _)
                        · repeat' (first | exact trivial | exact rfl | exact (fun _ _ => rfl) | refine And.intro ?_ ?_ | intro _)
                        first | exact SLe.of_eq rfl | (rw [alive_true]; exact SLe.of_eq rfl)
                    )
                  · first
                    | (exfalso; simp_all; done)
                    | (
                        refine AW_skip ?_
                        refine AW_seq ?_
                        have hL0 : 0 < L.n := by
                          have : ((L.n : Int) == 0) = false := by assumption
                          have : ¬ (L.n : Int) = 0 := by simpa using this
                          omega
                        refine AW_drwG good rfl (tr7 k) (tr7_ok hk) et0 (et0_ok _) [] [0, 1, 3, 7, 15, 31, 31, 95, 223, 511, 1023, 2047, 4095, 4095, 4095, 4095, 36863, 131071, 262143, 524287, 1048575, 2097151, 4194303, 8388607, 8388607, 25165823, 58720255, 134217727, 268435455, 536870911, 1073741823, 1073741823, 4294967295, 8589934591, 17179869183, 34359738367, 68719476735] [false, false, false, false, false, false, false, false, false, false, false, false, false, false, false, false, false, false, false, false, false, false, false, false, false, false, false, false, false, false, false, false, false, false, false, false, false] (by rfl) (by rfl) rfl (by rfl) (by rfl) ?_ ?_ ?_
                        · repeat' (first | exact trivial | exact rfl | exact (fun _ _ => rfl) | refine And.intro ?_ ?_ | intro _)
                          all_goals (first | exact hA512 | omega | exact slOk_lit | exact slOk_f | assumption | (rename_i hg; exact eqt hg) | (refine andt ?_ ?_ <;> first | assumption | exact eqf (by assumption) | exact eqt (by assumption)))
                        · repeat' (first | refine And.intro ?_ ?_ | exact trivial | exact rfl | intro _)
                          all_goals (first | exact hA512 | omega | exact slOk_lit | exact slOk_f | assumption)
                        skip
                        refine AW_slot 8 (y := .cv (ibool true)) rfl (SLe.of_eq ?_) ?_
                        · show SV.cv (ibool (bif aliveB then lastB q.2.2.1 y (L.at_ 0) (isB k a q.1 q.2.1 (tailI L)) (fewB a (IntKind.i64.wrap ((L.n : Int) - 1))) else false)) = _
                          rw [alive_true, pN hL0]
                          rfl
                        refine AW_ret (bodyQ_ret rfl ?_ (Ends.le rfl ?_ ?_))
                        · repeat' (first | exact trivial | exact rfl | exact (fun _ _ => rfl) | refine And.intro ?_ ?_ | intro _)
                        · repeat' (first | exact trivial | exact rfl | exact (fun _ _ => rfl) | refine And.intro ?_ ?_ | intro _)
                        first | exact SLe.of_eq rfl | (rw [alive_true]; exact SLe.of_eq rfl)
                    )
                refine AW_cond rfl (fun h4 => ?_) (fun h4 => ?_)
                · first
                  | (exfalso; simp_all; done)
                  | (
                      refine AW_seq ?_
                      refine AW_slot 16 (y := .cv (iint 5)) rfl (SLe.of_eq ?_) ?_
                      · show SV.cv (iint w.2.2) = _
                        rw [m5 (by assumption)]
                      refine AW_all good (tr7 k) (tr7_ok hk) rfl rfl ?_ ?_
                      · repeat' (first | exact trivial | exact rfl | exact (fun _ _ => rfl) | refine And.intro ?_ ?_ | intro _)
                      refine AW_cond rfl (fun h5 => ?_) (fun h5 => ?_)
                      · first
                        | (exfalso; simp_all; done)
                        | (
                            refine AW_seq ?_
                            refine AW_all good (tr7 k) (tr7_ok hk) rfl rfl ?_ ?_
                            · repeat' (first | exact trivial | exact rfl | exact (fun _ _ => rfl) | refine And.intro ?_ ?_ | intro _)
                            refine AW_ret (bodyQ_ret rfl ?_ (Ends.le rfl ?_ ?_))
                            · repeat' (first | exact trivial | exact rfl | exact (fun _ _ => rfl) | refine And.intro ?_ ?_ | intro _)
                            · repeat' (first | exact trivial | exact rfl | exact (fun _ _ => rfl) | refine And.intro ?_ ?_ | intro _)
                            first | exact SLe.of_eq rfl | (rw [alive_true]; exact SLe.of_eq rfl)
                        )
                      · first
                        | (exfalso; simp_all; done)
                        | (
                            refine AW_skip ?_
                            refine joinX_end () [0, 1, 2, 3, 4, 5, 6, 7] rfl rfl trivial ⟨SLe.of_eq rfl, SLe.of_eq rfl, SLe.of_eq rfl, SLe.cv (CLe.fn (fun i hi => absurd hi (Nat.not_lt_zero i)) (fun i hi => by cases i with | zero => exact CLe.refl _ | succ q => exact absurd hi (Nat.not_lt_zero q ∘ Nat.lt_of_succ_lt_succ))), SLe.of_eq rfl, trivial⟩ trivial ⟨⟨rfl, _, _, rfl, rfl, BLe.of_eq rfl⟩, trivial⟩
                        )
                  )
                · first
                  | (exfalso; simp_all; done)
                  | (
                      refine AW_seq ?_
                      refine AW_all good (tr7 k) (tr7_ok hk) rfl rfl ?_ ?_
                      · repeat' (first | exact trivial | exact rfl | exact (fun _ _ => rfl) | refine And.intro ?_ ?_ | intro _)
                        all_goals (first | exact hA512 | exact slOk_lit | assumption | (rename_i hg; exact eqt hg) | (refine andt ?_ ?_ <;> first | assumption | exact eqf (by assumption) | exact eqt (by assumption)))
                      skip
                      refine AW_slot 133 (y := .cv (ibool false)) rfl (SLe.of_eq ?_) ?_
                      · show SV.cv (ibool (notB w.2.2 (isB k a w.1 w.2.1 N) (fewB a N.n))) = _
                        rw [mN (by assumption)]
                      refine AW_cond rfl (fun h6 => ?_) (fun h6 => ?_)
                      · first
                        | (exfalso; simp_all; done)
                        | (
                            refine AW_seq ?_
                            refine AW_all good (tr7 k) (tr7_ok hk) rfl rfl ?_ ?_
                            · repeat' (first | exact trivial | exact rfl | exact (fun _ _ => rfl) | refine And.intro ?_ ?_ | intro _)
                            refine AW_ret (bodyQ_ret rfl ?_ (Ends.le rfl ?_ ?_))
                            · repeat' (first | exact trivial | exact rfl | exact (fun _ _ => rfl) | refine And.intro ?_ ?_ | intro _)
                            · repeat' (first | exact trivial | exact rfl | exact (fun _ _ => rfl) | refine And.intro ?_ ?_ | intro _)
                            first | exact SLe.of_eq rfl | (rw [alive_true]; exact SLe.of_eq rfl)
                        )
                      · first
                        | (exfalso; simp_all; done)
                        | (
                            refine AW_skip ?_
                            refine joinX_end () [0, 1, 2, 3, 4, 5, 6, 7] rfl rfl trivial ⟨SLe.of_eq rfl, SLe.of_eq rfl, SLe.of_eq rfl, SLe.cv (CLe.fn (fun i hi => absurd hi (Nat.not_lt_zero i)) (fun i hi => by cases i with | zero => exact CLe.refl _ | succ q => exact absurd hi (Nat.not_lt_zero q ∘ Nat.lt_of_succ_lt_succ))), SLe.of_eq rfl, trivial⟩ trivial ⟨⟨rfl, _, _, rfl, rfl, BLe.of_eq rfl⟩, trivial⟩
                        )
                  )
            )
        refine AW_cond rfl (fun h7 => ?_) (fun h7 => ?_)
        · first
          | (exfalso; simp_all; done)
          | (
              refine AW_seq ?_
              have h200 : L.n = 200 := by
                have : ((L.n : Int) == 200) = true := by assumption
                have : (L.n : Int) = 200 := by simpa using this
                omega
              refine AW_slot 16 (y := .cv (iint 5)) rfl (SLe.of_eq ?_) ?_
              · show SV.cv (iint q.2.2) = _
                rw [i5 h200]
              refine AW_all good (tr7 k) (tr7_ok hk) rfl rfl ?_ ?_
              · repeat' (first | exact trivial | exact rfl | exact (fun _ _ => rfl) | refine And.intro ?_ ?_ | intro _)
              refine AW_cond rfl (fun h8 => ?_) (fun h8 => ?_)
              · first
                | (exfalso; simp_all; done)
                | (
                    refine AW_seq ?_
                    refine AW_all good (tr7 k) (tr7_ok hk) rfl rfl ?_ ?_
                    · repeat' (first | exact trivial | exact rfl | exact (fun _ _ => rfl) | refine And.intro ?_ ?_ | intro _)
                    refine AW_ret (bodyQ_ret rfl ?_ (Ends.le rfl ?_ ?_))
                    · repeat' (first | exact trivial | exact rfl | exact (fun _ _ => rfl) | refine And.intro ?_ ?_ | intro _)
                    · repeat' (first | exact trivial | exact rfl | exact (fun _ _ => rfl) | refine And.intro ?_ ?_ | intro _)
                    first | exact SLe.of_eq rfl | (rw [alive_true]; exact SLe.of_eq rfl)
                )
              · first
                | (exfalso; simp_all; done)
                | (
                    refine AW_skip ?_
                    refine joinX_end () [0, 1, 2, 3, 4] rfl rfl trivial ⟨SLe.of_eq rfl, SLe.of_eq rfl, SLe.of_eq rfl, SLe.of_eq rfl, SLe.of_eq rfl, SLe.cv (CLe.fn (fun i hi => absurd hi (Nat.not_lt_zero i)) (fun i hi => by cases i with | zero => exact CLe.refl _ | succ q => exact absurd hi (Nat.not_lt_zero q ∘ Nat.lt_of_succ_lt_succ))), SLe.of_eq rfl, trivial⟩ trivial ⟨⟨rfl, _, _, rfl, rfl, BLe.of_eq rfl⟩, trivial⟩
                )
          )
        · first
          | (exfalso; simp_all; done)
          | (
              refine AW_seq ?_
              have h200 : L.n ≠ 200 := by
                have : ((L.n : Int) == 200) = false := by assumption
                have : ¬ (L.n : Int) = 200 := by simpa using this
                omega
              refine AW_drwG good rfl (tr7 k) (tr7_ok hk) et0 (et0_ok _) [] [0, 1, 3, 7, 7, 7, 7, 7, 199, 511, 1023, 2047, 4095, 8191, 16383, 32767, 65535, 65535, 196607, 458751, 1048575, 2097151, 4194303, 8388607] [false, false, false, false, false, false, false, false, false, false, false, false, false, false, false, false, false, false, false, false, false, false, false, false] (by rfl) (by rfl) rfl (by rfl) (by rfl) ?_ ?_ ?_
              · repeat' (first | exact trivial | exact rfl | exact (fun _ _ => rfl) | refine And.intro ?_ ?_ | intro _)
                all_goals (first | exact hA512 | exact hL512 | exact slOk_lit | assumption | (rename_i hg; exact eqt hg) | (refine andt ?_ ?_ <;> first | assumption | exact eqf (by assumption) | exact eqt (by assumption)))
              · repeat' (first | refine And.intro ?_ ?_ | exact trivial | exact rfl | intro _)
                all_goals (first | exact hA512 | exact hL512 | exact slOk_lit | assumption)
              skip
              refine AW_slot 79 (y := .cv (ibool false)) rfl (SLe.of_eq ?_) ?_
              · show SV.cv (ibool (notB q.2.2 (isB k a q.1 q.2.1 (withI L x)) (fewB a (IntKind.i64.wrap ((L.n : Int) + 1))))) = _
                rw [iN h200]
              refine AW_cond rfl (fun h9 => ?_) (fun h9 => ?_)
              · first
                | (exfalso; simp_all; done)
                | (
                    refine AW_seq ?_
                    refine AW_all good (tr7 k) (tr7_ok hk) rfl rfl ?_ ?_
                    · repeat' (first | exact trivial | exact rfl | exact (fun _ _ => rfl) | refine And.intro ?_ ?_ | intro _)
                    refine AW_ret (bodyQ_ret rfl ?_ (Ends.le rfl ?_ ?_))
                    · repeat' (first | exact trivial | exact rfl | exact (fun _ _ => rfl) | refine And.intro ?_ ?_ | intro _)
                    · repeat' (first | exact trivial | exact rfl | exact (fun _ _ => rfl) | refine And.intro ?_ ?_ | intro _)
                    first | exact SLe.of_eq rfl | (rw [alive_true]; exact SLe.of_eq rfl)
                )
              · first
                | (exfalso; simp_all; done)
                | (
                    refine AW_skip ?_
                    refine joinX_end () [0, 1, 2, 3, 4] rfl rfl trivial ⟨SLe.of_eq rfl, SLe.of_eq rfl, SLe.of_eq rfl, SLe.of_eq rfl, SLe.of_eq rfl, SLe.cv (CLe.fn (fun i hi => absurd hi (Nat.not_lt_zero i)) (fun i hi => by cases i with | zero => exact CLe.refl _ | succ q => exact absurd hi (Nat.not_lt_zero q ∘ Nat.lt_of_succ_lt_succ))), SLe.of_eq rfl, trivial⟩ trivial ⟨⟨rfl, _, _, rfl, rfl, BLe.of_eq rfl⟩, trivial⟩
                )
          )
    )

end Go.Proofs.Ytadgjhbhghhbgaa.Abs
