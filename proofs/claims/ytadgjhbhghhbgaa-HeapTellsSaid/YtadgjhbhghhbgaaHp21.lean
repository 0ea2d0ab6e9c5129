/-
  THE LAW HeapTells, AS IT IS WALKED: true all the way.
-/
import Derived.Test.YtadgjhbhghhbgaaHr
import Derived.Test.YtadgjhbhghhbgaaHq16
namespace Go.Proofs.Ytadgjhbhghhbgaa.Abs
open Go
set_option maxRecDepth 10000

theorem lawFew (a : Ar) : PCall Try.prog 25 [arC a] (.cv (arC (fewA a))) := by
  refine PCall_of (ACall_body good Try.func25 rfl 20 rfl (by simp) ?_)
  refine AW_seq ?_
  refine AW_all good tab0 (tab0_ok _) rfl rfl ?_ ?_
  · repeat' (first | exact trivial | exact rfl | exact (fun _ _ => rfl) | refine And.intro ?_ ?_ | intro _)
  refine AW_seq ?_
  refine AW_drwG good rfl tab0 (tab0_ok _) et0 (et0_ok _) [] [0, 1, 0, 4, 12, 28, 63, 0, 128, 0, 512, 1536, 3584, 8064, 2047, 18431, 65535, 131071] [false, false, false, false, false, false, false, false, false, false, false, false, false, false, false, true, false, true] (by rfl) (by rfl) rfl (by rfl) (by rfl) ?_ ?_ ?_
  · repeat' (first | exact trivial | exact rfl | exact (fun _ _ => rfl) | refine And.intro ?_ ?_ | intro _)
    all_goals omega
  · repeat' (first | refine And.intro ?_ ?_ | exact trivial | exact rfl | intro _)
    all_goals omega
  refine AW_seq ?_
  refine AW_all good tab0 (tab0_ok _) rfl rfl ?_ ?_
  · repeat' (first | exact trivial | exact rfl | exact (fun _ _ => rfl) | refine And.intro ?_ ?_ | intro _)
  refine AW_ret (bodyQ_ret rfl ?_ (Ends.le rfl ?_ ?_))
  · repeat' (first | exact trivial | exact rfl | exact (fun _ _ => rfl) | refine And.intro ?_ ?_ | intro _)
  · repeat' (first | exact trivial | exact rfl | exact (fun _ _ => rfl) | refine And.intro ?_ ?_ | intro _)
  refine SLe.cv (CLe.aggL ⟨CLe.imm (ILe.sl ?_ (by simp) (.inr ⟨rfl, fun i j _ _ => ILe.refl _⟩)), CLe.imm (ILe.sl ?_ (by simp) (.inr ⟨rfl, fun i j _ _ => ILe.refl _⟩)), trivial⟩)
  · show min a.nodes.n 60 = _
    split <;> omega
  · show min a.free.n 62 = _
    split <;> omega

noncomputable def tr6 (k : Nat) : Tab := tabC3 28 arA rI rI (fun a x y => .tup [arC (meldA a x y).1, u64 (meldA a x y).2.1, iint (meldA a x y).2.2]) (fun _ _ _ => True) (tabC1 25 arA (fun a => .cv (arC (fewA a))) (fun _ => True) (tr5 k))
theorem tr6_ok {k : Nat} (hk : 202 ≤ k) : TabOk Try.prog (tr6 k) := tabC3_ok rfl (fun a x y _ => heapMeld a x y) (tabC1_ok rfl (fun a _ => lawFew a) (tr5_ok hk))

set_option maxHeartbeats 2000000 in
theorem lawTells (k : Nat) (hk : 202 ≤ k) (a0 : Ar) (r : Int) (hr : RngK r) : PCall Try.prog 10 [arC a0, u64 r] (.cv (ibool true)) := by
  refine PCall_of (ACall_body good Try.func10 rfl 162 rfl (by simp) ?_)
  refine AW_seq ?_
  refine AW_all good (tr6 k) (tr6_ok hk) rfl rfl ?_ ?_
  · repeat' (first | exact trivial | exact rfl | exact (fun _ _ => rfl) | refine And.intro ?_ ?_ | intro _)
  refine AW_seq ?_
  refine AW_all good (tr6 k) (tr6_ok hk) rfl rfl ?_ ?_
  · repeat' (first | exact trivial | exact rfl | exact (fun _ _ => rfl) | refine And.intro ?_ ?_ | intro _)
    all_goals exact slOk_lit
  skip
  obtain ⟨a, ha⟩ : ∃ a, fewA a0 = a := ⟨_, rfl⟩
  refine AW_blk 0 rfl (B := bkV 50 arE a) (BLe.of_eq (by rw [← ha]; rfl)) ?_
  have hT := tells_ok hk (a := a) hr
  refine AW_seq ?_
  refine AW_all good (tr6 k) (tr6_ok hk) rfl rfl ?_ ?_
  · repeat' (first | exact trivial | exact rfl | exact (fun _ _ => rfl) | refine And.intro ?_ ?_ | intro _)
    all_goals exact slOk_lit
  skip
  obtain ⟨L, hL⟩ : ∃ L, itemsL a r = L := ⟨_, rfl⟩
  obtain ⟨e, he⟩ : ∃ e, itemsE a r = e := ⟨_, rfl⟩
  rw [hL, he] at hT
  refine AW_slot 5 (y := .cv (.one (.imm (slI itE L)))) rfl (SLe.of_eq (by rw [← hL]; rfl)) ?_
  refine AW_slot 6 (y := .cv (iint e)) rfl (SLe.of_eq (by rw [← he]; rfl)) ?_
  refine AW_seq ?_
  refine AW_all good (tr6 k) (tr6_ok hk) rfl rfl ?_ ?_
  · repeat' (first | exact trivial | exact rfl | exact (fun _ _ => rfl) | refine And.intro ?_ ?_ | intro _)
    all_goals exact slOk_lit
  skip
  refine AW_slot 7 (y := .cv (iint L.n)) rfl (SLe.of_eq (by rw [← hL]; rfl)) ?_
  refine AW_slot 8 (y := .cv (iint e)) rfl (SLe.of_eq (by rw [← he]; rfl)) ?_
  refine AW_seq ?_
  refine AW_all good (tr6 k) (tr6_ok hk) rfl rfl ?_ ?_
  · repeat' (first | exact trivial | exact rfl | exact (fun _ _ => rfl) | refine And.intro ?_ ?_ | intro _)
    all_goals exact slOk_lit
  skip
  obtain ⟨x, hx⟩ : ∃ x, minX a r = x := ⟨_, rfl⟩
  obtain ⟨g, hg⟩ : ∃ g, minE a r = g := ⟨_, rfl⟩
  rw [hx, hg] at hT
  refine AW_blk 2 rfl (B := bkV 54 itE x) (BLe.of_eq (by rw [← hx]; rfl)) ?_
  refine AW_slot 10 (y := .cv (iint g)) rfl (SLe.of_eq (by rw [← hg]; rfl)) ?_
  refine AW_seq ?_
  refine AW_all good (tr6 k) (tr6_ok hk) rfl rfl ?_ ?_
  · repeat' (first | exact trivial | exact rfl | exact (fun _ _ => rfl) | refine And.intro ?_ ?_ | intro _)
    all_goals exact slOk_lit
  skip
  obtain ⟨W, hW⟩ : ∃ W, itmsL k a r = W := ⟨_, rfl⟩
  obtain ⟨ok, hok⟩ : ∃ ok, itmsB k a r = ok := ⟨_, rfl⟩
  rw [hW, hok] at hT
  refine AW_slot 11 (y := .cv (.one (.imm (slI itE W)))) rfl (SLe.of_eq (by rw [← hW]; rfl)) ?_
  refine AW_slot 12 (y := .cv (ibool ok)) rfl (SLe.of_eq (by rw [← hok]; rfl)) ?_
  refine AW_seq ?_
  refine AW_seq ?_
  refine AW_all good (tr6 k) (tr6_ok hk) rfl rfl ?_ ?_
  · repeat' (first | exact trivial | exact rfl | exact (fun _ _ => rfl) | refine And.intro ?_ ?_ | intro _)
    all_goals (first | exact slOk_lit | assumption | (rename_i hg; exact eqf hg))
  skip
  refine AW_slot 58 (y := .cv (ibool false)) rfl (SLe.of_eq ?_) ?_
  · show SV.cv (ibool (bif (hpOk a r != ok) then true else !aliveB)) = _
    rw [hT.right, alive_true]
    simp
  refine AW_cond rfl (fun h1 => ?_) (fun h1 => ?_)
  · first
    | (exfalso; simp_all; done)
    | (
        refine AW_seq ?_
        refine AW_all good (tr6 k) (tr6_ok hk) rfl rfl ?_ ?_
        · repeat' (first | exact trivial | exact rfl | exact (fun _ _ => rfl) | refine And.intro ?_ ?_ | intro _)
        refine AW_ret (bodyQ_ret rfl ?_ (Ends.le rfl ?_ ?_))
        · repeat' (first | exact trivial | exact rfl | exact (fun _ _ => rfl) | refine And.intro ?_ ?_ | intro _)
        · repeat' (first | exact trivial | exact rfl | exact (fun _ _ => rfl) | refine And.intro ?_ ?_ | intro _)
        exact SLe.of_eq rfl
    )
  · first
    | (exfalso; simp_all; done)
    | (
        refine AW_skip ?_
        refine AW_seq ?_
        refine AW_seq ?_
        refine AW_all good (tr6 k) (tr6_ok hk) rfl rfl ?_ ?_
        · repeat' (first | exact trivial | exact rfl | exact (fun _ _ => rfl) | refine And.intro ?_ ?_ | intro _)
        refine AW_cond rfl (fun h2 => ?_) (fun h2 => ?_)
        · first
          | (exfalso; simp_all; done)
          | (
              refine AW_seq ?_
              have hk0 : ok = false := by simpa using h2
              obtain ⟨rfl, hL0, rfl, rfl, hI, hM, hP⟩ := hT.no hk0
              subst hk0
              refine AW_all good (tr6 k) (tr6_ok hk) rfl rfl ?_ ?_
              · repeat' (first | exact trivial | exact rfl | exact (fun _ _ => rfl) | refine And.intro ?_ ?_ | intro _)
                all_goals exact slOk_lit
              skip
              refine AW_slot 15 (y := .cv (iint 1)) rfl (SLe.of_eq (by rw [← hI it0]; rfl)) ?_
              refine AW_seq ?_
              refine AW_all good (tr6 k) (tr6_ok hk) rfl rfl ?_ ?_
              · repeat' (first | exact trivial | exact rfl | exact (fun _ _ => rfl) | refine And.intro ?_ ?_ | intro _)
                all_goals exact slOk_lit
              skip
              refine AW_slot 18 (y := .cv (iint 1)) rfl (SLe.of_eq (by rw [← hM]; rfl)) ?_
              refine AW_seq ?_
              refine AW_all good (tr6 k) (tr6_ok hk) rfl rfl ?_ ?_
              · repeat' (first | exact trivial | exact rfl | exact (fun _ _ => rfl) | refine And.intro ?_ ?_ | intro _)
                all_goals exact slOk_lit
              skip
              refine AW_slot 22 (y := .cv (iint 1)) rfl (SLe.of_eq (by rw [← hP]; rfl)) ?_
              refine AW_seq ?_
              refine AW_all good (tr6 k) (tr6_ok hk) rfl rfl ?_ ?_
              · repeat' (first | exact trivial | exact rfl | exact (fun _ _ => rfl) | refine And.intro ?_ ?_ | intro _)
              refine AW_seq ?_
              refine AW_all good (tr6 k) (tr6_ok hk) rfl rfl ?_ ?_
              · repeat' (first | exact trivial | exact rfl | exact (fun _ _ => rfl) | refine And.intro ?_ ?_ | intro _)
                all_goals (first | assumption | (rename_i hg; exact eqt hg))
              skip
              refine AW_slot 4 (y := .cv (ibool true)) rfl (SLe.of_eq ?_) ?_
              · show SV.cv (ibool (bif (bif ((L.n : Int) == 0) then ((L.n : Int) == 0) else false) then true else false)) = _
                rw [hL0]
                rfl
              refine AW_ret (bodyQ_ret rfl ?_ (Ends.le rfl ?_ ?_))
              · repeat' (first | exact trivial | exact rfl | exact (fun _ _ => rfl) | refine And.intro ?_ ?_ | intro _)
              · repeat' (first | exact trivial | exact rfl | exact (fun _ _ => rfl) | refine And.intro ?_ ?_ | intro _)
              exact SLe.of_eq rfl
          )
        · first
          | (exfalso; simp_all; done)
          | (
              refine AW_skip ?_
              refine AW_seq ?_
              refine AW_seq ?_
              have hk1 : ok = true := by simpa using h2
              obtain ⟨rfl, hS, hn, hz, hp⟩ := hT.yes hk1
              refine AW_all good (tr6 k) (tr6_ok hk) rfl rfl ?_ ?_
              · repeat' (first | exact trivial | exact rfl | exact (fun _ _ => rfl) | refine And.intro ?_ ?_ | intro _)
                all_goals (first | exact slOk_lit | assumption | (rename_i hg; exact eqf hg))
              skip
              refine AW_slot 143 (y := .cv (ibool false)) rfl (SLe.of_eq ?_) ?_
              · show SV.cv (ibool (bif (!sameI L W) then true else ((L.n : Int) != W.n))) = _
                rw [hS, hn]
                simp
              refine AW_cond rfl (fun h3 => ?_) (fun h3 => ?_)
              · first
                | (exfalso; simp_all; done)
                | (
                    refine AW_seq ?_
                    refine AW_all good (tr6 k) (tr6_ok hk) rfl rfl ?_ ?_
                    · repeat' (first | exact trivial | exact rfl | exact (fun _ _ => rfl) | refine And.intro ?_ ?_ | intro _)
                    refine AW_ret (bodyQ_ret rfl ?_ (Ends.le rfl ?_ ?_))
                    · repeat' (first | exact trivial | exact rfl | exact (fun _ _ => rfl) | refine And.intro ?_ ?_ | intro _)
                    · repeat' (first | exact trivial | exact rfl | exact (fun _ _ => rfl) | refine And.intro ?_ ?_ | intro _)
                    exact SLe.of_eq rfl
                )
              · first
                | (exfalso; simp_all; done)
                | (
                    refine AW_skip ?_
                    refine AW_seq ?_
                    refine AW_seq ?_
                    refine AW_all good (tr6 k) (tr6_ok hk) rfl rfl ?_ ?_
                    · repeat' (first | exact trivial | exact rfl | exact (fun _ _ => rfl) | refine And.intro ?_ ?_ | intro _)
                    refine AW_cond rfl (fun h4 => ?_) (fun h4 => ?_)
                    · first
                      | (exfalso; simp_all; done)
                      | (
                          refine AW_seq ?_
                          have hL0 : L.n = 0 := by
                            have : ((L.n : Int) == 0) = true := by assumption
                            have : (L.n : Int) = 0 := by simpa using this
                            omega
                          obtain ⟨rfl, rfl⟩ := hz hL0
                          refine AW_all good (tr6 k) (tr6_ok hk) rfl rfl ?_ ?_
                          · repeat' (first | exact trivial | exact rfl | exact (fun _ _ => rfl) | refine And.intro ?_ ?_ | intro _)
                          refine AW_ret (bodyQ_ret rfl ?_ (Ends.le rfl ?_ ?_))
                          · repeat' (first | exact trivial | exact rfl | exact (fun _ _ => rfl) | refine And.intro ?_ ?_ | intro _)
                          · repeat' (first | exact trivial | exact rfl | exact (fun _ _ => rfl) | refine And.intro ?_ ?_ | intro _)
                          exact SLe.of_eq rfl
                      )
                    · first
                      | (exfalso; simp_all; done)
                      | (
                          refine AW_skip ?_
                          refine AW_seq ?_
                          have hL0 : 0 < L.n := by
                            have : ((L.n : Int) == 0) = false := by assumption
                            have : ¬ (L.n : Int) = 0 := by simpa using this
                            omega
                          obtain ⟨rfl, rfl⟩ := hp hL0
                          have hW0 : 0 < W.n := by omega
                          refine AW_drwG good rfl (tr6 k) (tr6_ok hk) et0 (et0_ok _) [] [0, 1, 3, 7, 7, 23, 55, 127, 255, 511] [false, false, false, false, false, false, false, false, false, false] (by rfl) (by rfl) rfl (by rfl) (by rfl) ?_ ?_ ?_
                          · repeat' (first | exact trivial | exact rfl | exact (fun _ _ => rfl) | refine And.intro ?_ ?_ | intro _)
                            all_goals omega
                          · repeat' (first | refine And.intro ?_ ?_ | exact trivial | exact rfl | intro _)
                          skip
                          refine AW_slot 4 (y := .cv (ibool true)) rfl (SLe.of_eq ?_) ?_
                          · show SV.cv (ibool (itEq (W.at_ 0) (W.at_ 0))) = _
                            rw [itEq_iff.2 rfl]
                          refine AW_ret (bodyQ_ret rfl ?_ (Ends.le rfl ?_ ?_))
                          · repeat' (first | exact trivial | exact rfl | exact (fun _ _ => rfl) | refine And.intro ?_ ?_ | intro _)
                          · repeat' (first | exact trivial | exact rfl | exact (fun _ _ => rfl) | refine And.intro ?_ ?_ | intro _)
                          exact SLe.of_eq rfl
                      )
                )
          )
    )

end Go.Proofs.Ytadgjhbhghhbgaa.Abs
