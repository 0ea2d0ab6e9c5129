/-
  THE CONTRACTS OF PACKAGE heap: Items, Size; of the reference: Same.
-/
import Derived.Test.YtadgjhbhghhbgaaHp7
import Derived.Test.YtadgjhbhghhbgaaHs3
namespace Go.Proofs.Ytadgjhbhghhbgaa.Abs
open Go
set_option maxRecDepth 10000

/-- Sorting a row of ours, as it is met. -/
noncomputable def spSort : Spec := fun a0 Bs => match a0, Bs with
  | [.one (.osl 0 e 0 0 n _), .one (.fn (.func g) 0 _ 0 _)], [B] => bif Nat.beq e 2 && Nat.beq g 57 then match decR 54 itE B with
    | some (s, p) => some (.tup [], [(0, some (bkR 54 itE (sortS s)))], 0, p ∧ (n = s.n ∧ s.n < 4611686018427387904))
    | none => none
    else none
  | _, _ => none
theorem spSort_ok : SpecOk Try.prog 56 spSort := by
  intro a0 Bs r' U n' vc hs hv
  unfold spSort at hs
  split at hs
  · rename_i e n app g f1 f2 B
    cases hb : (Nat.beq e 2 && Nat.beq g 57) with
    | false => rw [hb] at hs; cases hs
    | true =>
      rw [hb] at hs
      simp only [cond_true] at hs
      rw [Bool.and_eq_true] at hb
      obtain rfl := Nat.eq_of_beq_eq_true hb.1
      obtain rfl := Nat.eq_of_beq_eq_true hb.2
      split at hs
      · rename_i s p hd
        simp only [Option.some.injEq, Prod.mk.injEq] at hs
        obtain ⟨rfl, rfl, rfl, rfl⟩ := hs
        obtain ⟨q0, rfl, q1⟩ := hv
        exact ⟨_, [bkR 54 itE s], TLe.cons (CLe.refl _) (TLe.cons (CLe.fn (fun i hi => absurd hi (Nat.not_lt_zero i)) fun i hi => absurd hi (Nat.not_lt_zero i)) TLe.nil), ⟨decR_le hd q0, trivial⟩, sortCall s app q1⟩
      · cases hs
  · cases hs
noncomputable def eSort : ETab := etC 56 spSort et0
theorem eSort_ok : ETabOk Try.prog eSort := etC_ok rfl spSort_ok (et0_ok _)
/-- All places that are met are nodes'. -/
def VIn (a : Ar) (st : VS) : Prop := ∀ i, i < st.2.n → 0 ≤ st.2.at_ i ∧ st.2.at_ i < a.nodes.n
theorem foldl_vin {a : Ar} {f : VS → Int → VS} (hf : ∀ st q, VIn a st → VIn a (f st q)) : ∀ (l : List Int) (st : VS), VIn a st → VIn a (l.foldl f st)
  | [], _, h => h
  | x :: l, st, h => foldl_vin hf l _ (hf st x h)
theorem reF_vin (a : Ar) : ∀ (k : Nat) (r : Int) (st : VS), VIn a st → VIn a (reF a k r st)
  | 0, _, _, h => h
  | k + 1, r, st, h => by
    unfold reF
    cases hv : visBad a r st.1 with
    | true => exact h
    | false =>
      refine foldl_vin (fun st q => reF_vin a k q st) _ _ fun i hi => ?_
      have hi : i < st.2.n + 1 := hi
      obtain ⟨h1, h2, _⟩ := vis_in hv
      show 0 ≤ (bif Nat.blt i st.2.n then st.2.at_ i else plOf r) ∧ (bif Nat.blt i st.2.n then st.2.at_ i else plOf r) < a.nodes.n
      rcases Nat.lt_or_ge i st.2.n with hl | hl
      · rw [blt_t hl]
        exact h i hl
      · rw [blt_f hl]
        exact ⟨h1, h2⟩
theorem rootsF_vin (a : Ar) (f : Nat → Int) : ∀ i, VIn a (rootsF a f i)
  | 0 => fun i hi => absurd hi (Nat.not_lt_zero i)
  | i + 1 => reF_vin a _ _ _ (rootsF_vin a f i)
theorem reach_in (a : Ar) (l : Sl Int) (i : Nat) (hi : i < (reachL a l).n) : 0 ≤ (reachL a l).at_ i ∧ (reachL a l).at_ i < a.nodes.n := by
  rw [reachL_eq] at hi ⊢
  unfold reachR at hi ⊢
  cases h : rightB a with
  | true => rw [h] at hi; exact rootsF_vin a l.at_ l.n i hi
  | false => rw [h] at hi; exact absurd hi (Nat.not_lt_zero i)
theorem reach_le (a : Ar) (l : Sl Int) (h : rightB a = true) : (reachL a l).n ≤ 512 := by
  rw [reachL_eq]
  unfold reachR
  rw [h]
  have h1 := (rootsF_vle a l.at_ l.n).2
  have h2 := cntB_lt (fun _ => false) a.nodes.n
  have h3 := (right_facts h).1.2.1
  dsimp only at h1
  show (rootsF a l.at_ l.n).2.n ≤ 512
  omega
/-- The items at places. -/
def rowI (a : Ar) (l : Sl Int) : Sl Item := ⟨l.n, fun i => itmOf (a.nodes.at_ (l.at_ i).toNat)⟩
def itemsE (a : Ar) (r : Int) : Int := bif (bif (reachE a != 0) then true else !hpOk a r) then 1 else 0
noncomputable def itemsL (a : Ar) (r : Int) : Sl Item := bif (bif (reachE a != 0) then true else !hpOk a r) then ⟨0, fun _ => it0⟩ else sortS (rowI a (reachL a (lst [r])))
theorem item_row {f : Nat → Item} {i q j : Nat} (hq : q < i + 1) (hj : j < 2) : (bif Nat.blt q i then itE.f (f q) j else (itL (f i)).getD (plusN 0 (q - i) * 2 + j) ivDef) = itE.f (f q) j := by
  rcases Nat.lt_or_ge q i with h | h
  · rw [blt_t h]
    rfl
  · obtain rfl : q = i := by omega
    rw [blt_f (Nat.le_refl _), Nat.sub_self]
    match j, hj with
    | 0, _ => rfl
    | 1, _ => rfl

set_option maxHeartbeats 1000000 in
theorem heapItems (a : Ar) (r : Int) : PCall Try.prog 31 [arC a, u64 r] (.tup [.one (.imm (slI itE (itemsL a r))), iint (itemsE a r)]) := by
  refine PCall_of (ACall_body good Try.func31 rfl 45 rfl (by simp) ?_)
  refine AW_seq ?_
  refine AW_eff good th10 (th10_ok) eSort (eSort_ok) [0] rfl rfl ?_ ?_
  · repeat' (first | exact trivial | exact rfl | exact (fun _ _ => rfl) | refine And.intro ?_ ?_ | intro _)
  refine AW_seq ?_
  refine AW_eff good th10 (th10_ok) eSort (eSort_ok) [2] rfl rfl ?_ ?_
  · repeat' (first | exact trivial | exact rfl | exact (fun _ _ => rfl) | refine And.intro ?_ ?_ | intro _)
    all_goals (first | exact one_ok | omega | exact slOk_lit)
  obtain ⟨L, hL⟩ : ∃ q, reachL a (lst [r]) = q := ⟨_, rfl⟩
  refine AW_slot 6 (y := .cv (.one (.imm (slI intE L)))) rfl (SLe.of_eq (congrArg (fun q => SV.cv (.one (.imm (slI intE q)))) ((reach_one rfl).trans hL))) ?_
  refine AW_seq ?_
  refine AW_seq ?_
  refine AW_all good th10 (th10_ok) rfl rfl ?_ ?_
  · repeat' (first | exact trivial | exact rfl | exact (fun _ _ => rfl) | refine And.intro ?_ ?_ | intro _)
    all_goals (first | exact slOk_lit | assumption | (rename_i hg; exact eqf hg))
  refine AW_cond rfl (fun h1 => ?_) (fun h1 => ?_)
  · first
    | (exfalso; simp_all; done)
    | (
        refine AW_seq ?_
        refine AW_all good th10 (th10_ok) rfl rfl ?_ ?_
        · repeat' (first | exact trivial | exact rfl | exact (fun _ _ => rfl) | refine And.intro ?_ ?_ | intro _)
        refine AW_ret (bodyQ_ret rfl ?_ (Ends.le rfl ?_ ?_))
        · repeat' (first | exact trivial | exact rfl | exact (fun _ _ => rfl) | refine And.intro ?_ ?_ | intro _)
        · repeat' (first | exact trivial | exact rfl | exact (fun _ _ => rfl) | refine And.intro ?_ ?_ | intro _)
        have hno : (bif (reachE a != 0) then true else !hpOk a r) = true := h1
        unfold itemsL itemsE
        rw [hno]
        exact SLe.pair (CLe.imm (ILe.sl rfl (by simp) (.inl rfl))) (CLe.of_eq rfl)
    )
  · first
    | (exfalso; simp_all; done)
    | (
        refine AW_skip ?_
        refine AW_seq ?_
        have hno : (bif (reachE a != 0) then true else !hpOk a r) = false := h1
        have hR : rightB a = true := by
          have h := (bor_f hno).1
          unfold reachE at h
          cases hb : rightB a with
          | true => rfl
          | false => rw [hb] at h; cases h
        have hL5 : L.n ≤ 512 := hL ▸ reach_le a _ hR
        refine AW_all good th10 (th10_ok) rfl rfl ?_ ?_
        · repeat' (first | exact trivial | exact rfl | exact (fun _ _ => rfl) | refine And.intro ?_ ?_ | intro _)
        refine AW_seq ?_
        refine AW_seq ?_
        refine AW_all good th10 (th10_ok) rfl rfl ?_ ?_
        · repeat' (first | exact trivial | exact rfl | exact (fun _ _ => rfl) | refine And.intro ?_ ?_ | intro _)
        refine AW_block ?_
        refine AW_own_empty 8 54 2 (fun i j => itE.f ((rowI a L).at_ i) j) rfl rfl rfl ?_
        refine AW_loopX [2, 26, 27] [] (fun j : { i : Nat // i ≤ L.n } => [(28, .cv (iint j.1)), (8, .cv (.one (.osl 2 2 0 0 j.1 true)))]) (fun j => [(2, bkR 54 itE ⟨j.1, (rowI a L).at_⟩)]) (fun j => L.n - j.1) ⟨0, Nat.zero_le _⟩ ⟨SLe.of_eq rfl, SLe.of_eq rfl, trivial⟩ ⟨⟨_, rfl, BLe.of_eq rfl⟩, trivial⟩ ?_
        rintro ⟨i, hi⟩
        dsimp only at hi ⊢
        have hi62 : i < 4611686018427387904 := by omega
        refine AW_seq ?_
        refine AW_all good th10 (th10_ok) rfl rfl ?_ ?_
        · repeat' (first | exact trivial | exact rfl | exact (fun _ _ => rfl) | refine And.intro ?_ ?_ | intro _)
        refine AW_seq ?_
        refine AW_cond rfl (fun h2 => ?_) (fun h2 => ?_)
        · first
          | (exfalso; simp_all; done)
          | (
              refine AW_skip ?_
              refine AW_seq ?_
              refine AW_block ?_
              refine AW_seq ?_
              have hlt : i < L.n := by simpa using h2
              refine AW_all good th10 (th10_ok) rfl rfl ?_ ?_
              · repeat' (first | exact trivial | exact rfl | exact (fun _ _ => rfl) | refine And.intro ?_ ?_ | intro _)
                all_goals omega
              have hin : 0 ≤ L.at_ i ∧ L.at_ i < a.nodes.n := by
                have h := reach_in a (lst [r]) i
                rw [hL] at h
                exact h hlt
              have hin2 : (L.at_ i).toNat < a.nodes.n := by omega
              refine AW_all good th10 (th10_ok) rfl rfl ?_ ?_
              · repeat' (first | exact trivial | exact rfl | exact (fun _ _ => rfl) | refine And.intro ?_ ?_ | intro _)
                all_goals (first | exact hin.1 | exact hin.2 | exact Nat.le_refl _ | (unfold maxLen; omega) | exact bytes_ok (by omega) (by decide))
              refine AW_all good th10 (th10_ok) rfl rfl ?_ ?_
              · repeat' (first | exact trivial | exact rfl | exact (fun _ _ => rfl) | refine And.intro ?_ ?_ | intro _)
              refine loopX_next ⟨i + 1, hlt⟩ [0, 1, 4] rfl rfl ⟨SLe.of_eq (congrArg (fun z => SV.cv (iint z)) (succ_wrap (by omega))), SLe.of_eq rfl, trivial⟩ ⟨SLe.of_eq rfl, SLe.of_eq rfl, SLe.of_eq rfl, trivial⟩ ⟨⟨rfl, _, rfl, BLe.rows rfl fun q j hq hj => ILe.of_eq (item_row (f := (rowI a L).at_) hq hj)⟩, trivial⟩ trivial ?_
              show L.n - (i + 1) < L.n - i
              omega
          )
        · first
          | (exfalso; simp_all; done)
          | (
              refine AW_exit ?_
              refine AW_seq ?_
              have hend : i = L.n := by
                have : ¬ i < L.n := by simpa using h2
                omega
              subst hend
              refine AW_eff good th10 (th10_ok) eSort (eSort_ok) [] rfl rfl ?_ ?_
              · repeat' (first | exact trivial | exact rfl | exact (fun _ _ => rfl) | refine And.intro ?_ ?_ | intro _)
                all_goals exact hi62
              refine AW_blk 2 rfl (B := bkR 54 itE (sortS (rowI a L))) (BLe.of_eq rfl) ?_
              refine AW_seq ?_
              refine AW_all good th10 (th10_ok) rfl rfl ?_ ?_
              · repeat' (first | exact trivial | exact rfl | exact (fun _ _ => rfl) | refine And.intro ?_ ?_ | intro _)
              refine AW_ret (bodyQ_ret rfl ?_ (Ends.le rfl ?_ ?_))
              · repeat' (first | exact trivial | exact rfl | exact (fun _ _ => rfl) | refine And.intro ?_ ?_ | intro _)
              · repeat' (first | exact trivial | exact rfl | exact (fun _ _ => rfl) | refine And.intro ?_ ?_ | intro _)
                all_goals exact Nat.le_of_eq (Nat.zero_add _)
              unfold itemsL itemsE
              rw [hno, hL]
              exact SLe.of_eq rfl
          )
    )

noncomputable def th11 : Tab := tabC2 31 arA rI (fun a r => .tup [.one (.imm (slI itE (itemsL a r))), iint (itemsE a r)]) (fun _ _ => True) th10
theorem th11_ok : TabOk Try.prog th11 := tabC2_ok rfl (fun a r _ => heapItems a r) th10_ok

theorem heapSize (a : Ar) (r : Int) : PCall Try.prog 32 [arC a, u64 r] (.tup [iint (itemsL a r).n, iint (itemsE a r)]) := by
  refine PCall_of (ACall_body good Try.func32 rfl 17 rfl (by simp) ?_)
  refine AW_seq ?_
  refine AW_eff good th11 (th11_ok) et0 (et0_ok _) [0] rfl rfl ?_ ?_
  · repeat' (first | exact trivial | exact rfl | exact (fun _ _ => rfl) | refine And.intro ?_ ?_ | intro _)
  refine AW_seq ?_
  refine AW_all good th11 (th11_ok) rfl rfl ?_ ?_
  · repeat' (first | exact trivial | exact rfl | exact (fun _ _ => rfl) | refine And.intro ?_ ?_ | intro _)
    all_goals exact slOk_lit
  refine AW_seq ?_
  refine AW_all good th11 (th11_ok) rfl rfl ?_ ?_
  · repeat' (first | exact trivial | exact rfl | exact (fun _ _ => rfl) | refine And.intro ?_ ?_ | intro _)
  refine AW_ret (bodyQ_ret rfl ?_ (Ends.le rfl ?_ ?_))
  · repeat' (first | exact trivial | exact rfl | exact (fun _ _ => rfl) | refine And.intro ?_ ?_ | intro _)
  · repeat' (first | exact trivial | exact rfl | exact (fun _ _ => rfl) | refine And.intro ?_ ?_ | intro _)
  exact SLe.of_eq rfl

end Go.Proofs.Ytadgjhbhghhbgaa.Abs
