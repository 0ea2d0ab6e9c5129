/-
  THE CONTRACTS OF PACKAGE heap: Pop.
-/
import Derived.Test.YtadgjhbhghhbgaaHp14
namespace Go.Proofs.Ytadgjhbhghhbgaa.Abs
open Go
set_option maxRecDepth 10000

noncomputable def eP4 : ETab := etC 51 (spM 109 piE (codT1 ndA) (fun p x => .cv (.one (.imm (slI refE (kidsS p.a x.k0))))) (fun p _ => p) fun p x => ∃ m, m < 1000 ∧ ChainLen p.a x.k0 m) eH2
theorem eP4_ok : ETabOk Try.prog eP4 := etC_ok rfl (spM_ok fun p x h => by
  obtain ⟨m, h1, h2⟩ := h
  rw [kidsS_eq h2]
  exact kidsCall p x m h2 h1) eH2_ok
/-- folded, with what puts two together handed in. -/
noncomputable def spF : Spec := fun a0 Bs => match a0, Bs with
  | [c1, c2, .one (.fn (.func g) 1 first 0 _)], [B] => match first 0 with
    | .own 0 0 0 0 => bif Nat.beq g 45 then match (codSl refE).dec c1, rI.dec c2, decV 109 piE B with
      | some (l, p1), some (z, p2), some (p, p3) => some (.cv (u64 (foldF p l).2), [(0, some (bkV 109 piE (foldF p l).1))], 0, p1 ∧ (p2 ∧ (p3 ∧ (z = 0 ∧ l.n < 1000))))
      | _, _, _ => none
      else none
    | _ => none
  | _, _ => none
theorem spF_ok : SpecOk Try.prog 50 spF := by
  intro a0 Bs r' U n vc hs hv
  unfold spF at hs
  split at hs
  · rename_i c1 c2 g first caps B
    split at hs
    · rename_i hf
      cases hb : Nat.beq g 45 with
      | false => rw [hb] at hs; cases hs
      | true =>
        rw [hb] at hs
        simp only [cond_true] at hs
        split at hs
        · rename_i h1 h2 h3
          simp only [Option.some.injEq, Prod.mk.injEq] at hs
          obtain ⟨rfl, rfl, rfl, rfl⟩ := hs
          obtain ⟨q1, q2, q3, rfl, q4⟩ := hv
          obtain rfl := Nat.eq_of_beq_eq_true hb
          refine ⟨_, [bkV 109 piE _], TLe.cons ((codSl refE).le _ _ _ h1 q1) (TLe.cons (rI.le _ _ _ h2 q2) (TLe.cons (CLe.fn' (fun i hi => ?_) (fun i hi => absurd hi (Nat.not_lt_zero i))) TLe.nil)), ⟨decV_le h3 q3, trivial⟩, foldCall _ _ q4⟩
          match i, hi with
          | 0, _ => exact CLe.of_eq (congrArg CV.one hf)
        · cases hs
    · cases hs
  · cases hs
noncomputable def eP5 : ETab := etC 50 spF eP4
theorem eP5_ok : ETabOk Try.prog eP5 := etC_ok rfl spF_ok eP4_ok
/-- The least item is taken off: the heap, its reference, why not, what was taken off. -/
noncomputable def popF (p : Pile) (r : Int) (y : Item) : Pile × Int × Int × Item := bif r == 0 then (p, 0, 3, y) else ((foldF p (kidsS p.a (getN p.a r).k0)).1, (foldF p (kidsS p.a (getN p.a r).k0)).2, 0, itmOf (getN p.a r))
def PopOk (a : Ar) (r : Int) : Prop := r = 0 ∨ ∃ m, m < 1000 ∧ ChainLen a (getN a r).k0 m

set_option maxHeartbeats 1000000 in
theorem pop1 (p : Pile) (r : Int) (y : Item) (hok : PopOk p.a r) : ACall Try.prog 48 [.one (.own 0 0 0 0), .one ((ptrA refE).enc r), .one (.own 1 0 0 0)] (heapOf [bkV 109 piE p, bkV 54 itE y]) 2 fun x' H' n' => x' = .tup [u64 (popF p r y).2.1, iint (popF p r y).2.2.1] ∧ H' = updH (heapOf [bkV 109 piE p, bkV 54 itE y]) (updL 0 [some (bkV 109 piE (popF p r y).1), some (bkV 54 itE (popF p r y).2.2.2)]) ∧ n' = 2 + 0 := by
  refine ACall_norm (Bs := [bkV 109 piE p, bkV 54 itE y]) (cnt := 0) ?_
  change ACall _ _ _ _ 2 _
  refine ACall_body good Try.func48 rfl 20 rfl (by simp) ?_
  refine AW_seq ?_
  refine AW_all good th20 (th20_ok) rfl rfl ?_ ?_
  · repeat' (first | exact trivial | exact rfl | exact (fun _ _ => rfl) | refine And.intro ?_ ?_ | intro _)
  refine AW_seq ?_
  refine AW_seq ?_
  refine AW_all good th20 (th20_ok) rfl rfl ?_ ?_
  · repeat' (first | exact trivial | exact rfl | exact (fun _ _ => rfl) | refine And.intro ?_ ?_ | intro _)
  refine AW_cond rfl (fun h1 => ?_) (fun h1 => ?_)
  · first
    | (exfalso; simp_all; done)
    | (
        refine AW_seq ?_
        refine AW_all good th20 (th20_ok) rfl rfl ?_ ?_
        · repeat' (first | exact trivial | exact rfl | exact (fun _ _ => rfl) | refine And.intro ?_ ?_ | intro _)
        have hm : popF p r y = (p, 0, 3, y) := by
          unfold popF
          rw [show (r == 0) = true from h1]
          rfl
        refine AW_ret ?_
        refine ⟨_, _, rfl, ?_, [0, 1], rfl, EndsE.all (Us := [some (bkV 109 piE (popF p r y).1), some (bkV 54 itE (popF p r y).2.2.2)]) rfl rfl rfl ?_ ?_⟩
        · repeat' (first | exact trivial | exact rfl | exact (fun _ _ => rfl) | refine And.intro ?_ ?_ | intro _)
        · rw [hm]
          exact SLe.of_eq rfl
        · exact ⟨⟨_, rfl, by rw [hm]; exact BLe.of_eq rfl⟩, ⟨_, rfl, by rw [hm]; exact BLe.of_eq rfl⟩, trivial⟩
    )
  · first
    | (exfalso; simp_all; done)
    | (
        refine AW_skip ?_
        refine AW_seq ?_
        have hne : ¬ r = 0 := by simpa using h1
        refine AW_all good th20 (th20_ok) rfl rfl ?_ ?_
        · repeat' (first | exact trivial | exact rfl | exact (fun _ _ => rfl) | refine And.intro ?_ ?_ | intro _)
          all_goals exact slOk_lit
        refine AW_seq ?_
        obtain ⟨X, hX⟩ : ∃ X, getN p.a r = X := ⟨_, rfl⟩
        have hch : ∃ m, m < 1000 ∧ ChainLen p.a X.k0 m := by rw [← hX]; exact hok.resolve_left hne
        have hkn : (kidsS p.a X.k0).n < 1000 := by
          obtain ⟨m, q1, q2⟩ := hch
          rw [kidsS_eq q2]
          exact q1
        refine AW_blk 2 rfl (B := bkV 91 ndE X) (BLe.of_eq (by rw [← hX]; rfl)) ?_
        refine AW_all good th20 (th20_ok) rfl rfl ?_ ?_
        · repeat' (first | exact trivial | exact rfl | exact (fun _ _ => rfl) | refine And.intro ?_ ?_ | intro _)
        refine AW_seq ?_
        refine AW_eff good th20 (th20_ok) eP5 (eP5_ok) [] rfl rfl ?_ ?_
        · repeat' (first | exact trivial | exact rfl | exact (fun _ _ => rfl) | refine And.intro ?_ ?_ | intro _)
          all_goals (first | exact hch | exact hkn | exact slOk_lit)
        have hm : popF p r y = ((foldF p (kidsS p.a X.k0)).1, (foldF p (kidsS p.a X.k0)).2, 0, itmOf X) := by
          unfold popF
          rw [show (r == 0) = false from h1, hX]
          rfl
        refine AW_ret ?_
        refine ⟨_, _, rfl, ?_, [0, 1], rfl, EndsE.all (Us := [some (bkV 109 piE (popF p r y).1), some (bkV 54 itE (popF p r y).2.2.2)]) rfl rfl rfl ?_ ?_⟩
        · repeat' (first | exact trivial | exact rfl | exact (fun _ _ => rfl) | refine And.intro ?_ ?_ | intro _)
        · rw [hm]
          exact SLe.of_eq rfl
        · exact ⟨⟨_, rfl, by rw [hm]; exact BLe.of_eq rfl⟩, ⟨_, rfl, by rw [hm]; exact BLe.of_eq rfl⟩, trivial⟩
    )

/-- What Pop's closure does. -/
noncomputable def spP : Spec := fun a0 Bs => match a0, Bs with
  | [.one (.own 0 0 0 0), .one c, .one (.own 1 0 0 0)], [B, B'] => match decV 109 piE B, (ptrA refE).dec c, decV 54 itE B' with
    | some (p, p1), some (r, p2), some (y, p3) => some (.tup [u64 (popF p r y).2.1, iint (popF p r y).2.2.1], [(0, some (bkV 109 piE (popF p r y).1)), (1, some (bkV 54 itE (popF p r y).2.2.2))], 0, p1 ∧ (p2 ∧ (p3 ∧ PopOk p.a r)))
    | _, _, _ => none
  | _, _ => none
theorem spP_ok : SpecOk Try.prog 48 spP := by
  intro a0 Bs r' U n vc hs hv
  unfold spP at hs
  split at hs
  · split at hs
    · rename_i h1 h2 h3
      simp only [Option.some.injEq, Prod.mk.injEq] at hs
      obtain ⟨rfl, rfl, rfl, rfl⟩ := hs
      obtain ⟨q1, q2, q3, q4⟩ := hv
      exact ⟨_, [bkV 109 piE _, bkV 54 itE _], TLe.cons (CLe.refl _) (TLe.cons ((ptrA refE).le _ _ _ h2 q2) (TLe.cons (CLe.refl _) TLe.nil)), ⟨decV_le h1 q1, decV_le h3 q3, trivial⟩, pop1 _ _ _ q4⟩
    · cases hs
  · cases hs
noncomputable def eP6 : ETab := etC 48 spP eP5
theorem eP6_ok : ETabOk Try.prog eP6 := etC_ok rfl spP_ok eP5_ok
/-- What a call comes to, with what was taken off. -/
noncomputable def popEnd (q : Pile × Int × Int × Item) : Ar × Int × Int × Item := bif (bif q.2.2.1 == 0 then q.1.bad else q.2.2.1) != 0 then (ar0, 0, (bif q.2.2.1 == 0 then q.1.bad else q.2.2.1), q.2.2.2) else (q.1.a, q.2.1, 0, q.2.2.2)
noncomputable def callPop (a : Ar) (l : Sl Int) (r : Int) (y : Item) : Ar × Int × Int × Item := bif hpRight a l then popEnd (popF ⟨a, 0⟩ r y) else (ar0, 0, 1, y)
/-- Pop's closure: it captured a reference and a variable of ours. -/
def popV (r : Int) (k : Nat) : AV := fnV 48 [(ptrA refE).enc r, .own k 0 0 0]

set_option maxHeartbeats 1000000 in
theorem callPopC (a : Ar) (l : Sl Int) (r : Int) (y : Item) (hok : hpRight a l = true → PopOk a r) : ACall Try.prog 42 [arC a, .one (.imm (slI refE l)), .one (popV r 0)] (heapOf [bkV 54 itE y]) 1 fun x' H' n' => x' = .tup [arC (callPop a l r y).1, u64 (callPop a l r y).2.1, iint (callPop a l r y).2.2.1] ∧ H' = updH (heapOf [bkV 54 itE y]) (updL 0 [some (bkV 54 itE (callPop a l r y).2.2.2)]) ∧ n' = 1 + 0 := by
  refine ACall_norm (Bs := [bkV 54 itE y]) (cnt := 0) ?_
  change ACall _ _ _ _ 1 _
  refine ACall_body good Try.func42 rfl 41 rfl (by simp) ?_
  refine AW_seq ?_
  refine AW_all good th20 (th20_ok) rfl rfl ?_ ?_
  · repeat' (first | exact trivial | exact rfl | exact (fun _ _ => rfl) | refine And.intro ?_ ?_ | intro _)
  refine AW_seq ?_
  refine AW_seq ?_
  refine AW_all good th20 (th20_ok) rfl rfl ?_ ?_
  · repeat' (first | exact trivial | exact rfl | exact (fun _ _ => rfl) | refine And.intro ?_ ?_ | intro _)
    all_goals exact slOk_lit
  refine AW_cond rfl (fun h1 => ?_) (fun h1 => ?_)
  · first
    | (exfalso; simp_all; done)
    | (
        refine AW_seq ?_
        refine AW_all good th20 (th20_ok) rfl rfl ?_ ?_
        · repeat' (first | exact trivial | exact rfl | exact (fun _ _ => rfl) | refine And.intro ?_ ?_ | intro _)
        have h : hpRight a l = false := bnot_t h1
        have hm : callPop a l r y = (ar0, 0, 1, y) := by unfold callPop; rw [h]; rfl
        refine AW_ret ?_
        refine ⟨_, _, rfl, ?_, [0], rfl, EndsE.all (Us := [some (bkV 54 itE (callPop a l r y).2.2.2)]) rfl rfl rfl ?_ ?_⟩
        · repeat' (first | exact trivial | exact rfl | exact (fun _ _ => rfl) | refine And.intro ?_ ?_ | intro _)
        · rw [hm]
          exact SLe.triple zero_ar (CLe.of_eq rfl) (CLe.of_eq rfl)
        · exact ⟨⟨_, rfl, by rw [hm]; exact BLe.of_eq rfl⟩, trivial⟩
    )
  · first
    | (exfalso; simp_all; done)
    | (
        refine AW_skip ?_
        refine AW_seq ?_
        refine AW_all good th20 (th20_ok) rfl rfl ?_ ?_
        · repeat' (first | exact trivial | exact rfl | exact (fun _ _ => rfl) | refine And.intro ?_ ?_ | intro _)
        refine AW_seq ?_
        have hpo : PopOk a r := hok (bnot_f h1)
        refine AW_eff good th20 (th20_ok) eP6 (eP6_ok) [] rfl rfl ?_ ?_
        · repeat' (first | exact trivial | exact rfl | exact (fun _ _ => rfl) | refine And.intro ?_ ?_ | intro _)
          all_goals (first | exact hpo | exact slOk_lit)
        obtain ⟨q, hq⟩ : ∃ q, popF ⟨a, 0⟩ r y = q := ⟨_, rfl⟩
        refine AW_slot 10 (y := .cv (u64 q.2.1)) rfl (SLe.of_eq (by rw [← hq]; rfl)) ?_
        refine AW_slot 11 (y := .cv (iint q.2.2.1)) rfl (SLe.of_eq (by rw [← hq]; rfl)) ?_
        refine AW_blk 3 rfl (B := bkV 109 piE q.1) (BLe.of_eq (by rw [← hq]; rfl)) ?_
        refine AW_blk 0 rfl (B := bkV 54 itE q.2.2.2) (BLe.of_eq (by rw [← hq]; rfl)) ?_
        refine AW_seq ?_
        refine AW_seq ?_
        refine AW_all good th20 (th20_ok) rfl rfl ?_ ?_
        · repeat' (first | exact trivial | exact rfl | exact (fun _ _ => rfl) | refine And.intro ?_ ?_ | intro _)
        refine AW_cond rfl (fun h2 => ?_) (fun h2 => ?_)
        · first
          | (exfalso; simp_all; done)
          | (
              refine AW_all good th20 (th20_ok) rfl rfl ?_ ?_
              · repeat' (first | exact trivial | exact rfl | exact (fun _ _ => rfl) | refine And.intro ?_ ?_ | intro _)
              refine AW_seq ?_
              refine AW_seq ?_
              refine AW_all good th20 (th20_ok) rfl rfl ?_ ?_
              · repeat' (first | exact trivial | exact rfl | exact (fun _ _ => rfl) | refine And.intro ?_ ?_ | intro _)
              refine AW_cond rfl (fun h3 => ?_) (fun h3 => ?_)
              · first
                | (exfalso; simp_all; done)
                | (
                    refine AW_seq ?_
                    refine AW_all good th20 (th20_ok) rfl rfl ?_ ?_
                    · repeat' (first | exact trivial | exact rfl | exact (fun _ _ => rfl) | refine And.intro ?_ ?_ | intro _)
                    have h : hpRight a l = true := bnot_f h1
                    have hm : callPop a l r y = (ar0, 0, q.1.bad, q.2.2.2) := by
                      unfold callPop popEnd
                      rw [h, hq, h2]
                      show (bif (q.1.bad != 0) then (ar0, 0, q.1.bad, q.2.2.2) else (q.1.a, q.2.1, (0 : Int), q.2.2.2)) = _
                      rw [h3]
                      rfl
                    refine AW_ret ?_
                    refine ⟨_, _, rfl, ?_, [0], rfl, EndsE.all (Us := [some (bkV 54 itE (callPop a l r y).2.2.2)]) rfl rfl rfl ?_ ?_⟩
                    · repeat' (first | exact trivial | exact rfl | exact (fun _ _ => rfl) | refine And.intro ?_ ?_ | intro _)
                    · rw [hm]
                      exact SLe.triple zero_ar (CLe.of_eq rfl) (CLe.of_eq rfl)
                    · exact ⟨⟨_, rfl, by rw [hm]; exact BLe.of_eq rfl⟩, trivial⟩
                )
              · first
                | (exfalso; simp_all; done)
                | (
                    refine AW_skip ?_
                    refine AW_seq ?_
                    refine AW_all good th20 (th20_ok) rfl rfl ?_ ?_
                    · repeat' (first | exact trivial | exact rfl | exact (fun _ _ => rfl) | refine And.intro ?_ ?_ | intro _)
                    have h : hpRight a l = true := bnot_f h1
                    have hm : callPop a l r y = (q.1.a, q.2.1, 0, q.2.2.2) := by
                      unfold callPop popEnd
                      rw [h, hq, h2]
                      show (bif (q.1.bad != 0) then (ar0, 0, q.1.bad, q.2.2.2) else (q.1.a, q.2.1, (0 : Int), q.2.2.2)) = _
                      rw [h3]
                      rfl
                    refine AW_ret ?_
                    refine ⟨_, _, rfl, ?_, [0], rfl, EndsE.all (Us := [some (bkV 54 itE (callPop a l r y).2.2.2)]) rfl rfl rfl ?_ ?_⟩
                    · repeat' (first | exact trivial | exact rfl | exact (fun _ _ => rfl) | refine And.intro ?_ ?_ | intro _)
                    · rw [hm]
                      exact SLe.of_eq rfl
                    · exact ⟨⟨_, rfl, by rw [hm]; exact BLe.of_eq rfl⟩, trivial⟩
                )
          )
        · first
          | (exfalso; simp_all; done)
          | (
              refine AW_skip ?_
              refine AW_seq ?_
              refine AW_seq ?_
              refine AW_all good th20 (th20_ok) rfl rfl ?_ ?_
              · repeat' (first | exact trivial | exact rfl | exact (fun _ _ => rfl) | refine And.intro ?_ ?_ | intro _)
              refine AW_cond rfl (fun h4 => ?_) (fun h4 => ?_)
              · first
                | (exfalso; simp_all; done)
                | (
                    refine AW_seq ?_
                    refine AW_all good th20 (th20_ok) rfl rfl ?_ ?_
                    · repeat' (first | exact trivial | exact rfl | exact (fun _ _ => rfl) | refine And.intro ?_ ?_ | intro _)
                    have h : hpRight a l = true := bnot_f h1
                    have h3 : (q.2.2.1 != 0) = true := by assumption
                    have hm : callPop a l r y = (ar0, 0, q.2.2.1, q.2.2.2) := by
                      unfold callPop popEnd
                      rw [h, hq, h2]
                      show (bif (q.2.2.1 != 0) then (ar0, 0, q.2.2.1, q.2.2.2) else (q.1.a, q.2.1, (0 : Int), q.2.2.2)) = _
                      rw [h3]
                      rfl
                    refine AW_ret ?_
                    refine ⟨_, _, rfl, ?_, [0], rfl, EndsE.all (Us := [some (bkV 54 itE (callPop a l r y).2.2.2)]) rfl rfl rfl ?_ ?_⟩
                    · repeat' (first | exact trivial | exact rfl | exact (fun _ _ => rfl) | refine And.intro ?_ ?_ | intro _)
                    · rw [hm]
                      exact SLe.triple zero_ar (CLe.of_eq rfl) (CLe.of_eq rfl)
                    · exact ⟨⟨_, rfl, by rw [hm]; exact BLe.of_eq rfl⟩, trivial⟩
                )
              · first
                | (exfalso; simp_all; done)
                | (
                    refine AW_skip ?_
                    refine AW_seq ?_
                    refine AW_all good th20 (th20_ok) rfl rfl ?_ ?_
                    · repeat' (first | exact trivial | exact rfl | exact (fun _ _ => rfl) | refine And.intro ?_ ?_ | intro _)
                    exfalso
                    have h3 : (q.2.2.1 != 0) = false := by assumption
                    simp at h2 h3
                    exact h2 h3
                )
          )
    )

end Go.Proofs.Ytadgjhbhghhbgaa.Abs
