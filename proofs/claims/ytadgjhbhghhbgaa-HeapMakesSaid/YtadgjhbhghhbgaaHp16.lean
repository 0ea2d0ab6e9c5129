/-
  THE CONTRACTS OF PACKAGE heap: Pop.
-/
import Derived.Test.YtadgjhbhghhbgaaHq10
namespace Go.Proofs.Ytadgjhbhghhbgaa.Abs
open Go
set_option maxRecDepth 10000

/-- call, with Pop's closure handed in. -/
noncomputable def spCP : Spec := fun a0 Bs => match a0, Bs with
  | [ca, cl, .one (.fn (.func g) 0 _ 2 caps)], [B] => match caps 1 with
    | .own 0 0 0 0 => bif Nat.beq g 48 then match arA.dec ca, (codSl refE).dec cl, (ptrA refE).dec (caps 0), decV 54 itE B with
      | some (a, p1), some (l, p2), some (r, p3), some (y, p4) => some (.tup [arC (callPop a l r y).1, u64 (callPop a l r y).2.1, iint (callPop a l r y).2.2.1], [(0, some (bkV 54 itE (callPop a l r y).2.2.2))], 0, p1 ∧ (p2 ∧ (p3 ∧ (p4 ∧ (hpRight a l = true → PopOk a r)))))
      | _, _, _, _ => none
      else none
    | _ => none
  | _, _ => none
theorem spCP_ok : SpecOk Try.prog 42 spCP := by
  intro a0 Bs r' U n vc hs hv
  unfold spCP at hs
  split at hs
  · rename_i ca cl g first caps B
    split at hs
    · rename_i hf
      cases hb : Nat.beq g 48 with
      | false => rw [hb] at hs; cases hs
      | true =>
        rw [hb] at hs
        simp only [cond_true] at hs
        split at hs
        · rename_i h1 h2 h3 h4
          simp only [Option.some.injEq, Prod.mk.injEq] at hs
          obtain ⟨rfl, rfl, rfl, rfl⟩ := hs
          obtain ⟨q1, q2, q3, q4, q5⟩ := hv
          obtain rfl := Nat.eq_of_beq_eq_true hb
          refine ⟨[arC _, .one (.imm (slI refE _)), .one (popV _ 0)], [bkV 54 itE _], TLe.cons (arA.le _ _ _ h1 q1) (TLe.cons ((codSl refE).le _ _ _ h2 q2) (TLe.cons (CLe.fn (fun i hi => absurd hi (Nat.not_lt_zero i)) fun i hi => ?_) TLe.nil)), ⟨decV_le h4 q4, trivial⟩, callPopC _ _ _ _ q5⟩
          match i, hi with
          | 0, _ => exact (ptrA refE).le _ _ _ h3 q3
          | 1, _ => exact CLe.of_eq (congrArg CV.one hf)
        · cases hs
    · cases hs
  · cases hs
noncomputable def eP7 : ETab := etC 42 spCP et0
theorem eP7_ok : ETabOk Try.prog eP7 := etC_ok rfl spCP_ok (et0_ok _)
/-- The least item is taken off a heap. -/
noncomputable def popC (a : Ar) (r : Int) : Ar × Int × Int × Item := bif hpOk a r then popEnd (popF ⟨a, 0⟩ r it0) else (ar0, 0, 1, it0)
noncomputable def popX (a : Ar) (r : Int) : Item := bif (popC a r).2.2.1 != 0 then it0 else (popC a r).2.2.2
theorem callPop_one {a : Ar} {f : Nat → Int} {r : Int} (h : f 0 = r) : callPop a ⟨1, f⟩ r it0 = popC a r := by
  unfold callPop popC
  rw [hpRight_one h]
theorem callPop_ok {a : Ar} {f : Nat → Int} {r : Int} (h : f 0 = r) : hpRight a ⟨1, f⟩ = true → PopOk a r := fun h2 => popOk_of (by rw [← hpRight_one h]; exact h2)

set_option maxHeartbeats 1000000 in
theorem heapPop (a : Ar) (r : Int) : PCall Try.prog 22 [arC a, u64 r] (.tup [arC (popC a r).1, u64 (popC a r).2.1, itC (popX a r), iint (popC a r).2.2.1]) := by
  refine PCall_of (ACall_body good Try.func22 rfl 28 rfl (by simp) ?_)
  refine AW_seq ?_
  refine AW_eff good th8 (th8_ok) eP7 (eP7_ok) [1] rfl rfl ?_ ?_
  · repeat' (first | exact trivial | exact rfl | exact (fun _ _ => rfl) | refine And.intro ?_ ?_ | intro _)
  refine AW_seq ?_
  refine AW_all good th8 (th8_ok) rfl rfl ?_ ?_
  · repeat' (first | exact trivial | exact rfl | exact (fun _ _ => rfl) | refine And.intro ?_ ?_ | intro _)
  refine AW_seq ?_
  refine AW_eff good th8 (th8_ok) eP7 (eP7_ok) [2] rfl rfl ?_ ?_
  · repeat' (first | exact trivial | exact rfl | exact (fun _ _ => rfl) | refine And.intro ?_ ?_ | intro _)
    all_goals (first | exact one_ok | (rename_i hx; exact callPop_ok rfl hx) | omega | exact slOk_lit)
  obtain ⟨q, hq⟩ : ∃ q, popC a r = q := ⟨_, rfl⟩
  refine AW_slot 10 (y := .cv (u64 q.2.1)) rfl (SLe.of_eq (congrArg (fun q : Ar × Int × Int × Item => SV.cv (u64 q.2.1)) ((callPop_one rfl).trans hq))) ?_
  refine AW_slot 11 (y := .cv (iint q.2.2.1)) rfl (SLe.of_eq (congrArg (fun q : Ar × Int × Int × Item => SV.cv (iint q.2.2.1)) ((callPop_one rfl).trans hq))) ?_
  refine AW_blk 6 rfl (B := bkV 50 arE q.1) (BLe.of_eq (congrArg (fun q : Ar × Int × Int × Item => bkV 50 arE q.1) ((callPop_one rfl).trans hq))) ?_
  refine AW_blk 4 rfl (B := bkV 54 itE q.2.2.2) (BLe.of_eq (congrArg (fun q : Ar × Int × Int × Item => bkV 54 itE q.2.2.2) ((callPop_one rfl).trans hq))) ?_
  refine AW_seq ?_
  refine AW_seq ?_
  refine AW_all good th8 (th8_ok) rfl rfl ?_ ?_
  · repeat' (first | exact trivial | exact rfl | exact (fun _ _ => rfl) | refine And.intro ?_ ?_ | intro _)
  refine AW_cond rfl (fun h1 => ?_) (fun h1 => ?_)
  · first
    | (exfalso; simp_all; done)
    | (
        refine AW_all good th8 (th8_ok) rfl rfl ?_ ?_
        · repeat' (first | exact trivial | exact rfl | exact (fun _ _ => rfl) | refine And.intro ?_ ?_ | intro _)
        refine AW_seq ?_
        refine AW_drwG good rfl th8 (th8_ok) eP7 (eP7_ok) [] [0, 0, 0, 0, 1, 19, 55, 127] [false, false, false, false, true, false, true, false] (by rfl) (by rfl) rfl (by rfl) (by rfl) ?_ ?_ ?_
        · repeat' (first | exact trivial | exact rfl | exact (fun _ _ => rfl) | refine And.intro ?_ ?_ | intro _)
        · repeat' (first | refine And.intro ?_ ?_ | exact trivial | exact rfl | intro _)
        refine AW_ret (bodyQ_ret rfl ?_ (Ends.le rfl ?_ ?_))
        · repeat' (first | exact trivial | exact rfl | exact (fun _ _ => rfl) | refine And.intro ?_ ?_ | intro _)
        · repeat' (first | exact trivial | exact rfl | exact (fun _ _ => rfl) | refine And.intro ?_ ?_ | intro _)
        have hm : popX a r = it0 := by unfold popX; rw [hq, show (q.2.2.1 != 0) = true from h1]; rfl
        rw [hm, hq]
        exact SLe.of_eq rfl
    )
  · first
    | (exfalso; simp_all; done)
    | (
        refine AW_skip ?_
        refine AW_seq ?_
        refine AW_drwG good rfl th8 (th8_ok) eP7 (eP7_ok) [] [0, 0, 0, 0, 1, 19, 55, 127] [false, false, false, false, true, false, true, false] (by rfl) (by rfl) rfl (by rfl) (by rfl) ?_ ?_ ?_
        · repeat' (first | exact trivial | exact rfl | exact (fun _ _ => rfl) | refine And.intro ?_ ?_ | intro _)
        · repeat' (first | refine And.intro ?_ ?_ | exact trivial | exact rfl | intro _)
        refine AW_ret (bodyQ_ret rfl ?_ (Ends.le rfl ?_ ?_))
        · repeat' (first | exact trivial | exact rfl | exact (fun _ _ => rfl) | refine And.intro ?_ ?_ | intro _)
        · repeat' (first | exact trivial | exact rfl | exact (fun _ _ => rfl) | refine And.intro ?_ ?_ | intro _)
        have hm : popX a r = q.2.2.2 := by unfold popX; rw [hq, show (q.2.2.1 != 0) = false from h1]; rfl
        rw [hm, hq]
        exact SLe.of_eq rfl
    )

end Go.Proofs.Ytadgjhbhghhbgaa.Abs
