/-
  THE CONTRACTS OF PACKAGE heap: Insert.
-/
import Derived.Test.YtadgjhbhghhbgaaHp3
namespace Go.Proofs.Ytadgjhbhghhbgaa.Abs
open Go
set_option maxRecDepth 10000

noncomputable def eH2 : ETab := etC 45 (spM 109 piE (codTc rI (codT1 rI)) (fun p x => .cv (u64 (hpMeld p x.1 x.2).2)) (fun p x => (hpMeld p x.1 x.2).1) fun _ _ => True) eH1
theorem eH2_ok : ETabOk Try.prog eH2 := etC_ok rfl (spM_ok fun p x _ => pileMeld p x.1 x.2) eH1_ok
def itNd (x : Item) : Nd := ⟨0, 0, x.k, x.v, 0, 0, 0, 0, 0, 0, 0, 0, 0, 0, 0, 0⟩
noncomputable def insF (p : Pile) (r : Int) (x : Item) : Pile × Int × Int := bif decide ((getN p.a r).s ≥ 200) then (p, 0, 5) else ((hpMeld (hpMake p (itNd x) 0 0 1).1 r (hpMake p (itNd x) 0 0 1).2).1, (hpMeld (hpMake p (itNd x) 0 0 1).1 r (hpMake p (itNd x) 0 0 1).2).2, 0)

set_option maxHeartbeats 1000000 in
theorem insert1 (p : Pile) (r : Int) (x : Item) : ACall Try.prog 43 [.one (.own 0 0 0 0), .one ((ptrA refE).enc r), .one ((ptrA itE).enc x)] (heapOf [bkV 109 piE p]) 1 fun x' H' n' => x' = .tup [u64 (insF p r x).2.1, iint (insF p r x).2.2] ∧ H' = updH (heapOf [bkV 109 piE p]) (updL 0 [some (bkV 109 piE (insF p r x).1)]) ∧ n' = 1 + 0 := by
  refine ACall_norm (Bs := [bkV 109 piE p]) (cnt := 0) ?_
  change ACall _ _ _ _ 1 _
  refine ACall_body good Try.func43 rfl 21 rfl (by simp) ?_
  refine AW_seq ?_
  refine AW_all good th7 (th7_ok) rfl rfl ?_ ?_
  · repeat' (first | exact trivial | exact rfl | exact (fun _ _ => rfl) | refine And.intro ?_ ?_ | intro _)
  refine AW_seq ?_
  refine AW_seq ?_
  refine AW_all good th7 (th7_ok) rfl rfl ?_ ?_
  · repeat' (first | exact trivial | exact rfl | exact (fun _ _ => rfl) | refine And.intro ?_ ?_ | intro _)
    all_goals exact slOk_lit
  refine AW_cond rfl (fun h1 => ?_) (fun h1 => ?_)
  · first
    | (exfalso; simp_all; done)
    | (
        refine AW_seq ?_
        refine AW_all good th7 (th7_ok) rfl rfl ?_ ?_
        · repeat' (first | exact trivial | exact rfl | exact (fun _ _ => rfl) | refine And.intro ?_ ?_ | intro _)
        have hm : insF p r x = (p, 0, 5) := by
          have h : decide ((getN p.a r).s ≥ 200) = true := h1
          unfold insF
          rw [h]
          rfl
        refine AW_ret ?_
        refine ⟨_, _, rfl, ?_, [0], rfl, EndsE.all (Us := [some (bkV 109 piE (insF p r x).1)]) rfl rfl rfl ?_ ?_⟩
        · repeat' (first | exact trivial | exact rfl | exact (fun _ _ => rfl) | refine And.intro ?_ ?_ | intro _)
        · rw [hm]
          exact SLe.of_eq rfl
        · exact ⟨⟨_, rfl, by rw [hm]; exact BLe.of_eq rfl⟩, trivial⟩
    )
  · first
    | (exfalso; simp_all; done)
    | (
        refine AW_skip ?_
        refine AW_seq ?_
        refine AW_drwG good rfl th7 (th7_ok) eH2 (eH2_ok) [] [0, 0, 0, 0, 8, 0, 32, 120, 252, 511, 1023, 2047] [false, false, false, false, false, false, false, false, true, true, false, false] (by rfl) (by rfl) rfl (by rfl) (by rfl) ?_ ?_ ?_
        · repeat' (first | exact trivial | exact rfl | exact (fun _ _ => rfl) | refine And.intro ?_ ?_ | intro _)
          all_goals exact slOk_lit
        · repeat' (first | refine And.intro ?_ ?_ | exact trivial | exact rfl | intro _)
        have hm : insF p r x = ((hpMeld (hpMake p (itNd x) 0 0 1).1 r (hpMake p (itNd x) 0 0 1).2).1, (hpMeld (hpMake p (itNd x) 0 0 1).1 r (hpMake p (itNd x) 0 0 1).2).2, 0) := by
          have h : decide ((getN p.a r).s ≥ 200) = false := h1
          unfold insF
          rw [h]
          rfl
        refine AW_ret ?_
        refine ⟨_, _, rfl, ?_, [0], rfl, EndsE.all (Us := [some (bkV 109 piE (insF p r x).1)]) rfl rfl rfl ?_ ?_⟩
        · repeat' (first | exact trivial | exact rfl | exact (fun _ _ => rfl) | refine And.intro ?_ ?_ | intro _)
        · rw [hm]
          exact SLe.of_eq rfl
        · exact ⟨⟨_, rfl, by rw [hm]; exact BLe.of_eq rfl⟩, trivial⟩
    )

/-- A function on a variable of ours that captured two things. -/
def spC2 {β γ δ : Type} (ty : TypeId) (e : Enc β) (C : CodA γ) (D : CodA δ) (r : β → γ → δ → SV) (s : β → γ → δ → β) (q : β → γ → δ → Prop) : Spec := fun a0 Bs => match a0, Bs with
  | [.one (.own 0 0 0 0), .one c, .one d], [B] => match decV ty e B, C.dec c, D.dec d with
    | some (y, p), some (x, p'), some (z, p2) => some (r y x z, [(0, some (bkV ty e (s y x z)))], 0, p ∧ (p' ∧ (p2 ∧ q y x z)))
    | _, _, _ => none
  | _, _ => none
theorem spC2_ok {P : Program} {F : FuncId} {β γ δ : Type} {ty : TypeId} {e : Enc β} {C : CodA γ} {D : CodA δ} {r : β → γ → δ → SV} {s : β → γ → δ → β} {q : β → γ → δ → Prop}
    (h : ∀ y x z, q y x z → ACall P F [.one (.own 0 0 0 0), .one (C.enc x), .one (D.enc z)] (heapOf [bkV ty e y]) 1 fun x' H' n' => x' = r y x z ∧ H' = updH (heapOf [bkV ty e y]) [(0, some (bkV ty e (s y x z)))] ∧ n' = 1 + 0) : SpecOk P F (spC2 ty e C D r s q) := by
  intro a0 Bs r' U n vc hs hv
  unfold spC2 at hs
  split at hs
  · split at hs
    · rename_i h1 h2 h3
      simp only [Option.some.injEq, Prod.mk.injEq] at hs
      obtain ⟨rfl, rfl, rfl, rfl⟩ := hs
      exact ⟨_, [bkV ty e _], TLe.cons (CLe.refl _) (TLe.cons (C.le _ _ _ h2 hv.2.1) (TLe.cons (D.le _ _ _ h3 hv.2.2.1) TLe.nil)), ⟨decV_le h1 hv.1, trivial⟩, h _ _ _ hv.2.2.2⟩
    · cases hs
  · cases hs
noncomputable def eH3 : ETab := etC 43 (spC2 109 piE (ptrA refE) (ptrA itE) (fun p r x => .tup [u64 (insF p r x).2.1, iint (insF p r x).2.2]) (fun p r x => (insF p r x).1) fun _ _ _ => True) eH2
theorem eH3_ok : ETabOk Try.prog eH3 := etC_ok rfl (spC2_ok fun p r x _ => insert1 p r x) eH2_ok
/-- What a call comes to, by what is done. -/
def callEnd (q : Pile × Int × Int) : Ar × Int × Int := bif (bif q.2.2 == 0 then q.1.bad else q.2.2) != 0 then (ar0, 0, bif q.2.2 == 0 then q.1.bad else q.2.2) else (q.1.a, q.2.1, 0)
noncomputable def callIns (a : Ar) (l : Sl Int) (r : Int) (x : Item) : Ar × Int × Int := bif hpRight a l then callEnd (insF ⟨a, 0⟩ r x) else (ar0, 0, 1)

set_option maxHeartbeats 1000000 in
theorem callInsert (a : Ar) (l : Sl Int) (r : Int) (x : Item) : PCall Try.prog 42 [arC a, .one (.imm (slI refE l)), .one (fnV 43 [(ptrA refE).enc r, (ptrA itE).enc x])] (.tup [arC (callIns a l r x).1, u64 (callIns a l r x).2.1, iint (callIns a l r x).2.2]) := by
  refine PCall_of (ACall_body good Try.func42 rfl 41 rfl (by simp) ?_)
  refine AW_seq ?_
  refine AW_all good th7 (th7_ok) rfl rfl ?_ ?_
  · repeat' (first | exact trivial | exact rfl | exact (fun _ _ => rfl) | refine And.intro ?_ ?_ | intro _)
  refine AW_seq ?_
  refine AW_seq ?_
  refine AW_all good th7 (th7_ok) rfl rfl ?_ ?_
  · repeat' (first | exact trivial | exact rfl | exact (fun _ _ => rfl) | refine And.intro ?_ ?_ | intro _)
    all_goals exact slOk_lit
  refine AW_cond rfl (fun h1 => ?_) (fun h1 => ?_)
  · first
    | (exfalso; simp_all; done)
    | (
        refine AW_seq ?_
        refine AW_all good th7 (th7_ok) rfl rfl ?_ ?_
        · repeat' (first | exact trivial | exact rfl | exact (fun _ _ => rfl) | refine And.intro ?_ ?_ | intro _)
        refine AW_ret (bodyQ_ret rfl ?_ (Ends.le rfl ?_ ?_))
        · repeat' (first | exact trivial | exact rfl | exact (fun _ _ => rfl) | refine And.intro ?_ ?_ | intro _)
        · repeat' (first | exact trivial | exact rfl | exact (fun _ _ => rfl) | refine And.intro ?_ ?_ | intro _)
        have h : hpRight a l = false := bnot_t h1
        have hm : callIns a l r x = (ar0, 0, 1) := by unfold callIns; rw [h]; rfl
        rw [hm]
        exact SLe.triple zero_ar (CLe.of_eq rfl) (CLe.of_eq rfl)
    )
  · first
    | (exfalso; simp_all; done)
    | (
        refine AW_skip ?_
        refine AW_seq ?_
        refine AW_all good th7 (th7_ok) rfl rfl ?_ ?_
        · repeat' (first | exact trivial | exact rfl | exact (fun _ _ => rfl) | refine And.intro ?_ ?_ | intro _)
        refine AW_seq ?_
        refine AW_eff good th7 (th7_ok) eH3 (eH3_ok) [] rfl rfl ?_ ?_
        · repeat' (first | exact trivial | exact rfl | exact (fun _ _ => rfl) | refine And.intro ?_ ?_ | intro _)
          all_goals exact slOk_lit
        obtain ⟨q, hq⟩ : ∃ q, insF ⟨a, 0⟩ r x = q := ⟨_, rfl⟩
        refine AW_slot 10 (y := .cv (u64 q.2.1)) rfl (SLe.of_eq (by rw [← hq]; rfl)) ?_
        refine AW_slot 11 (y := .cv (iint q.2.2)) rfl (SLe.of_eq (by rw [← hq]; rfl)) ?_
        refine AW_blk 2 rfl (B := bkV 109 piE q.1) (BLe.of_eq (by rw [← hq]; rfl)) ?_
        refine AW_seq ?_
        refine AW_seq ?_
        refine AW_all good th7 (th7_ok) rfl rfl ?_ ?_
        · repeat' (first | exact trivial | exact rfl | exact (fun _ _ => rfl) | refine And.intro ?_ ?_ | intro _)
        refine AW_cond rfl (fun h2 => ?_) (fun h2 => ?_)
        · first
          | (exfalso; simp_all; done)
          | (
              refine AW_all good th7 (th7_ok) rfl rfl ?_ ?_
              · repeat' (first | exact trivial | exact rfl | exact (fun _ _ => rfl) | refine And.intro ?_ ?_ | intro _)
              refine AW_seq ?_
              refine AW_seq ?_
              refine AW_all good th7 (th7_ok) rfl rfl ?_ ?_
              · repeat' (first | exact trivial | exact rfl | exact (fun _ _ => rfl) | refine And.intro ?_ ?_ | intro _)
              refine AW_cond rfl (fun h3 => ?_) (fun h3 => ?_)
              · first
                | (exfalso; simp_all; done)
                | (
                    refine AW_seq ?_
                    refine AW_all good th7 (th7_ok) rfl rfl ?_ ?_
                    · repeat' (first | exact trivial | exact rfl | exact (fun _ _ => rfl) | refine And.intro ?_ ?_ | intro _)
                    refine AW_ret (bodyQ_ret rfl ?_ (Ends.le rfl ?_ ?_))
                    · repeat' (first | exact trivial | exact rfl | exact (fun _ _ => rfl) | refine And.intro ?_ ?_ | intro _)
                    · repeat' (first | exact trivial | exact rfl | exact (fun _ _ => rfl) | refine And.intro ?_ ?_ | intro _)
                    have h : hpRight a l = true := bnot_f h1
                    have hm : callIns a l r x = (ar0, 0, q.1.bad) := by
                      unfold callIns callEnd
                      rw [h, hq, h2]
                      show (bif (q.1.bad != 0) then (ar0, 0, q.1.bad) else (q.1.a, q.2.1, (0 : Int))) = _
                      rw [h3]
                      rfl
                    rw [hm]
                    exact SLe.triple zero_ar (CLe.of_eq rfl) (CLe.of_eq rfl)
                )
              · first
                | (exfalso; simp_all; done)
                | (
                    refine AW_skip ?_
                    refine AW_seq ?_
                    refine AW_all good th7 (th7_ok) rfl rfl ?_ ?_
                    · repeat' (first | exact trivial | exact rfl | exact (fun _ _ => rfl) | refine And.intro ?_ ?_ | intro _)
                    refine AW_ret (bodyQ_ret rfl ?_ (Ends.le rfl ?_ ?_))
                    · repeat' (first | exact trivial | exact rfl | exact (fun _ _ => rfl) | refine And.intro ?_ ?_ | intro _)
                    · repeat' (first | exact trivial | exact rfl | exact (fun _ _ => rfl) | refine And.intro ?_ ?_ | intro _)
                    have h : hpRight a l = true := bnot_f h1
                    have hm : callIns a l r x = (q.1.a, q.2.1, 0) := by
                      unfold callIns callEnd
                      rw [h, hq, h2]
                      show (bif (q.1.bad != 0) then (ar0, 0, q.1.bad) else (q.1.a, q.2.1, (0 : Int))) = _
                      rw [h3]
                      rfl
                    rw [hm]
                    exact SLe.of_eq rfl
                )
          )
        · first
          | (exfalso; simp_all; done)
          | (
              refine AW_skip ?_
              refine AW_seq ?_
              refine AW_seq ?_
              refine AW_all good th7 (th7_ok) rfl rfl ?_ ?_
              · repeat' (first | exact trivial | exact rfl | exact (fun _ _ => rfl) | refine And.intro ?_ ?_ | intro _)
              refine AW_cond rfl (fun h4 => ?_) (fun h4 => ?_)
              · first
                | (exfalso; simp_all; done)
                | (
                    refine AW_seq ?_
                    refine AW_all good th7 (th7_ok) rfl rfl ?_ ?_
                    · repeat' (first | exact trivial | exact rfl | exact (fun _ _ => rfl) | refine And.intro ?_ ?_ | intro _)
                    refine AW_ret (bodyQ_ret rfl ?_ (Ends.le rfl ?_ ?_))
                    · repeat' (first | exact trivial | exact rfl | exact (fun _ _ => rfl) | refine And.intro ?_ ?_ | intro _)
                    · repeat' (first | exact trivial | exact rfl | exact (fun _ _ => rfl) | refine And.intro ?_ ?_ | intro _)
                    have h : hpRight a l = true := bnot_f h1
                    have h3 : (q.2.2 != 0) = true := by assumption
                    have hm : callIns a l r x = (ar0, 0, q.2.2) := by
                      unfold callIns callEnd
                      rw [h, hq, h2]
                      show (bif (q.2.2 != 0) then (ar0, 0, q.2.2) else (q.1.a, q.2.1, (0 : Int))) = _
                      rw [h3]
                      rfl
                    rw [hm]
                    exact SLe.triple zero_ar (CLe.of_eq rfl) (CLe.of_eq rfl)
                )
              · first
                | (exfalso; simp_all; done)
                | (
                    refine AW_skip ?_
                    refine AW_seq ?_
                    refine AW_all good th7 (th7_ok) rfl rfl ?_ ?_
                    · repeat' (first | exact trivial | exact rfl | exact (fun _ _ => rfl) | refine And.intro ?_ ?_ | intro _)
                    refine AW_ret (bodyQ_ret rfl ?_ (Ends.le rfl ?_ ?_))
                    · repeat' (first | exact trivial | exact rfl | exact (fun _ _ => rfl) | refine And.intro ?_ ?_ | intro _)
                    · repeat' (first | exact trivial | exact rfl | exact (fun _ _ => rfl) | refine And.intro ?_ ?_ | intro _)
                    exfalso
                    have h3 : (q.2.2 != 0) = false := by assumption
                    simp at h2 h3
                    exact h2 h3
                )
          )
    )

noncomputable def th8 : Tab := tabG2 42 43 arA (codSl refE) (ptrA refE) (ptrA itE) (fun a l r x => .tup [arC (callIns a l r x).1, u64 (callIns a l r x).2.1, iint (callIns a l r x).2.2]) (fun _ _ _ _ => True) (tabC2 33 arA rI (fun a r => .tup [itC (minX a r), iint (minE a r)]) (fun _ _ => True) th7)
theorem th8_ok : TabOk Try.prog th8 := tabG2_ok rfl (fun a l r x _ => callInsert a l r x) (tabC2_ok rfl (fun a r _ => heapMin a r) th7_ok)
/-- An item is put into a heap. -/
noncomputable def insA (a : Ar) (r : Int) (x : Item) : Ar × Int × Int := bif hpOk a r then callEnd (insF ⟨a, 0⟩ r x) else (ar0, 0, 1)
theorem callIns_one {a : Ar} {f : Nat → Int} {r : Int} {x : Item} (h : f 0 = r) : callIns a ⟨1, f⟩ r x = insA a r x := by
  unfold callIns insA
  rw [hpRight_one h]

theorem heapInsert (a : Ar) (r : Int) (x : Item) : PCall Try.prog 19 [arC a, u64 r, itC x] (.tup [arC (insA a r x).1, u64 (insA a r x).2.1, iint (insA a r x).2.2]) := by
  refine PCall_of (ACall_body good Try.func19 rfl 17 rfl (by simp) ?_)
  refine AW_seq ?_
  refine AW_eff good th8 (th8_ok) et0 (et0_ok _) [1, 2] rfl rfl ?_ ?_
  · repeat' (first | exact trivial | exact rfl | exact (fun _ _ => rfl) | refine And.intro ?_ ?_ | intro _)
  refine AW_seq ?_
  refine AW_eff good th8 (th8_ok) et0 (et0_ok _) [2] rfl rfl ?_ ?_
  · repeat' (first | exact trivial | exact rfl | exact (fun _ _ => rfl) | refine And.intro ?_ ?_ | intro _)
    all_goals (first | exact one_ok | omega | exact slOk_lit)
  refine AW_ret (bodyQ_ret rfl ?_ (Ends.le rfl ?_ ?_))
  · repeat' (first | exact trivial | exact rfl | exact (fun _ _ => rfl) | refine And.intro ?_ ?_ | intro _)
  · repeat' (first | exact trivial | exact rfl | exact (fun _ _ => rfl) | refine And.intro ?_ ?_ | intro _)
  rw [← callIns_one (f := fun _ => r) rfl]
  exact SLe.of_eq rfl

end Go.Proofs.Ytadgjhbhghhbgaa.Abs
