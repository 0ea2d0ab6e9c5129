/-
  THE CONTRACTS OF PACKAGE heap: Meld.
-/
import Derived.Test.YtadgjhbhghhbgaaHp6
namespace Go.Proofs.Ytadgjhbhghhbgaa.Abs
open Go
set_option maxRecDepth 10000

noncomputable def th9 : Tab := tabC2 55 arA (codSl refE) (fun a l => .tup [.one (.imm (slI intE (reachL a l))), iint (reachE a)]) (fun _ _ => True) th8
theorem th9_ok : TabOk Try.prog th9 := tabC2_ok rfl (fun a l _ => arenaReach a l) th8_ok
def lst (l : List Int) : Sl Int := ⟨l.length, fun i => l.getD i 0⟩
theorem rootsF_ext {a : Ar} {f g : Nat → Int} : ∀ (n : Nat), (∀ i, i < n → f i = g i) → rootsF a f n = rootsF a g n
  | 0, _ => rfl
  | n + 1, h => by
    unfold rootsF
    rw [rootsF_ext n fun i hi => h i (by omega), h n (by omega)]
theorem reach_one {a : Ar} {f : Nat → Int} {x : Int} (h : f 0 = x) : reachL a ⟨1, f⟩ = reachL a (lst [x]) := by
  rw [reachL_eq]
  unfold reachR
  rw [rootsF_ext 1 (g := (lst [x]).at_) fun i hi => by
    obtain rfl : i = 0 := by omega
    exact h]
  rfl
theorem reach_two {a : Ar} {f : Nat → Int} {x y : Int} (h0 : f 0 = x) (h1 : f 1 = y) : reachL a ⟨2, f⟩ = reachL a (lst [x, y]) := by
  rw [reachL_eq]
  unfold reachR
  rw [rootsF_ext 2 (g := (lst [x, y]).at_) fun i hi => by
    match i, hi with
    | 0, _ => exact h0
    | 1, _ => exact h1]
  rfl
theorem pair_ok {r s : Int} : slOk refE (.sl 1 2 false fun i q => [ivOf (Value.int .u64 r), ivOf (Value.int .u64 s)].getD (i * 1 + q) ivDef) := .inr ⟨rfl, fun i hi => by
  match i, hi with
  | 0, _ => rfl
  | 1, _ => rfl⟩
/-- Whether two heaps may not be put together. -/
def meldNo (l m b : Sl Int) : Bool := bif ((b.n : Int) != IntKind.i64.wrap ((l.n : Int) + m.n)) then true else decide ((b.n : Int) > 200)
noncomputable def meldF (p : Pile) (a : Ar) (x y : Int) : Pile × Int × Int := bif meldNo (reachL a (lst [x])) (reachL a (lst [y])) (reachL a (lst [x, y])) then (p, 0, 5) else ((hpMeld p x y).1, (hpMeld p x y).2, 0)

set_option maxHeartbeats 1000000 in
theorem meld1 (p : Pile) (a : Ar) (x y : Int) : ACall Try.prog 54 [.one (.own 0 0 0 0), .one ((ptrA arE).enc a), .one ((ptrA refE).enc x), .one ((ptrA refE).enc y)] (heapOf [bkV 109 piE p]) 1 fun x' H' n' => x' = .tup [u64 (meldF p a x y).2.1, iint (meldF p a x y).2.2] ∧ H' = updH (heapOf [bkV 109 piE p]) (updL 0 [some (bkV 109 piE (meldF p a x y).1)]) ∧ n' = 1 + 0 := by
  refine ACall_norm (Bs := [bkV 109 piE p]) (cnt := 0) ?_
  change ACall _ _ _ _ 1 _
  refine ACall_body good Try.func54 rfl 52 rfl (by simp) ?_
  refine AW_seq ?_
  refine AW_all good th9 (th9_ok) rfl rfl ?_ ?_
  · repeat' (first | exact trivial | exact rfl | exact (fun _ _ => rfl) | refine And.intro ?_ ?_ | intro _)
  refine AW_seq ?_
  refine AW_eff good th9 (th9_ok) eH2 (eH2_ok) [2] rfl rfl ?_ ?_
  · repeat' (first | exact trivial | exact rfl | exact (fun _ _ => rfl) | refine And.intro ?_ ?_ | intro _)
    all_goals (first | exact one_ok | omega | exact slOk_lit)
  obtain ⟨L, hL⟩ : ∃ q, reachL a (lst [x]) = q := ⟨_, rfl⟩
  refine AW_slot 7 (y := .cv (.one (.imm (slI intE L)))) rfl (SLe.of_eq (congrArg (fun q => SV.cv (.one (.imm (slI intE q)))) ((reach_one rfl).trans hL))) ?_
  refine AW_seq ?_
  refine AW_eff good th9 (th9_ok) eH2 (eH2_ok) [2] rfl rfl ?_ ?_
  · repeat' (first | exact trivial | exact rfl | exact (fun _ _ => rfl) | refine And.intro ?_ ?_ | intro _)
    all_goals (first | exact one_ok | omega | exact slOk_lit)
  obtain ⟨M, hM⟩ : ∃ q, reachL a (lst [y]) = q := ⟨_, rfl⟩
  refine AW_slot 9 (y := .cv (.one (.imm (slI intE M)))) rfl (SLe.of_eq (congrArg (fun q => SV.cv (.one (.imm (slI intE q)))) ((reach_one rfl).trans hM))) ?_
  refine AW_seq ?_
  refine AW_eff good th9 (th9_ok) eH2 (eH2_ok) [3] rfl rfl ?_ ?_
  · repeat' (first | exact trivial | exact rfl | exact (fun _ _ => rfl) | refine And.intro ?_ ?_ | intro _)
    all_goals (first | exact pair_ok | omega | exact slOk_lit)
  obtain ⟨B, hB⟩ : ∃ q, reachL a (lst [x, y]) = q := ⟨_, rfl⟩
  refine AW_slot 11 (y := .cv (.one (.imm (slI intE B)))) rfl (SLe.of_eq (congrArg (fun q => SV.cv (.one (.imm (slI intE q)))) ((reach_two rfl rfl).trans hB))) ?_
  refine AW_seq ?_
  refine AW_seq ?_
  refine AW_all good th9 (th9_ok) rfl rfl ?_ ?_
  · repeat' (first | exact trivial | exact rfl | exact (fun _ _ => rfl) | refine And.intro ?_ ?_ | intro _)
    all_goals (first | assumption | (rename_i hg; exact eqf hg))
  refine AW_cond rfl (fun h1 => ?_) (fun h1 => ?_)
  · first
    | (exfalso; simp_all; done)
    | (
        refine AW_seq ?_
        refine AW_all good th9 (th9_ok) rfl rfl ?_ ?_
        · repeat' (first | exact trivial | exact rfl | exact (fun _ _ => rfl) | refine And.intro ?_ ?_ | intro _)
        have hm : meldF p a x y = (p, 0, 5) := by
          have h : meldNo L M B = true := h1
          unfold meldF
          rw [hL, hM, hB, h]
          rfl
        refine AW_ret ?_
        refine ⟨_, _, rfl, ?_, [0], rfl, EndsE.all (Us := [some (bkV 109 piE (meldF p a x y).1)]) rfl rfl rfl ?_ ?_⟩
        · repeat' (first | exact trivial | exact rfl | exact (fun _ _ => rfl) | refine And.intro ?_ ?_ | intro _)
        · rw [hm]
          exact SLe.of_eq rfl
        · exact ⟨⟨_, rfl, by rw [hm]; exact BLe.of_eq rfl⟩, trivial⟩
    )
  · first
    | (exfalso; simp_all; done)
    | (
        refine AW_skip ?_
        refine AW_seq ?_
        refine AW_eff good th9 (th9_ok) eH2 (eH2_ok) [] rfl rfl ?_ ?_
        · repeat' (first | exact trivial | exact rfl | exact (fun _ _ => rfl) | refine And.intro ?_ ?_ | intro _)
          all_goals exact slOk_lit
        have hm : meldF p a x y = ((hpMeld p x y).1, (hpMeld p x y).2, 0) := by
          have h : meldNo L M B = false := h1
          unfold meldF
          rw [hL, hM, hB, h]
          rfl
        refine AW_ret ?_
        refine ⟨_, _, rfl, ?_, [0], rfl, EndsE.all (Us := [some (bkV 109 piE (meldF p a x y).1)]) rfl rfl rfl ?_ ?_⟩
        · repeat' (first | exact trivial | exact rfl | exact (fun _ _ => rfl) | refine And.intro ?_ ?_ | intro _)
        · rw [hm]
          exact SLe.of_eq rfl
        · exact ⟨⟨_, rfl, by rw [hm]; exact BLe.of_eq rfl⟩, trivial⟩
    )

/-- A function on a variable of ours that captured three things. -/
def spC3 {β γ δ ε : Type} (ty : TypeId) (e : Enc β) (C : CodA γ) (D : CodA δ) (G : CodA ε) (r : β → γ → δ → ε → SV) (s : β → γ → δ → ε → β) (q : β → γ → δ → ε → Prop) : Spec := fun a0 Bs => match a0, Bs with
  | [.one (.own 0 0 0 0), .one c, .one d, .one g], [B] => match decV ty e B, C.dec c, D.dec d, G.dec g with
    | some (y, p), some (x, p'), some (z, p2), some (u, p3) => some (r y x z u, [(0, some (bkV ty e (s y x z u)))], 0, p ∧ (p' ∧ (p2 ∧ (p3 ∧ q y x z u))))
    | _, _, _, _ => none
  | _, _ => none
theorem spC3_ok {P : Program} {F : FuncId} {β γ δ ε : Type} {ty : TypeId} {e : Enc β} {C : CodA γ} {D : CodA δ} {G : CodA ε} {r : β → γ → δ → ε → SV} {s : β → γ → δ → ε → β} {q : β → γ → δ → ε → Prop}
    (h : ∀ y x z u, q y x z u → ACall P F [.one (.own 0 0 0 0), .one (C.enc x), .one (D.enc z), .one (G.enc u)] (heapOf [bkV ty e y]) 1 fun x' H' n' => x' = r y x z u ∧ H' = updH (heapOf [bkV ty e y]) [(0, some (bkV ty e (s y x z u)))] ∧ n' = 1 + 0) : SpecOk P F (spC3 ty e C D G r s q) := by
  intro a0 Bs r' U n vc hs hv
  unfold spC3 at hs
  split at hs
  · split at hs
    · rename_i h1 h2 h3 h4
      simp only [Option.some.injEq, Prod.mk.injEq] at hs
      obtain ⟨rfl, rfl, rfl, rfl⟩ := hs
      exact ⟨_, [bkV ty e _], TLe.cons (CLe.refl _) (TLe.cons (C.le _ _ _ h2 hv.2.1) (TLe.cons (D.le _ _ _ h3 hv.2.2.1) (TLe.cons (G.le _ _ _ h4 hv.2.2.2.1) TLe.nil))), ⟨decV_le h1 hv.1, trivial⟩, h _ _ _ _ hv.2.2.2.2⟩
    · cases hs
  · cases hs
/-- On two values and a function that captured three things. -/
def tabG3 {α β γ δ ε : Type} (F G : FuncId) (A : Cod α) (B : Cod β) (C : CodA γ) (D : CodA δ) (I : CodA ε) (r : α → β → γ → δ → ε → SV) (q : α → β → γ → δ → ε → Prop) (t : Tab) : Tab := tabAdd F (fun args => match args with
  | [a, b, .one (.fn (.func g) 0 _ 3 caps)] => bif Nat.beq g G then match A.dec a, B.dec b, C.dec (caps 0), D.dec (caps 1), I.dec (caps 2) with
    | some (x, p), some (y, p1), some (z, p2), some (u, p3), some (v, p4) => some (r x y z u v, p ∧ (p1 ∧ (p2 ∧ (p3 ∧ (p4 ∧ q x y z u v)))))
    | _, _, _, _, _ => none
    else t F args
  | _ => t F args) t
theorem tabG3_ok {P : Program} {α β γ δ ε : Type} {F G : FuncId} {A : Cod α} {B : Cod β} {C : CodA γ} {D : CodA δ} {I : CodA ε} {r : α → β → γ → δ → ε → SV} {q : α → β → γ → δ → ε → Prop} {t : Tab} (hf : CallOk P F) (h : ∀ x y z u v, q x y z u v → PCall P F [A.enc x, B.enc y, .one (fnV G [C.enc z, D.enc u, I.enc v])] (r x y z u v)) (ht : TabOk P t) : TabOk P (tabG3 F G A B C D I r q t) := by
  refine tabAdd_ok hf (fun args r p hc hp => ?_) ht
  split at hc
  · rename_i a b g first caps
    cases hb : Nat.beq g G with
    | true =>
      rw [hb] at hc
      simp only [cond_true] at hc
      obtain rfl := Nat.eq_of_beq_eq_true hb
      split at hc
      · rename_i h1 h2 h3 h4 h5
        simp only [Option.some.injEq, Prod.mk.injEq] at hc; obtain ⟨rfl, rfl⟩ := hc
        refine (h _ _ _ _ _ hp.2.2.2.2.2).args (TLe.cons (A.le _ _ _ h1 hp.1) (TLe.cons (B.le _ _ _ h2 hp.2.1) (TLe.cons (CLe.fn (fun i hi => absurd hi (Nat.not_lt_zero i)) (fun i hi => ?_)) TLe.nil)))
        match i, hi with
        | 0, _ => exact C.le _ _ _ h3 hp.2.2.1
        | 1, _ => exact D.le _ _ _ h4 hp.2.2.2.1
        | 2, _ => exact I.le _ _ _ h5 hp.2.2.2.2.1
      · cases hc
    | false => rw [hb] at hc; exact (ht _ _ _ _ hc hp).2
  · exact (ht _ _ _ _ hc hp).2
noncomputable def eH4 : ETab := etC 54 (spC3 109 piE (ptrA arE) (ptrA refE) (ptrA refE) (fun p a x y => .tup [u64 (meldF p a x y).2.1, iint (meldF p a x y).2.2]) (fun p a x y => (meldF p a x y).1) fun _ _ _ _ => True) eH3
theorem eH4_ok : ETabOk Try.prog eH4 := etC_ok rfl (spC3_ok fun p a x y _ => meld1 p a x y) eH3_ok
noncomputable def callMel (a : Ar) (l : Sl Int) (b : Ar) (x y : Int) : Ar × Int × Int := bif hpRight a l then callEnd (meldF ⟨a, 0⟩ b x y) else (ar0, 0, 1)

set_option maxHeartbeats 1000000 in
theorem callMeld (a : Ar) (l : Sl Int) (b : Ar) (x y : Int) : PCall Try.prog 42 [arC a, .one (.imm (slI refE l)), .one (fnV 54 [(ptrA arE).enc b, (ptrA refE).enc x, (ptrA refE).enc y])] (.tup [arC (callMel a l b x y).1, u64 (callMel a l b x y).2.1, iint (callMel a l b x y).2.2]) := by
  refine PCall_of (ACall_body good Try.func42 rfl 41 rfl (by simp) ?_)
  refine AW_seq ?_
  refine AW_all good th9 (th9_ok) rfl rfl ?_ ?_
  · repeat' (first | exact trivial | exact rfl | exact (fun _ _ => rfl) | refine And.intro ?_ ?_ | intro _)
  refine AW_seq ?_
  refine AW_seq ?_
  refine AW_all good th9 (th9_ok) rfl rfl ?_ ?_
  · repeat' (first | exact trivial | exact rfl | exact (fun _ _ => rfl) | refine And.intro ?_ ?_ | intro _)
    all_goals exact slOk_lit
  refine AW_cond rfl (fun h1 => ?_) (fun h1 => ?_)
  · first
    | (exfalso; simp_all; done)
    | (
        refine AW_seq ?_
        refine AW_all good th9 (th9_ok) rfl rfl ?_ ?_
        · repeat' (first | exact trivial | exact rfl | exact (fun _ _ => rfl) | refine And.intro ?_ ?_ | intro _)
        refine AW_ret (bodyQ_ret rfl ?_ (Ends.le rfl ?_ ?_))
        · repeat' (first | exact trivial | exact rfl | exact (fun _ _ => rfl) | refine And.intro ?_ ?_ | intro _)
        · repeat' (first | exact trivial | exact rfl | exact (fun _ _ => rfl) | refine And.intro ?_ ?_ | intro _)
        have h : hpRight a l = false := bnot_t h1
        have hm : callMel a l b x y = (ar0, 0, 1) := by unfold callMel; rw [h]; rfl
        rw [hm]
        exact SLe.triple zero_ar (CLe.of_eq rfl) (CLe.of_eq rfl)
    )
  · first
    | (exfalso; simp_all; done)
    | (
        refine AW_skip ?_
        refine AW_seq ?_
        refine AW_all good th9 (th9_ok) rfl rfl ?_ ?_
        · repeat' (first | exact trivial | exact rfl | exact (fun _ _ => rfl) | refine And.intro ?_ ?_ | intro _)
        refine AW_seq ?_
        refine AW_eff good th9 (th9_ok) eH4 (eH4_ok) [] rfl rfl ?_ ?_
        · repeat' (first | exact trivial | exact rfl | exact (fun _ _ => rfl) | refine And.intro ?_ ?_ | intro _)
          all_goals exact slOk_lit
        obtain ⟨q, hq⟩ : ∃ q, meldF ⟨a, 0⟩ b x y = q := ⟨_, rfl⟩
        refine AW_slot 10 (y := .cv (u64 q.2.1)) rfl (SLe.of_eq (by rw [← hq]; rfl)) ?_
        refine AW_slot 11 (y := .cv (iint q.2.2)) rfl (SLe.of_eq (by rw [← hq]; rfl)) ?_
        refine AW_blk 2 rfl (B := bkV 109 piE q.1) (BLe.of_eq (by rw [← hq]; rfl)) ?_
        refine AW_seq ?_
        refine AW_seq ?_
        refine AW_all good th9 (th9_ok) rfl rfl ?_ ?_
        · repeat' (first | exact trivial | exact rfl | exact (fun _ _ => rfl) | refine And.intro ?_ ?_ | intro _)
        refine AW_cond rfl (fun h2 => ?_) (fun h2 => ?_)
        · first
          | (exfalso; simp_all; done)
          | (
              refine AW_all good th9 (th9_ok) rfl rfl ?_ ?_
              · repeat' (first | exact trivial | exact rfl | exact (fun _ _ => rfl) | refine And.intro ?_ ?_ | intro _)
              refine AW_seq ?_
              refine AW_seq ?_
              refine AW_all good th9 (th9_ok) rfl rfl ?_ ?_
              · repeat' (first | exact trivial | exact rfl | exact (fun _ _ => rfl) | refine And.intro ?_ ?_ | intro _)
              refine AW_cond rfl (fun h3 => ?_) (fun h3 => ?_)
              · first
                | (exfalso; simp_all; done)
                | (
                    refine AW_seq ?_
                    refine AW_all good th9 (th9_ok) rfl rfl ?_ ?_
                    · repeat' (first | exact trivial | exact rfl | exact (fun _ _ => rfl) | refine And.intro ?_ ?_ | intro _)
                    refine AW_ret (bodyQ_ret rfl ?_ (Ends.le rfl ?_ ?_))
                    · repeat' (first | exact trivial | exact rfl | exact (fun _ _ => rfl) | refine And.intro ?_ ?_ | intro _)
                    · repeat' (first | exact trivial | exact rfl | exact (fun _ _ => rfl) | refine And.intro ?_ ?_ | intro _)
                    have h : hpRight a l = true := bnot_f h1
                    have hm : callMel a l b x y = (ar0, 0, q.1.bad) := by
                      unfold callMel callEnd
                      rw [h, hq, h2]
                      show (bif (q.1.bad != 0) then (ar0, 0, q.1.bad) else (q.1.a, q.2.1, (0 : Int))) = _
                      rw [h3]
                      rfl
                    rw [hm]
                    exact SLe.triple zero_ar (CLe.of_eq rfl) (CLe.of_eq rfl)
                )
              · first
                | (exfalso; simp_all; done)
                | (
                    refine AW_skip ?_
                    refine AW_seq ?_
                    refine AW_all good th9 (th9_ok) rfl rfl ?_ ?_
                    · repeat' (first | exact trivial | exact rfl | exact (fun _ _ => rfl) | refine And.intro ?_ ?_ | intro _)
                    refine AW_ret (bodyQ_ret rfl ?_ (Ends.le rfl ?_ ?_))
                    · repeat' (first | exact trivial | exact rfl | exact (fun _ _ => rfl) | refine And.intro ?_ ?_ | intro _)
                    · repeat' (first | exact trivial | exact rfl | exact (fun _ _ => rfl) | refine And.intro ?_ ?_ | intro _)
                    have h : hpRight a l = true := bnot_f h1
                    have hm : callMel a l b x y = (q.1.a, q.2.1, 0) := by
                      unfold callMel callEnd
                      rw [h, hq, h2]
                      show (bif (q.1.bad != 0) then (ar0, 0, q.1.bad) else (q.1.a, q.2.1, (0 : Int))) = _
                      rw [h3]
                      rfl
                    rw [hm]
                    exact SLe.of_eq rfl
                )
          )
        · first
          | (exfalso; simp_all; done)
          | (
              refine AW_skip ?_
              refine AW_seq ?_
              refine AW_seq ?_
              refine AW_all good th9 (th9_ok) rfl rfl ?_ ?_
              · repeat' (first | exact trivial | exact rfl | exact (fun _ _ => rfl) | refine And.intro ?_ ?_ | intro _)
              refine AW_cond rfl (fun h4 => ?_) (fun h4 => ?_)
              · first
                | (exfalso; simp_all; done)
                | (
                    refine AW_seq ?_
                    refine AW_all good th9 (th9_ok) rfl rfl ?_ ?_
                    · repeat' (first | exact trivial | exact rfl | exact (fun _ _ => rfl) | refine And.intro ?_ ?_ | intro _)
                    refine AW_ret (bodyQ_ret rfl ?_ (Ends.le rfl ?_ ?_))
                    · repeat' (first | exact trivial | exact rfl | exact (fun _ _ => rfl) | refine And.intro ?_ ?_ | intro _)
                    · repeat' (first | exact trivial | exact rfl | exact (fun _ _ => rfl) | refine And.intro ?_ ?_ | intro _)
                    have h : hpRight a l = true := bnot_f h1
                    have h3 : (q.2.2 != 0) = true := by assumption
                    have hm : callMel a l b x y = (ar0, 0, q.2.2) := by
                      unfold callMel callEnd
                      rw [h, hq, h2]
                      show (bif (q.2.2 != 0) then (ar0, 0, q.2.2) else (q.1.a, q.2.1, (0 : Int))) = _
                      rw [h3]
                      rfl
                    rw [hm]
                    exact SLe.triple zero_ar (CLe.of_eq rfl) (CLe.of_eq rfl)
                )
              · first
                | (exfalso; simp_all; done)
                | (
                    refine AW_skip ?_
                    refine AW_seq ?_
                    refine AW_all good th9 (th9_ok) rfl rfl ?_ ?_
                    · repeat' (first | exact trivial | exact rfl | exact (fun _ _ => rfl) | refine And.intro ?_ ?_ | intro _)
                    refine AW_ret (bodyQ_ret rfl ?_ (Ends.le rfl ?_ ?_))
                    · repeat' (first | exact trivial | exact rfl | exact (fun _ _ => rfl) | refine And.intro ?_ ?_ | intro _)
                    · repeat' (first | exact trivial | exact rfl | exact (fun _ _ => rfl) | refine And.intro ?_ ?_ | intro _)
                    exfalso
                    have h3 : (q.2.2 != 0) = false := by assumption
                    simp at h2 h3
                    exact h2 h3
                )
          )
    )

noncomputable def th10 : Tab := tabG3 42 54 arA (codSl refE) (ptrA arE) (ptrA refE) (ptrA refE) (fun a l b x y => .tup [arC (callMel a l b x y).1, u64 (callMel a l b x y).2.1, iint (callMel a l b x y).2.2]) (fun _ _ _ _ _ => True) th9
theorem th10_ok : TabOk Try.prog th10 := tabG3_ok rfl (fun a l b x y _ => callMeld a l b x y) th9_ok
noncomputable def meldA (a : Ar) (x y : Int) : Ar × Int × Int := callMel a (lst [x, y]) a x y
theorem hpRight_ext {a : Ar} {n : Nat} {f g : Nat → Int} (h : ∀ i, i < n → f i = g i) : hpRight a ⟨n, f⟩ = hpRight a ⟨n, g⟩ := by
  unfold hpRight
  rw [show anyB (fun i => hpNo a (f i)) n = anyB (fun i => hpNo a (g i)) n from anyB_congr fun i hi => congrArg (hpNo a) (h i hi)]
theorem callMel_two {a b : Ar} {f : Nat → Int} {x y : Int} (h0 : f 0 = x) (h1 : f 1 = y) : callMel a ⟨2, f⟩ b x y = callMel a (lst [x, y]) b x y := by
  unfold callMel
  rw [hpRight_ext (g := (lst [x, y]).at_) fun i hi => by
    match i, hi with
    | 0, _ => exact h0
    | 1, _ => exact h1]
  rfl

theorem heapMeld (a : Ar) (x y : Int) : PCall Try.prog 28 [arC a, u64 x, u64 y] (.tup [arC (meldA a x y).1, u64 (meldA a x y).2.1, iint (meldA a x y).2.2]) := by
  refine PCall_of (ACall_body good Try.func28 rfl 18 rfl (by simp) ?_)
  refine AW_seq ?_
  refine AW_eff good th10 (th10_ok) et0 (et0_ok _) [0, 1, 2] rfl rfl ?_ ?_
  · repeat' (first | exact trivial | exact rfl | exact (fun _ _ => rfl) | refine And.intro ?_ ?_ | intro _)
  refine AW_seq ?_
  refine AW_eff good th10 (th10_ok) et0 (et0_ok _) [3] rfl rfl ?_ ?_
  · repeat' (first | exact trivial | exact rfl | exact (fun _ _ => rfl) | refine And.intro ?_ ?_ | intro _)
    all_goals (first | exact pair_ok | omega | exact slOk_lit)
  refine AW_ret (bodyQ_ret rfl ?_ (Ends.le rfl ?_ ?_))
  · repeat' (first | exact trivial | exact rfl | exact (fun _ _ => rfl) | refine And.intro ?_ ?_ | intro _)
  · repeat' (first | exact trivial | exact rfl | exact (fun _ _ => rfl) | refine And.intro ?_ ?_ | intro _)
  exact SLe.of_eq (congrArg (fun q : Ar × Int × Int => SV.tup [arC q.1, u64 q.2.1, iint q.2.2]) (callMel_two (x := x) (y := y) rfl rfl))

end Go.Proofs.Ytadgjhbhghhbgaa.Abs
