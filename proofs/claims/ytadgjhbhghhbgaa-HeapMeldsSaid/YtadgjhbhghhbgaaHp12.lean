/-
  THE LAW HeapMelds, AS IT IS WALKED.
-/
import Derived.Test.YtadgjhbhghhbgaaHp11
namespace Go.Proofs.Ytadgjhbhghhbgaa.Abs
open Go
set_option maxRecDepth 10000

/-- Lay on an arena of ours, as it is met. -/
def spLay : Spec := fun a0 Bs => match a0, Bs with
  | [.agg [.osl 0 e 0 0 n _, .imm c], cp, cl], [B] => bif Nat.beq e 16 then match decR 91 ndE B, nI.dec cp, (codSl itE).dec cl with
    | some (s, q0), some (p, q1), some (l, q2) => some (.cv (u64 (layRf p.toNat l)), [(0, some (bkR 91 ndE (laidN s p.toNat l l.n)))], 0, q0 ∧ (q1 ∧ (q2 ∧ (slOk intE c ∧ (n = s.n ∧ (0 ≤ p ∧ (p.toNat + l.n ≤ s.n ∧ s.n ≤ 512)))))))
    | _, _, _ => none
    else none
  | _, _ => none
theorem spLay_ok : SpecOk Try.prog 30 spLay := by
  intro a0 Bs r' U n' vc hs hv
  unfold spLay at hs
  split at hs
  · rename_i e n app c cp cl B
    cases hb : Nat.beq e 16 with
    | false => rw [hb] at hs; cases hs
    | true =>
      rw [hb] at hs
      simp only [cond_true] at hs
      obtain rfl := Nat.eq_of_beq_eq_true hb
      split at hs
      · rename_i s q0 p q1 l q2 d0 d1 d2
        simp only [Option.some.injEq, Prod.mk.injEq] at hs
        obtain ⟨rfl, rfl, rfl, rfl⟩ := hs
        obtain ⟨p0, p1, p2, p3, rfl, p4, p5, p6⟩ := hv
        have hp : p = (p.toNat : Int) := by omega
        refine ⟨[.agg [.osl 0 16 0 0 s.n false, .imm (slI intE (slG intE c))], iint p, .one (.imm (slI itE l))], [bkR 91 ndE s], TLe.cons (CLe.aggL ⟨CLe.oslf, CLe.imm (slI_le p3), trivial⟩) (TLe.cons (nI.le _ _ _ d1 p1) (TLe.cons ((codSl itE).le _ _ _ d2 p2) TLe.nil)), ⟨decR_le d0 p0, trivial⟩, ?_⟩
        have h := refLay s (slG intE c) p.toNat l p5 p6
        rw [← hp] at h
        exact h
      · cases hs
  · cases hs
def eLay : ETab := etC 30 spLay et0
theorem eLay_ok : ETabOk Try.prog eLay := etC_ok rfl spLay_ok (et0_ok _)
/-- The first items of a row, put in order. -/
def rowW (l : Sl Item) : Nat → Sl Item
  | 0 => ⟨0, fun _ => it0⟩
  | i + 1 => bif Nat.blt i 20 then withI (rowW l i) (l.at_ i) else rowW l i
theorem rowW_t {l : Sl Item} {i : Nat} (h : i < 20) : rowW l (i + 1) = withI (rowW l i) (l.at_ i) := by
  rw [rowW, blt_t h]
  rfl
theorem rowW_f {l : Sl Item} {i : Nat} (h : 20 ≤ i) : rowW l (i + 1) = rowW l i := by
  rw [rowW, blt_f h]
  rfl
theorem rowW_n (l : Sl Item) : ∀ i, (rowW l i).n = min i 20
  | 0 => rfl
  | i + 1 => by
    rcases Nat.lt_or_ge i 20 with h | h
    · rw [rowW_t h]
      show (rowW l i).n + 1 = _
      rw [rowW_n l i]
      omega
    · rw [rowW_f h, rowW_n l i]
      omega
theorem rowW_le (l : Sl Item) (i : Nat) : (rowW l i).n ≤ 512 := by
  rw [rowW_n]
  omega
def nodesM (X Y : Sl Item) : Sl Nd := laidN (laidN ⟨512, fun _ => nd0⟩ 0 X X.n) X.n Y Y.n
/-- The arena in which two rows stand as heaps. -/
def arM (X Y : Sl Item) : Ar := ⟨nodesM X Y, ⟨512 - (X.n + Y.n), fun i => 511 - i⟩⟩
noncomputable def th15 : Tab := tabC0 20 (.cv (ibool aliveB)) True (tabC2 21 (codSl itE) itA (fun s x => .cv (.one (.imm (slI itE (withI s x))))) (fun s _ => s.n ≤ 512) (tabC3 28 arA rI rI (fun a x y => .tup [arC (meldA a x y).1, u64 (meldA a x y).2.1, iint (meldA a x y).2.2]) (fun _ _ _ => True) th14))
theorem th15_ok : TabOk Try.prog th15 := tabC0_ok rfl (fun _ => lawAlive) (tabC2_ok rfl (fun s x h => refWith s x h) (tabC3_ok rfl (fun a x y _ => heapMeld a x y) th14_ok))
def mlChain (A e f g h i s n : Bool) : Bool := bif (bif (bif (bif (bif (bif (bif A then e else false) then f else false) then g else false) then h else false) then i else false) then s else false) then n else false
noncomputable def meldsR (X Y : Sl Item) : Bool := mlChain aliveB ((meldA (arM X Y) (layRf 0 X) (layRf X.n Y)).2.2 == 0) ((meldA (arM X Y) (layRf X.n Y) (layRf 0 X)).2.2 == 0)
  (itemsE (meldA (arM X Y) (layRf 0 X) (layRf X.n Y)).1 (meldA (arM X Y) (layRf 0 X) (layRf X.n Y)).2.1 == 0) (itemsE (meldA (arM X Y) (layRf X.n Y) (layRf 0 X)).1 (meldA (arM X Y) (layRf X.n Y) (layRf 0 X)).2.1 == 0)
  (itemsE (meldA (arM X Y) (layRf 0 X) (layRf X.n Y)).1 (meldA (arM X Y) (layRf 0 X) (layRf X.n Y)).2.1 == 0)
  (sameI (itemsL (meldA (arM X Y) (layRf 0 X) (layRf X.n Y)).1 (meldA (arM X Y) (layRf 0 X) (layRf X.n Y)).2.1) (itemsL (meldA (arM X Y) (layRf X.n Y) (layRf 0 X)).1 (meldA (arM X Y) (layRf X.n Y) (layRf 0 X)).2.1))
  (((itemsL (meldA (arM X Y) (layRf 0 X) (layRf X.n Y)).1 (meldA (arM X Y) (layRf 0 X) (layRf X.n Y)).2.1).n : Int) == IntKind.i64.wrap ((X.n : Int) + Y.n))
theorem cnt_row {k q : Nat} (hq : q < k + 1) : (bif Nat.blt q k then intE.f (511 - (q : Int)) 0 else [IV.val (.int .i64 (511 - (k : Int)))].getD (plusN 0 (q - k) * 1 + 0) ivDef) = intE.f (511 - (q : Int)) 0 := by
  rcases Nat.lt_or_ge q k with h | h
  · rw [blt_t h]
    rfl
  · obtain rfl : q = k := by omega
    rw [blt_f (Nat.le_refl _), Nat.sub_self]
    rfl

set_option maxHeartbeats 2000000 in
theorem lawMelds (l m : Sl Item) : PCall Try.prog 7 [.one (.imm (slI itE l)), .one (.imm (slI itE m))] (.cv (ibool (meldsR (rowW l l.n) (rowW m m.n)))) := by
  refine PCall_of (ACall_body good Try.func7 rfl 147 rfl (by simp) ?_)
  refine AW_lenle 0 rfl (fun hml => ?_)
  refine AW_lenle 1 rfl (fun hmm => ?_)
  refine AW_seq ?_
  refine AW_all good th15 (th15_ok) rfl rfl ?_ ?_
  · repeat' (first | exact trivial | exact rfl | exact (fun _ _ => rfl) | refine And.intro ?_ ?_ | intro _)
    all_goals (first | exact rowW_le _ _ | exact Nat.le_refl _ | exact hlx | exact hly | omega | (unfold maxLen; omega) | exact bytes_ok (by omega) (by decide) | exact bytes_okI (by omega) (by omega) (by decide) | exact of_decide_eq_true (by assumption) | decide | exact slOk_lit | exact slOk_f | exact slOk_nil | assumption | exact .inl rfl | exact .inr rfl | (rename_i hg; exact hg) | (rename_i hg; exact eqf hg) | (rename_i hg; exact eqt hg) | (rename_i hg; change (_ : Bool) = true; rw [hg]; rfl) | (change (_ : Bool) = true; simp_all; done) | skip)
  refine AW_seq ?_
  refine AW_all good th15 (th15_ok) rfl rfl ?_ ?_
  · repeat' (first | exact trivial | exact rfl | exact (fun _ _ => rfl) | refine And.intro ?_ ?_ | intro _)
    all_goals (first | exact rowW_le _ _ | exact Nat.le_refl _ | exact hlx | exact hly | omega | (unfold maxLen; omega) | exact bytes_ok (by omega) (by decide) | exact bytes_okI (by omega) (by omega) (by decide) | exact of_decide_eq_true (by assumption) | decide | exact slOk_lit | exact slOk_f | exact slOk_nil | assumption | exact .inl rfl | exact .inr rfl | (rename_i hg; exact hg) | (rename_i hg; exact eqf hg) | (rename_i hg; exact eqt hg) | (rename_i hg; change (_ : Bool) = true; rw [hg]; rfl) | (change (_ : Bool) = true; simp_all; done) | skip)
  refine AW_seq ?_
  refine AW_seq ?_
  refine AW_all good th15 (th15_ok) rfl rfl ?_ ?_
  · repeat' (first | exact trivial | exact rfl | exact (fun _ _ => rfl) | refine And.intro ?_ ?_ | intro _)
    all_goals (first | exact rowW_le _ _ | exact Nat.le_refl _ | exact hlx | exact hly | omega | (unfold maxLen; omega) | exact bytes_ok (by omega) (by decide) | exact bytes_okI (by omega) (by omega) (by decide) | exact of_decide_eq_true (by assumption) | decide | exact slOk_lit | exact slOk_f | exact slOk_nil | assumption | exact .inl rfl | exact .inr rfl | (rename_i hg; exact hg) | (rename_i hg; exact eqf hg) | (rename_i hg; exact eqt hg) | (rename_i hg; change (_ : Bool) = true; rw [hg]; rfl) | (change (_ : Bool) = true; simp_all; done) | skip)
  refine AW_block ?_
  refine AW_loopX [1, 6, 27, 28] [] (fun j : { i : Nat // i ≤ l.n } => [(29, .cv (iint j.1)), (5, .cv (.one (.imm (slI itE (rowW l j.1)))))]) (fun j => []) (fun j => l.n - j.1) ⟨0, Nat.zero_le _⟩ ⟨SLe.of_eq rfl, SLe.cv (CLe.imm (ILe.sl rfl (by simp) (.inl rfl))), trivial⟩ trivial ?_
  rintro ⟨i, hi⟩
  dsimp only at hi ⊢
  refine AW_seq ?_
  refine AW_all good th15 (th15_ok) rfl rfl ?_ ?_
  · repeat' (first | exact trivial | exact rfl | exact (fun _ _ => rfl) | refine And.intro ?_ ?_ | intro _)
    all_goals (first | exact rowW_le _ _ | exact Nat.le_refl _ | exact hlx | exact hly | omega | (unfold maxLen; omega) | exact bytes_ok (by omega) (by decide) | exact bytes_okI (by omega) (by omega) (by decide) | exact of_decide_eq_true (by assumption) | decide | exact slOk_lit | exact slOk_f | exact slOk_nil | assumption | exact .inl rfl | exact .inr rfl | (rename_i hg; exact hg) | (rename_i hg; exact eqf hg) | (rename_i hg; exact eqt hg) | (rename_i hg; change (_ : Bool) = true; rw [hg]; rfl) | (change (_ : Bool) = true; simp_all; done) | skip)
  refine AW_seq ?_
  refine AW_cond rfl (fun h1 => ?_) (fun h1 => ?_)
  · first
    | (exfalso; simp_all; done)
    | (
        refine AW_skip ?_
        refine AW_seq ?_
        refine AW_block ?_
        refine AW_seq ?_
        have hlt : i < l.n := by
          have h : (i : Int) < (l.n : Int) := of_decide_eq_true (by assumption)
          omega
        refine AW_all good th15 (th15_ok) rfl rfl ?_ ?_
        · repeat' (first | exact trivial | exact rfl | exact (fun _ _ => rfl) | refine And.intro ?_ ?_ | intro _)
          all_goals (first | exact rowW_le _ _ | exact Nat.le_refl _ | exact hlx | exact hly | omega | (unfold maxLen; omega) | exact bytes_ok (by omega) (by decide) | exact bytes_okI (by omega) (by omega) (by decide) | exact of_decide_eq_true (by assumption) | decide | exact slOk_lit | exact slOk_f | exact slOk_nil | assumption | exact .inl rfl | exact .inr rfl | (rename_i hg; exact hg) | (rename_i hg; exact eqf hg) | (rename_i hg; exact eqt hg) | (rename_i hg; change (_ : Bool) = true; rw [hg]; rfl) | (change (_ : Bool) = true; simp_all; done) | skip)
        refine AW_seq ?_
        refine AW_all good th15 (th15_ok) rfl rfl ?_ ?_
        · repeat' (first | exact trivial | exact rfl | exact (fun _ _ => rfl) | refine And.intro ?_ ?_ | intro _)
          all_goals (first | exact rowW_le _ _ | exact Nat.le_refl _ | exact hlx | exact hly | omega | (unfold maxLen; omega) | exact bytes_ok (by omega) (by decide) | exact bytes_okI (by omega) (by omega) (by decide) | exact of_decide_eq_true (by assumption) | decide | exact slOk_lit | exact slOk_f | exact slOk_nil | assumption | exact .inl rfl | exact .inr rfl | (rename_i hg; exact hg) | (rename_i hg; exact eqf hg) | (rename_i hg; exact eqt hg) | (rename_i hg; change (_ : Bool) = true; rw [hg]; rfl) | (change (_ : Bool) = true; simp_all; done) | skip)
        refine AW_cond rfl (fun h2 => ?_) (fun h2 => ?_)
        · first
          | (exfalso; simp_all; done)
          | (
              have h20 : i < 20 := by
                have h : (i : Int) < 20 := of_decide_eq_true (by assumption)
                omega
              refine AW_all good th15 (th15_ok) rfl rfl ?_ ?_
              · repeat' (first | exact trivial | exact rfl | exact (fun _ _ => rfl) | refine And.intro ?_ ?_ | intro _)
                all_goals (first | exact rowW_le _ _ | exact Nat.le_refl _ | exact hlx | exact hly | omega | (unfold maxLen; omega) | exact bytes_ok (by omega) (by decide) | exact bytes_okI (by omega) (by omega) (by decide) | exact of_decide_eq_true (by assumption) | decide | exact slOk_lit | exact slOk_f | exact slOk_nil | assumption | exact .inl rfl | exact .inr rfl | (rename_i hg; exact hg) | (rename_i hg; exact eqf hg) | (rename_i hg; exact eqt hg) | (rename_i hg; change (_ : Bool) = true; rw [hg]; rfl) | (change (_ : Bool) = true; simp_all; done) | skip)
              skip
              refine AW_all good th15 (th15_ok) rfl rfl ?_ ?_
              · repeat' (first | exact trivial | exact rfl | exact (fun _ _ => rfl) | refine And.intro ?_ ?_ | intro _)
                all_goals (first | exact rowW_le _ _ | exact Nat.le_refl _ | exact hlx | exact hly | omega | (unfold maxLen; omega) | exact bytes_ok (by omega) (by decide) | exact bytes_okI (by omega) (by omega) (by decide) | exact of_decide_eq_true (by assumption) | decide | exact slOk_lit | exact slOk_f | exact slOk_nil | assumption | exact .inl rfl | exact .inr rfl | (rename_i hg; exact hg) | (rename_i hg; exact eqf hg) | (rename_i hg; exact eqt hg) | (rename_i hg; change (_ : Bool) = true; rw [hg]; rfl) | (change (_ : Bool) = true; simp_all; done) | skip)
              refine loopX_next ⟨i + 1, hlt⟩ [] rfl rfl ⟨SLe.of_eq (congrArg (fun z => SV.cv (iint z)) (next_int i l.n hlt hml)), SLe.of_eq (congrArg (fun z => SV.cv (.one (.imm (slI itE z)))) (rowW_t h20).symm), trivial⟩ ⟨SLe.of_eq rfl, SLe.of_eq rfl, SLe.of_eq rfl, SLe.of_eq rfl, trivial⟩ trivial trivial ?_
              show l.n - (i + 1) < l.n - i
              omega
          )
        · first
          | (exfalso; simp_all; done)
          | (
              refine AW_skip ?_
              have h20 : 20 ≤ i := by
                have h : ¬ (i : Int) < 20 := of_decide_eq_false (by assumption)
                omega
              refine AW_all good th15 (th15_ok) rfl rfl ?_ ?_
              · repeat' (first | exact trivial | exact rfl | exact (fun _ _ => rfl) | refine And.intro ?_ ?_ | intro _)
                all_goals (first | exact rowW_le _ _ | exact Nat.le_refl _ | exact hlx | exact hly | omega | (unfold maxLen; omega) | exact bytes_ok (by omega) (by decide) | exact bytes_okI (by omega) (by omega) (by decide) | exact of_decide_eq_true (by assumption) | decide | exact slOk_lit | exact slOk_f | exact slOk_nil | assumption | exact .inl rfl | exact .inr rfl | (rename_i hg; exact hg) | (rename_i hg; exact eqf hg) | (rename_i hg; exact eqt hg) | (rename_i hg; change (_ : Bool) = true; rw [hg]; rfl) | (change (_ : Bool) = true; simp_all; done) | skip)
              refine loopX_next ⟨i + 1, hlt⟩ [] rfl rfl ⟨SLe.of_eq (congrArg (fun z => SV.cv (iint z)) (next_int i l.n hlt hml)), SLe.of_eq (congrArg (fun z => SV.cv (.one (.imm (slI itE z)))) (rowW_f h20).symm), trivial⟩ ⟨SLe.of_eq rfl, SLe.of_eq rfl, SLe.of_eq rfl, SLe.of_eq rfl, trivial⟩ trivial trivial ?_
              show l.n - (i + 1) < l.n - i
              omega
          )
    )
  · first
    | (exfalso; simp_all; done)
    | (
        refine AW_exit ?_
        refine AW_seq ?_
        refine AW_seq ?_
        have hend : i = l.n := by
          have h : ¬ (i : Int) < (l.n : Int) := of_decide_eq_false (by assumption)
          omega
        subst hend
        obtain ⟨X, hX⟩ : ∃ X, rowW l l.n = X := ⟨_, rfl⟩
        have hXn : X.n ≤ 20 := by
          rw [← hX, rowW_n]
          omega
        refine AW_slot 5 (y := .cv (.one (.imm (slI itE X)))) rfl (SLe.of_eq (by rw [← hX]; rfl)) ?_
        refine AW_all good th15 (th15_ok) rfl rfl ?_ ?_
        · repeat' (first | exact trivial | exact rfl | exact (fun _ _ => rfl) | refine And.intro ?_ ?_ | intro _)
          all_goals (first | exact rowW_le _ _ | exact Nat.le_refl _ | exact hlx | exact hly | omega | (unfold maxLen; omega) | exact bytes_ok (by omega) (by decide) | exact bytes_okI (by omega) (by omega) (by decide) | exact of_decide_eq_true (by assumption) | decide | exact slOk_lit | exact slOk_f | exact slOk_nil | assumption | exact .inl rfl | exact .inr rfl | (rename_i hg; exact hg) | (rename_i hg; exact eqf hg) | (rename_i hg; exact eqt hg) | (rename_i hg; change (_ : Bool) = true; rw [hg]; rfl) | (change (_ : Bool) = true; simp_all; done) | skip)
        refine AW_block ?_
        refine AW_loopX [5, 40, 41] [] (fun j : { i : Nat // i ≤ m.n } => [(42, .cv (iint j.1)), (6, .cv (.one (.imm (slI itE (rowW m j.1)))))]) (fun j => []) (fun j => m.n - j.1) ⟨0, Nat.zero_le _⟩ ⟨SLe.of_eq rfl, SLe.cv (CLe.imm (ILe.sl rfl (by simp) (.inl rfl))), trivial⟩ trivial ?_
        rintro ⟨i, hi⟩
        dsimp only at hi ⊢
        refine AW_seq ?_
        refine AW_all good th15 (th15_ok) rfl rfl ?_ ?_
        · repeat' (first | exact trivial | exact rfl | exact (fun _ _ => rfl) | refine And.intro ?_ ?_ | intro _)
          all_goals (first | exact rowW_le _ _ | exact Nat.le_refl _ | exact hlx | exact hly | omega | (unfold maxLen; omega) | exact bytes_ok (by omega) (by decide) | exact bytes_okI (by omega) (by omega) (by decide) | exact of_decide_eq_true (by assumption) | decide | exact slOk_lit | exact slOk_f | exact slOk_nil | assumption | exact .inl rfl | exact .inr rfl | (rename_i hg; exact hg) | (rename_i hg; exact eqf hg) | (rename_i hg; exact eqt hg) | (rename_i hg; change (_ : Bool) = true; rw [hg]; rfl) | (change (_ : Bool) = true; simp_all; done) | skip)
        refine AW_seq ?_
        refine AW_cond rfl (fun h3 => ?_) (fun h3 => ?_)
        · first
          | (exfalso; simp_all; done)
          | (
              refine AW_skip ?_
              refine AW_seq ?_
              refine AW_block ?_
              refine AW_seq ?_
              have hlt : i < m.n := by
                have h : (i : Int) < (m.n : Int) := of_decide_eq_true (by assumption)
                omega
              refine AW_all good th15 (th15_ok) rfl rfl ?_ ?_
              · repeat' (first | exact trivial | exact rfl | exact (fun _ _ => rfl) | refine And.intro ?_ ?_ | intro _)
                all_goals (first | exact rowW_le _ _ | exact Nat.le_refl _ | exact hlx | exact hly | omega | (unfold maxLen; omega) | exact bytes_ok (by omega) (by decide) | exact bytes_okI (by omega) (by omega) (by decide) | exact of_decide_eq_true (by assumption) | decide | exact slOk_lit | exact slOk_f | exact slOk_nil | assumption | exact .inl rfl | exact .inr rfl | (rename_i hg; exact hg) | (rename_i hg; exact eqf hg) | (rename_i hg; exact eqt hg) | (rename_i hg; change (_ : Bool) = true; rw [hg]; rfl) | (change (_ : Bool) = true; simp_all; done) | skip)
              refine AW_seq ?_
              refine AW_all good th15 (th15_ok) rfl rfl ?_ ?_
              · repeat' (first | exact trivial | exact rfl | exact (fun _ _ => rfl) | refine And.intro ?_ ?_ | intro _)
                all_goals (first | exact rowW_le _ _ | exact Nat.le_refl _ | exact hlx | exact hly | omega | (unfold maxLen; omega) | exact bytes_ok (by omega) (by decide) | exact bytes_okI (by omega) (by omega) (by decide) | exact of_decide_eq_true (by assumption) | decide | exact slOk_lit | exact slOk_f | exact slOk_nil | assumption | exact .inl rfl | exact .inr rfl | (rename_i hg; exact hg) | (rename_i hg; exact eqf hg) | (rename_i hg; exact eqt hg) | (rename_i hg; change (_ : Bool) = true; rw [hg]; rfl) | (change (_ : Bool) = true; simp_all; done) | skip)
              refine AW_cond rfl (fun h4 => ?_) (fun h4 => ?_)
              · first
                | (exfalso; simp_all; done)
                | (
                    have h20 : i < 20 := by
                      have h : (i : Int) < 20 := of_decide_eq_true (by assumption)
                      omega
                    refine AW_all good th15 (th15_ok) rfl rfl ?_ ?_
                    · repeat' (first | exact trivial | exact rfl | exact (fun _ _ => rfl) | refine And.intro ?_ ?_ | intro _)
                      all_goals (first | exact rowW_le _ _ | exact Nat.le_refl _ | exact hlx | exact hly | omega | (unfold maxLen; omega) | exact bytes_ok (by omega) (by decide) | exact bytes_okI (by omega) (by omega) (by decide) | exact of_decide_eq_true (by assumption) | decide | exact slOk_lit | exact slOk_f | exact slOk_nil | assumption | exact .inl rfl | exact .inr rfl | (rename_i hg; exact hg) | (rename_i hg; exact eqf hg) | (rename_i hg; exact eqt hg) | (rename_i hg; change (_ : Bool) = true; rw [hg]; rfl) | (change (_ : Bool) = true; simp_all; done) | skip)
                    skip
                    refine AW_all good th15 (th15_ok) rfl rfl ?_ ?_
                    · repeat' (first | exact trivial | exact rfl | exact (fun _ _ => rfl) | refine And.intro ?_ ?_ | intro _)
                      all_goals (first | exact rowW_le _ _ | exact Nat.le_refl _ | exact hlx | exact hly | omega | (unfold maxLen; omega) | exact bytes_ok (by omega) (by decide) | exact bytes_okI (by omega) (by omega) (by decide) | exact of_decide_eq_true (by assumption) | decide | exact slOk_lit | exact slOk_f | exact slOk_nil | assumption | exact .inl rfl | exact .inr rfl | (rename_i hg; exact hg) | (rename_i hg; exact eqf hg) | (rename_i hg; exact eqt hg) | (rename_i hg; change (_ : Bool) = true; rw [hg]; rfl) | (change (_ : Bool) = true; simp_all; done) | skip)
                    refine loopX_next ⟨i + 1, hlt⟩ [] rfl rfl ⟨SLe.of_eq (congrArg (fun z => SV.cv (iint z)) (next_int i m.n hlt hmm)), SLe.of_eq (congrArg (fun z => SV.cv (.one (.imm (slI itE z)))) (rowW_t h20).symm), trivial⟩ ⟨SLe.of_eq rfl, SLe.of_eq rfl, SLe.of_eq rfl, trivial⟩ trivial trivial ?_
                    show m.n - (i + 1) < m.n - i
                    omega
                )
              · first
                | (exfalso; simp_all; done)
                | (
                    refine AW_skip ?_
                    have h20 : 20 ≤ i := by
                      have h : ¬ (i : Int) < 20 := of_decide_eq_false (by assumption)
                      omega
                    refine AW_all good th15 (th15_ok) rfl rfl ?_ ?_
                    · repeat' (first | exact trivial | exact rfl | exact (fun _ _ => rfl) | refine And.intro ?_ ?_ | intro _)
                      all_goals (first | exact rowW_le _ _ | exact Nat.le_refl _ | exact hlx | exact hly | omega | (unfold maxLen; omega) | exact bytes_ok (by omega) (by decide) | exact bytes_okI (by omega) (by omega) (by decide) | exact of_decide_eq_true (by assumption) | decide | exact slOk_lit | exact slOk_f | exact slOk_nil | assumption | exact .inl rfl | exact .inr rfl | (rename_i hg; exact hg) | (rename_i hg; exact eqf hg) | (rename_i hg; exact eqt hg) | (rename_i hg; change (_ : Bool) = true; rw [hg]; rfl) | (change (_ : Bool) = true; simp_all; done) | skip)
                    refine loopX_next ⟨i + 1, hlt⟩ [] rfl rfl ⟨SLe.of_eq (congrArg (fun z => SV.cv (iint z)) (next_int i m.n hlt hmm)), SLe.of_eq (congrArg (fun z => SV.cv (.one (.imm (slI itE z)))) (rowW_f h20).symm), trivial⟩ ⟨SLe.of_eq rfl, SLe.of_eq rfl, SLe.of_eq rfl, trivial⟩ trivial trivial ?_
                    show m.n - (i + 1) < m.n - i
                    omega
                )
          )
        · first
          | (exfalso; simp_all; done)
          | (
              refine AW_exit ?_
              refine AW_seq ?_
              have hend : i = m.n := by
                have h : ¬ (i : Int) < (m.n : Int) := of_decide_eq_false (by assumption)
                omega
              subst hend
              obtain ⟨Y, hY⟩ : ∃ Y, rowW m m.n = Y := ⟨_, rfl⟩
              have hYn : Y.n ≤ 20 := by
                rw [← hY, rowW_n]
                omega
              have hlx : (0 : Int).toNat + X.n ≤ 512 := by
                show 0 + X.n ≤ 512
                omega
              have hly : (X.n : Int).toNat + Y.n ≤ 512 := by omega
              refine AW_slot 6 (y := .cv (.one (.imm (slI itE Y)))) rfl (SLe.of_eq (by rw [← hY]; rfl)) ?_
              refine AW_all good th15 (th15_ok) rfl rfl ?_ ?_
              · repeat' (first | exact trivial | exact rfl | exact (fun _ _ => rfl) | refine And.intro ?_ ?_ | intro _)
                all_goals (first | exact rowW_le _ _ | exact Nat.le_refl _ | exact hlx | exact hly | omega | (unfold maxLen; omega) | exact bytes_ok (by omega) (by decide) | exact bytes_okI (by omega) (by omega) (by decide) | exact of_decide_eq_true (by assumption) | decide | exact slOk_lit | exact slOk_f | exact slOk_nil | assumption | exact .inl rfl | exact .inr rfl | (rename_i hg; exact hg) | (rename_i hg; exact eqf hg) | (rename_i hg; exact eqt hg) | (rename_i hg; change (_ : Bool) = true; rw [hg]; rfl) | (change (_ : Bool) = true; simp_all; done) | skip)
              refine AW_blk 0 rfl (B := bkR 91 ndE ⟨512, fun _ => nd0⟩) (BLe.rows rfl fun i j hi hj => ILe.of_eq (zero_nd hj)) ?_
              refine AW_blk 1 rfl (B := .var 50 [.osl 0 16 0 0 512 false, .imm (.sl 1 0 true fun _ _ => ivDef)]) (BLe.var ⟨CLe.oslf, CLe.imm (ILe.sl rfl (fun _ => rfl) (.inl rfl)), trivial⟩) ?_
              refine AW_seq ?_
              refine AW_drwG good rfl th15 (th15_ok) eLay (eLay_ok) [] [0, 0, 3, 0, 0, 16, 0, 127, 255, 511] [false, false, true, false, false, false, false, true, false, false] (by rfl) (by rfl) rfl (by rfl) (by rfl) ?_ ?_ ?_
              · repeat' (first | exact trivial | exact rfl | exact (fun _ _ => rfl) | refine And.intro ?_ ?_ | intro _)
                all_goals (first | exact rowW_le _ _ | exact Nat.le_refl _ | exact hlx | exact hly | omega | (unfold maxLen; omega) | exact bytes_ok (by omega) (by decide) | exact bytes_okI (by omega) (by omega) (by decide) | exact of_decide_eq_true (by assumption) | decide | exact slOk_lit | exact slOk_f | exact slOk_nil | assumption | exact .inl rfl | exact .inr rfl | (rename_i hg; exact hg) | (rename_i hg; exact eqf hg) | (rename_i hg; exact eqt hg) | (rename_i hg; change (_ : Bool) = true; rw [hg]; rfl) | (change (_ : Bool) = true; simp_all; done) | skip)
              · repeat' (first | refine And.intro ?_ ?_ | exact trivial | exact rfl | intro _)
                all_goals (first | exact rowW_le _ _ | exact Nat.le_refl _ | exact hlx | exact hly | omega | (unfold maxLen; omega) | exact bytes_ok (by omega) (by decide) | exact bytes_okI (by omega) (by omega) (by decide) | exact of_decide_eq_true (by assumption) | decide | exact slOk_lit | exact slOk_f | exact slOk_nil | assumption | exact .inl rfl | exact .inr rfl | (rename_i hg; exact hg) | (rename_i hg; exact eqf hg) | (rename_i hg; exact eqt hg) | (rename_i hg; change (_ : Bool) = true; rw [hg]; rfl) | (change (_ : Bool) = true; simp_all; done) | skip)
              obtain ⟨r, hr⟩ : ∃ r, layRf 0 X = r := ⟨_, rfl⟩
              obtain ⟨s, hs⟩ : ∃ s, layRf X.n Y = s := ⟨_, rfl⟩
              refine AW_slot 12 (y := .cv (u64 r)) rfl (SLe.of_eq (by rw [← hr]; rfl)) ?_
              refine AW_slot 13 (y := .cv (u64 s)) rfl (SLe.of_eq (by rw [← hs]; rfl)) ?_
              refine AW_blk 0 rfl (B := bkR 91 ndE (nodesM X Y)) (BLe.of_eq rfl) ?_
              refine AW_seq ?_
              refine AW_seq ?_
              refine AW_all good th15 (th15_ok) rfl rfl ?_ ?_
              · repeat' (first | exact trivial | exact rfl | exact (fun _ _ => rfl) | refine And.intro ?_ ?_ | intro _)
                all_goals (first | exact rowW_le _ _ | exact Nat.le_refl _ | exact hlx | exact hly | omega | (unfold maxLen; omega) | exact bytes_ok (by omega) (by decide) | exact bytes_okI (by omega) (by omega) (by decide) | exact of_decide_eq_true (by assumption) | decide | exact slOk_lit | exact slOk_f | exact slOk_nil | assumption | exact .inl rfl | exact .inr rfl | (rename_i hg; exact hg) | (rename_i hg; exact eqf hg) | (rename_i hg; exact eqt hg) | (rename_i hg; change (_ : Bool) = true; rw [hg]; rfl) | (change (_ : Bool) = true; simp_all; done) | skip)
              refine AW_block ?_
              refine AW_absent 3 1 (fun q _ => .val (.int .i64 (511 - (q : Int)))) ?_
              refine AW_blk 1 rfl (B := .var 50 [.osl 0 16 0 0 512 false, .osl 3 1 0 0 0 true]) (BLe.var ⟨CLe.refl _, CLe.empty, trivial⟩) ?_
              refine AW_loopX [5, 6, 11, 12, 13] [0] (fun j : { k : Nat // k ≤ 512 - (X.n + Y.n) } => [(14, .cv (iint (511 - (j.1 : Int))))]) (fun j => [(1, .var 50 [.osl 0 16 0 0 512 false, .osl 3 1 0 0 j.1 true]), (3, bkR 3 intE ⟨j.1, fun q => 511 - (q : Int)⟩)]) (fun j => 512 - j.1) ⟨0, Nat.zero_le _⟩ ⟨SLe.of_eq rfl, trivial⟩ ⟨⟨_, rfl, BLe.of_eq rfl⟩, ⟨_, rfl, BLe.of_eq rfl⟩, trivial⟩ ?_
              rintro ⟨k, hk⟩
              dsimp only at hk ⊢
              refine AW_seq ?_
              refine AW_seq ?_
              refine AW_all good th15 (th15_ok) rfl rfl ?_ ?_
              · repeat' (first | exact trivial | exact rfl | exact (fun _ _ => rfl) | refine And.intro ?_ ?_ | intro _)
                all_goals (first | exact rowW_le _ _ | exact Nat.le_refl _ | exact hlx | exact hly | omega | (unfold maxLen; omega) | exact bytes_ok (by omega) (by decide) | exact bytes_okI (by omega) (by omega) (by decide) | exact of_decide_eq_true (by assumption) | decide | exact slOk_lit | exact slOk_f | exact slOk_nil | assumption | exact .inl rfl | exact .inr rfl | (rename_i hg; exact hg) | (rename_i hg; exact eqf hg) | (rename_i hg; exact eqt hg) | (rename_i hg; change (_ : Bool) = true; rw [hg]; rfl) | (change (_ : Bool) = true; simp_all; done) | skip)
              refine AW_cond rfl (fun h5 => ?_) (fun h5 => ?_)
              · first
                | (exfalso; simp_all; done)
                | (
                    refine AW_skip ?_
                    refine AW_seq ?_
                    refine AW_block ?_
                    have hlt : k < 512 - (X.n + Y.n) := by
                      have h : (511 - (k : Int)) ≥ IntKind.i64.wrap ((X.n : Int) + Y.n) := of_decide_eq_true (by assumption)
                      rw [i64_small (by omega) (by omega)] at h
                      omega
                    refine AW_all good th15 (th15_ok) rfl rfl ?_ ?_
                    · repeat' (first | exact trivial | exact rfl | exact (fun _ _ => rfl) | refine And.intro ?_ ?_ | intro _)
                      all_goals (first | exact rowW_le _ _ | exact Nat.le_refl _ | exact hlx | exact hly | omega | (unfold maxLen; omega) | exact bytes_ok (by omega) (by decide) | exact bytes_okI (by omega) (by omega) (by decide) | exact of_decide_eq_true (by assumption) | decide | exact slOk_lit | exact slOk_f | exact slOk_nil | assumption | exact .inl rfl | exact .inr rfl | (rename_i hg; exact hg) | (rename_i hg; exact eqf hg) | (rename_i hg; exact eqt hg) | (rename_i hg; change (_ : Bool) = true; rw [hg]; rfl) | (change (_ : Bool) = true; simp_all; done) | skip)
                    refine AW_all good th15 (th15_ok) rfl rfl ?_ ?_
                    · repeat' (first | exact trivial | exact rfl | exact (fun _ _ => rfl) | refine And.intro ?_ ?_ | intro _)
                      all_goals (first | exact rowW_le _ _ | exact Nat.le_refl _ | exact hlx | exact hly | omega | (unfold maxLen; omega) | exact bytes_ok (by omega) (by decide) | exact bytes_okI (by omega) (by omega) (by decide) | exact of_decide_eq_true (by assumption) | decide | exact slOk_lit | exact slOk_f | exact slOk_nil | assumption | exact .inl rfl | exact .inr rfl | (rename_i hg; exact hg) | (rename_i hg; exact eqf hg) | (rename_i hg; exact eqt hg) | (rename_i hg; change (_ : Bool) = true; rw [hg]; rfl) | (change (_ : Bool) = true; simp_all; done) | skip)
                    refine loopX_next ⟨k + 1, hlt⟩ [0, 1, 2, 5] rfl rfl ⟨SLe.of_eq (congrArg (fun z => SV.cv (iint z)) ?_), trivial⟩ ⟨SLe.of_eq rfl, SLe.of_eq rfl, SLe.of_eq rfl, SLe.of_eq rfl, SLe.of_eq rfl, trivial⟩ ⟨⟨rfl, _, rfl, BLe.of_eq rfl⟩, ⟨rfl, _, rfl, BLe.rows rfl fun q j hq hj => ILe.of_eq ?_⟩, trivial⟩ ⟨⟨rfl, _, _, rfl, rfl, BLe.of_eq rfl⟩, trivial⟩ ?_
                    · show IntKind.i64.wrap (511 - (k : Int) - 1) = 511 - ((k + 1 : Nat) : Int)
                      rw [IntKind.wrap_i64]
                      omega
                    · obtain rfl : j = 0 := by
                        have : j < 1 := hj
                        omega
                      exact cnt_row hq
                    show 512 - (k + 1) < 512 - k
                    omega
                )
              · first
                | (exfalso; simp_all; done)
                | (
                    refine AW_exit ?_
                    refine AW_seq ?_
                    have hend : k = 512 - (X.n + Y.n) := by
                      have h : ¬ (511 - (k : Int)) ≥ IntKind.i64.wrap ((X.n : Int) + Y.n) := of_decide_eq_false (by assumption)
                      rw [i64_small (by omega) (by omega)] at h
                      omega
                    subst hend
                    refine AW_giveV 0 1 0 rfl rfl rfl rfl ?_ ?_
                    · exact Nat.le_of_eq (Nat.zero_add _)
                    refine AW_giveV 3 1 1 rfl rfl rfl rfl ?_ ?_
                    · exact Nat.le_of_eq (Nat.zero_add _)
                    obtain ⟨A, hA⟩ : ∃ A, arM X Y = A := ⟨_, rfl⟩
                    refine AW_blk 1 rfl (B := bkV 50 arE A) (BLe.of_eq (by rw [← hA]; rfl)) ?_
                    refine AW_all good th15 (th15_ok) rfl rfl ?_ ?_
                    · repeat' (first | exact trivial | exact rfl | exact (fun _ _ => rfl) | refine And.intro ?_ ?_ | intro _)
                      all_goals (first | exact rowW_le _ _ | exact Nat.le_refl _ | exact hlx | exact hly | omega | (unfold maxLen; omega) | exact bytes_ok (by omega) (by decide) | exact bytes_okI (by omega) (by omega) (by decide) | exact of_decide_eq_true (by assumption) | decide | exact slOk_lit | exact slOk_f | exact slOk_nil | assumption | exact .inl rfl | exact .inr rfl | (rename_i hg; exact hg) | (rename_i hg; exact eqf hg) | (rename_i hg; exact eqt hg) | (rename_i hg; change (_ : Bool) = true; rw [hg]; rfl) | (change (_ : Bool) = true; simp_all; done) | skip)
                    obtain ⟨p, hp⟩ : ∃ p, meldA A r s = p := ⟨_, rfl⟩
                    refine AW_blk 4 rfl (B := bkV 50 arE p.1) (BLe.of_eq (by rw [← hp]; rfl)) ?_
                    refine AW_slot 16 (y := .cv (u64 p.2.1)) rfl (SLe.of_eq (by rw [← hp]; rfl)) ?_
                    refine AW_slot 17 (y := .cv (iint p.2.2)) rfl (SLe.of_eq (by rw [← hp]; rfl)) ?_
                    refine AW_seq ?_
                    refine AW_all good th15 (th15_ok) rfl rfl ?_ ?_
                    · repeat' (first | exact trivial | exact rfl | exact (fun _ _ => rfl) | refine And.intro ?_ ?_ | intro _)
                      all_goals (first | exact rowW_le _ _ | exact Nat.le_refl _ | exact hlx | exact hly | omega | (unfold maxLen; omega) | exact bytes_ok (by omega) (by decide) | exact bytes_okI (by omega) (by omega) (by decide) | exact of_decide_eq_true (by assumption) | decide | exact slOk_lit | exact slOk_f | exact slOk_nil | assumption | exact .inl rfl | exact .inr rfl | (rename_i hg; exact hg) | (rename_i hg; exact eqf hg) | (rename_i hg; exact eqt hg) | (rename_i hg; change (_ : Bool) = true; rw [hg]; rfl) | (change (_ : Bool) = true; simp_all; done) | skip)
                    obtain ⟨q, hq⟩ : ∃ q, meldA A s r = q := ⟨_, rfl⟩
                    refine AW_blk 6 rfl (B := bkV 50 arE q.1) (BLe.of_eq (by rw [← hq]; rfl)) ?_
                    refine AW_slot 19 (y := .cv (u64 q.2.1)) rfl (SLe.of_eq (by rw [← hq]; rfl)) ?_
                    refine AW_slot 20 (y := .cv (iint q.2.2)) rfl (SLe.of_eq (by rw [← hq]; rfl)) ?_
                    refine AW_seq ?_
                    refine AW_all good th15 (th15_ok) rfl rfl ?_ ?_
                    · repeat' (first | exact trivial | exact rfl | exact (fun _ _ => rfl) | refine And.intro ?_ ?_ | intro _)
                      all_goals (first | exact rowW_le _ _ | exact Nat.le_refl _ | exact hlx | exact hly | omega | (unfold maxLen; omega) | exact bytes_ok (by omega) (by decide) | exact bytes_okI (by omega) (by omega) (by decide) | exact of_decide_eq_true (by assumption) | decide | exact slOk_lit | exact slOk_f | exact slOk_nil | assumption | exact .inl rfl | exact .inr rfl | (rename_i hg; exact hg) | (rename_i hg; exact eqf hg) | (rename_i hg; exact eqt hg) | (rename_i hg; change (_ : Bool) = true; rw [hg]; rfl) | (change (_ : Bool) = true; simp_all; done) | skip)
                    obtain ⟨P, hP⟩ : ∃ P, itemsL p.1 p.2.1 = P := ⟨_, rfl⟩
                    obtain ⟨g, hg⟩ : ∃ g, itemsE p.1 p.2.1 = g := ⟨_, rfl⟩
                    refine AW_slot 21 (y := .cv (.one (.imm (slI itE P)))) rfl (SLe.of_eq (by rw [← hP]; rfl)) ?_
                    refine AW_slot 22 (y := .cv (iint g)) rfl (SLe.of_eq (by rw [← hg]; rfl)) ?_
                    refine AW_seq ?_
                    refine AW_all good th15 (th15_ok) rfl rfl ?_ ?_
                    · repeat' (first | exact trivial | exact rfl | exact (fun _ _ => rfl) | refine And.intro ?_ ?_ | intro _)
                      all_goals (first | exact rowW_le _ _ | exact Nat.le_refl _ | exact hlx | exact hly | omega | (unfold maxLen; omega) | exact bytes_ok (by omega) (by decide) | exact bytes_okI (by omega) (by omega) (by decide) | exact of_decide_eq_true (by assumption) | decide | exact slOk_lit | exact slOk_f | exact slOk_nil | assumption | exact .inl rfl | exact .inr rfl | (rename_i hg; exact hg) | (rename_i hg; exact eqf hg) | (rename_i hg; exact eqt hg) | (rename_i hg; change (_ : Bool) = true; rw [hg]; rfl) | (change (_ : Bool) = true; simp_all; done) | skip)
                    obtain ⟨R, hR⟩ : ∃ R, itemsL q.1 q.2.1 = R := ⟨_, rfl⟩
                    obtain ⟨h, hh⟩ : ∃ h, itemsE q.1 q.2.1 = h := ⟨_, rfl⟩
                    refine AW_slot 23 (y := .cv (.one (.imm (slI itE R)))) rfl (SLe.of_eq (by rw [← hR]; rfl)) ?_
                    refine AW_slot 24 (y := .cv (iint h)) rfl (SLe.of_eq (by rw [← hh]; rfl)) ?_
                    refine AW_seq ?_
                    refine AW_all good th15 (th15_ok) rfl rfl ?_ ?_
                    · repeat' (first | exact trivial | exact rfl | exact (fun _ _ => rfl) | refine And.intro ?_ ?_ | intro _)
                      all_goals (first | exact rowW_le _ _ | exact Nat.le_refl _ | exact hlx | exact hly | omega | (unfold maxLen; omega) | exact bytes_ok (by omega) (by decide) | exact bytes_okI (by omega) (by omega) (by decide) | exact of_decide_eq_true (by assumption) | decide | exact slOk_lit | exact slOk_f | exact slOk_nil | assumption | exact .inl rfl | exact .inr rfl | (rename_i hg; exact hg) | (rename_i hg; exact eqf hg) | (rename_i hg; exact eqt hg) | (rename_i hg; change (_ : Bool) = true; rw [hg]; rfl) | (change (_ : Bool) = true; simp_all; done) | skip)
                    refine AW_slot 25 (y := .cv (iint P.n)) rfl (SLe.of_eq (by rw [← hP]; rfl)) ?_
                    refine AW_slot 26 (y := .cv (iint g)) rfl (SLe.of_eq (by rw [← hg]; rfl)) ?_
                    refine AW_seq ?_
                    refine AW_all good th15 (th15_ok) rfl rfl ?_ ?_
                    · repeat' (first | exact trivial | exact rfl | exact (fun _ _ => rfl) | refine And.intro ?_ ?_ | intro _)
                      all_goals (first | exact rowW_le _ _ | exact Nat.le_refl _ | exact hlx | exact hly | omega | (unfold maxLen; omega) | exact bytes_ok (by omega) (by decide) | exact bytes_okI (by omega) (by omega) (by decide) | exact of_decide_eq_true (by assumption) | decide | exact slOk_lit | exact slOk_f | exact slOk_nil | assumption | exact .inl rfl | exact .inr rfl | (rename_i hg; exact hg) | (rename_i hg; exact eqf hg) | (rename_i hg; exact eqt hg) | (rename_i hg; change (_ : Bool) = true; rw [hg]; rfl) | (change (_ : Bool) = true; simp_all; done) | skip)
                    refine AW_ret (bodyQ_ret rfl ?_ (Ends.le rfl ?_ ?_))
                    · repeat' (first | exact trivial | exact rfl | exact (fun _ _ => rfl) | refine And.intro ?_ ?_ | intro _)
                      all_goals (first | exact rowW_le _ _ | exact Nat.le_refl _ | exact hlx | exact hly | omega | (unfold maxLen; omega) | exact bytes_ok (by omega) (by decide) | exact bytes_okI (by omega) (by omega) (by decide) | exact of_decide_eq_true (by assumption) | decide | exact slOk_lit | exact slOk_f | exact slOk_nil | assumption | exact .inl rfl | exact .inr rfl | (rename_i hg; exact hg) | (rename_i hg; exact eqf hg) | (rename_i hg; exact eqt hg) | (rename_i hg; change (_ : Bool) = true; rw [hg]; rfl) | (change (_ : Bool) = true; simp_all; done) | skip)
                    · repeat' (first | exact trivial | exact rfl | exact (fun _ _ => rfl) | refine And.intro ?_ ?_ | intro _)
                      all_goals (first | exact rowW_le _ _ | exact Nat.le_refl _ | exact hlx | exact hly | omega | (unfold maxLen; omega) | exact bytes_ok (by omega) (by decide) | exact bytes_okI (by omega) (by omega) (by decide) | exact of_decide_eq_true (by assumption) | decide | exact slOk_lit | exact slOk_f | exact slOk_nil | assumption | exact .inl rfl | exact .inr rfl | (rename_i hg; exact hg) | (rename_i hg; exact eqf hg) | (rename_i hg; exact eqt hg) | (rename_i hg; change (_ : Bool) = true; rw [hg]; rfl) | (change (_ : Bool) = true; simp_all; done) | skip)
                    rw [hX, hY]
                    unfold meldsR
                    rw [hA, hr, hs, hp, hq, hP, hR, hg, hh]
                    exact SLe.of_eq rfl
                )
          )
    )

end Go.Proofs.Ytadgjhbhghhbgaa.Abs
