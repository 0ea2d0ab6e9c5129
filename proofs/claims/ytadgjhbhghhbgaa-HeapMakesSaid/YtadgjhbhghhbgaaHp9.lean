/-
  THE CONTRACTS OF THE REFERENCES: Same, Less, With; the law's alive.
-/
import Derived.Test.YtadgjhbhghhbgaaHp8
namespace Go.Proofs.Ytadgjhbhghhbgaa.Abs
open Go
set_option maxRecDepth 10000

noncomputable def th12 : Tab := tabC2 32 arA rI (fun a r => .tup [iint (itemsL a r).n, iint (itemsE a r)]) (fun _ _ => True) th11
theorem th12_ok : TabOk Try.prog th12 := tabC2_ok rfl (fun a r _ => heapSize a r) th11_ok
def itEq (x y : Item) : Bool := x.k == y.k && (x.v == y.v && true)
theorem itEq_iff {x y : Item} : itEq x y = true ↔ x = y := by
  cases x
  cases y
  simp [itEq]
/-- Whether two rows of items are the same. -/
def sameI (s t : Sl Item) : Bool := bif ((s.n : Int) != t.n) then false else !anyB (fun i => !itEq (s.at_ i) (t.at_ i)) s.n

theorem refSame (s t : Sl Item) : PCall Try.prog 24 [.one (.imm (slI itE s)), .one (.imm (slI itE t))] (.cv (ibool (sameI s t))) := by
  refine PCall_of (ACall_body good Try.func24 rfl 26 rfl (by simp) ?_)
  refine AW_lenle 0 rfl (fun hm => ?_)
  refine AW_seq ?_
  refine AW_all good th12 (th12_ok) rfl rfl ?_ ?_
  · repeat' (first | exact trivial | exact rfl | exact (fun _ _ => rfl) | refine And.intro ?_ ?_ | intro _)
  refine AW_seq ?_
  refine AW_seq ?_
  refine AW_all good th12 (th12_ok) rfl rfl ?_ ?_
  · repeat' (first | exact trivial | exact rfl | exact (fun _ _ => rfl) | refine And.intro ?_ ?_ | intro _)
  refine AW_cond rfl (fun h1 => ?_) (fun h1 => ?_)
  · first
    | (exfalso; simp_all; done)
    | (
        refine AW_seq ?_
        refine AW_all good th12 (th12_ok) rfl rfl ?_ ?_
        · repeat' (first | exact trivial | exact rfl | exact (fun _ _ => rfl) | refine And.intro ?_ ?_ | intro _)
        refine AW_ret (bodyQ_ret rfl ?_ (Ends.le rfl ?_ ?_))
        · repeat' (first | exact trivial | exact rfl | exact (fun _ _ => rfl) | refine And.intro ?_ ?_ | intro _)
        · repeat' (first | exact trivial | exact rfl | exact (fun _ _ => rfl) | refine And.intro ?_ ?_ | intro _)
        have h : ((s.n : Int) != t.n) = true := h1
        unfold sameI
        rw [h]
        exact SLe.of_eq rfl
    )
  · first
    | (exfalso; simp_all; done)
    | (
        refine AW_skip ?_
        refine AW_seq ?_
        refine AW_seq ?_
        have hnn : s.n = t.n := by
          have h : ((s.n : Int) != t.n) = false := h1
          have h := eq_of_bne_f h
          omega
        refine AW_all good th12 (th12_ok) rfl rfl ?_ ?_
        · repeat' (first | exact trivial | exact rfl | exact (fun _ _ => rfl) | refine And.intro ?_ ?_ | intro _)
        refine AW_block ?_
        refine AW_loopX [0, 1, 12] [] (fun j : { i : Nat // i ≤ s.n ∧ ∀ k, k < i → (!itEq (s.at_ k) (t.at_ k)) = false } => [(13, .cv (iint j.1))]) (fun j => []) (fun j => s.n - j.1) ⟨0, Nat.zero_le _, fun k hk => absurd hk (Nat.not_lt_zero k)⟩ ⟨SLe.of_eq rfl, trivial⟩ trivial ?_
        rintro ⟨i, hi, hb⟩
        dsimp only at hi hb ⊢
        refine AW_seq ?_
        refine AW_all good th12 (th12_ok) rfl rfl ?_ ?_
        · repeat' (first | exact trivial | exact rfl | exact (fun _ _ => rfl) | refine And.intro ?_ ?_ | intro _)
        refine AW_seq ?_
        refine AW_cond rfl (fun h2 => ?_) (fun h2 => ?_)
        · first
          | (exfalso; simp_all; done)
          | (
              refine AW_skip ?_
              refine AW_seq ?_
              refine AW_block ?_
              refine AW_seq ?_
              have hlt : i < s.n := by simpa using h2
              have hlt2 : i < t.n := by omega
              refine AW_all good th12 (th12_ok) rfl rfl ?_ ?_
              · repeat' (first | exact trivial | exact rfl | exact (fun _ _ => rfl) | refine And.intro ?_ ?_ | intro _)
              refine AW_seq ?_
              refine AW_drwG good rfl th12 (th12_ok) et0 (et0_ok _) [] [0, 0, 3, 7, 0, 0, 48, 112, 255] [false, false, false, false, false, false, false, false, false] (by rfl) (by rfl) rfl (by rfl) (by rfl) ?_ ?_ ?_
              · repeat' (first | exact trivial | exact rfl | exact (fun _ _ => rfl) | refine And.intro ?_ ?_ | intro _)
                all_goals omega
              · repeat' (first | refine And.intro ?_ ?_ | exact trivial | exact rfl | intro _)
              refine AW_cond rfl (fun h3 => ?_) (fun h3 => ?_)
              · first
                | (exfalso; simp_all; done)
                | (
                    refine AW_seq ?_
                    refine AW_all good th12 (th12_ok) rfl rfl ?_ ?_
                    · repeat' (first | exact trivial | exact rfl | exact (fun _ _ => rfl) | refine And.intro ?_ ?_ | intro _)
                    refine AW_ret (bodyQ_ret rfl ?_ (Ends.le rfl ?_ ?_))
                    · repeat' (first | exact trivial | exact rfl | exact (fun _ _ => rfl) | refine And.intro ?_ ?_ | intro _)
                    · repeat' (first | exact trivial | exact rfl | exact (fun _ _ => rfl) | refine And.intro ?_ ?_ | intro _)
                    have h : ((s.n : Int) != t.n) = false := h1
                    have h3 : (!itEq (s.at_ i) (t.at_ i)) = true := h3
                    unfold sameI
                    rw [h, anyB_hit (g := fun i => !itEq (s.at_ i) (t.at_ i)) hlt h3]
                    exact SLe.of_eq rfl
                )
              · first
                | (exfalso; simp_all; done)
                | (
                    refine AW_skip ?_
                    refine AW_all good th12 (th12_ok) rfl rfl ?_ ?_
                    · repeat' (first | exact trivial | exact rfl | exact (fun _ _ => rfl) | refine And.intro ?_ ?_ | intro _)
                    refine loopX_next ⟨i + 1, hlt, fun k hk => ?_⟩ [] rfl rfl ⟨SLe.of_eq (congrArg (fun z => SV.cv (iint z)) (next_int i s.n hlt hm)), trivial⟩ ⟨SLe.of_eq rfl, SLe.of_eq rfl, SLe.of_eq rfl, trivial⟩ trivial trivial ?_
                    · rcases Nat.lt_succ_iff_lt_or_eq.1 hk with h | h
                      · exact hb k h
                      · rw [h]
                        exact h3
                    show s.n - (i + 1) < s.n - i
                    omega
                )
          )
        · first
          | (exfalso; simp_all; done)
          | (
              refine AW_exit ?_
              refine AW_seq ?_
              refine AW_all good th12 (th12_ok) rfl rfl ?_ ?_
              · repeat' (first | exact trivial | exact rfl | exact (fun _ _ => rfl) | refine And.intro ?_ ?_ | intro _)
              refine AW_ret (bodyQ_ret rfl ?_ (Ends.le rfl ?_ ?_))
              · repeat' (first | exact trivial | exact rfl | exact (fun _ _ => rfl) | refine And.intro ?_ ?_ | intro _)
              · repeat' (first | exact trivial | exact rfl | exact (fun _ _ => rfl) | refine And.intro ?_ ?_ | intro _)
              have h : ((s.n : Int) != t.n) = false := h1
              have hin : i = s.n := by
                have : ¬ i < s.n := by simpa using h2
                omega
              subst hin
              unfold sameI
              rw [h, anyB_all (g := fun i => !itEq (s.at_ i) (t.at_ i)) hb]
              exact SLe.of_eq rfl
          )
    )

theorem refLess (x y : Item) : PCall Try.prog 47 [itC x, itC y] (.cv (ibool (lessI x y))) := by
  refine PCall_of (ACall_body good Try.func47 rfl 20 rfl (by simp) ?_)
  refine AW_seq ?_
  refine AW_all good th12 (th12_ok) rfl rfl ?_ ?_
  · repeat' (first | exact trivial | exact rfl | exact (fun _ _ => rfl) | refine And.intro ?_ ?_ | intro _)
  refine AW_seq ?_
  refine AW_seq ?_
  refine AW_all good th12 (th12_ok) rfl rfl ?_ ?_
  · repeat' (first | exact trivial | exact rfl | exact (fun _ _ => rfl) | refine And.intro ?_ ?_ | intro _)
  refine AW_cond rfl (fun h1 => ?_) (fun h1 => ?_)
  · first
    | (exfalso; simp_all; done)
    | (
        refine AW_seq ?_
        refine AW_all good th12 (th12_ok) rfl rfl ?_ ?_
        · repeat' (first | exact trivial | exact rfl | exact (fun _ _ => rfl) | refine And.intro ?_ ?_ | intro _)
        refine AW_ret (bodyQ_ret rfl ?_ (Ends.le rfl ?_ ?_))
        · repeat' (first | exact trivial | exact rfl | exact (fun _ _ => rfl) | refine And.intro ?_ ?_ | intro _)
        · repeat' (first | exact trivial | exact rfl | exact (fun _ _ => rfl) | refine And.intro ?_ ?_ | intro _)
        have h : x.k ≠ y.k := by simpa using h1
        have e : lessI x y = decide (x.k < y.k) := by simp [lessI, h]
        rw [e]
        exact SLe.of_eq rfl
    )
  · first
    | (exfalso; simp_all; done)
    | (
        refine AW_skip ?_
        refine AW_seq ?_
        refine AW_all good th12 (th12_ok) rfl rfl ?_ ?_
        · repeat' (first | exact trivial | exact rfl | exact (fun _ _ => rfl) | refine And.intro ?_ ?_ | intro _)
        refine AW_ret (bodyQ_ret rfl ?_ (Ends.le rfl ?_ ?_))
        · repeat' (first | exact trivial | exact rfl | exact (fun _ _ => rfl) | refine And.intro ?_ ?_ | intro _)
        · repeat' (first | exact trivial | exact rfl | exact (fun _ _ => rfl) | refine And.intro ?_ ?_ | intro _)
        have h : x.k = y.k := by simpa using h1
        have e : lessI x y = decide (x.v < y.v) := by simp [lessI, h]
        rw [e]
        exact SLe.of_eq rfl
    )

noncomputable def th13 : Tab := tabC2 24 (codSl itE) (codSl itE) (fun s t => .cv (ibool (sameI s t))) (fun _ _ => True) (tabC2 47 itA itA (fun x y => .cv (ibool (lessI x y))) (fun _ _ => True) th12)
theorem th13_ok : TabOk Try.prog th13 := tabC2_ok rfl (fun s t _ => refSame s t) (tabC2_ok rfl (fun x y _ => refLess x y) th12_ok)
noncomputable def aliveR : Bool := bif (bif (bif ((bif newBad 500 then (1 : Int) else 0) == 0) then ((insA (newA 500) 0 ⟨5, 7⟩).2.2 == 0) else false) then (minE (insA (newA 500) 0 ⟨5, 7⟩).1 (insA (newA 500) 0 ⟨5, 7⟩).2.1 == 0) else false) then itEq (minX (insA (newA 500) 0 ⟨5, 7⟩).1 (insA (newA 500) 0 ⟨5, 7⟩).2.1) ⟨5, 7⟩ else false
noncomputable def aliveB : Bool := lock aliveR
theorem aliveB_eq : aliveB = aliveR := lock_eq _
noncomputable def th14 : Tab := tabC2 33 arA rI (fun a r => .tup [itC (minX a r), iint (minE a r)]) (fun _ _ => True) (tabC3 19 arA rI itA (fun a r x => .tup [arC (insA a r x).1, u64 (insA a r x).2.1, iint (insA a r x).2.2]) (fun _ _ _ => True) (tabC1 18 nI (fun n => .tup [arC (newA n), iint (bif newBad n then 1 else 0)]) (fun _ => True) th13))
theorem th14_ok : TabOk Try.prog th14 := tabC2_ok rfl (fun a r _ => heapMin a r) (tabC3_ok rfl (fun a r x _ => heapInsert a r x) (tabC1_ok rfl (fun n _ => arenaNew n) th13_ok))

theorem lawAlive  : PCall Try.prog 20 [] (.cv (ibool aliveB)) := by
  refine PCall_of (ACall_body good Try.func20 rfl 39 rfl (by simp) ?_)
  refine AW_seq ?_
  refine AW_all good th14 (th14_ok) rfl rfl ?_ ?_
  · repeat' (first | exact trivial | exact rfl | exact (fun _ _ => rfl) | refine And.intro ?_ ?_ | intro _)
  refine AW_seq ?_
  refine AW_all good th14 (th14_ok) rfl rfl ?_ ?_
  · repeat' (first | exact trivial | exact rfl | exact (fun _ _ => rfl) | refine And.intro ?_ ?_ | intro _)
  obtain ⟨A, hA⟩ : ∃ q, newA 500 = q := ⟨_, rfl⟩
  refine AW_blk 0 rfl (B := bkV 50 arE A) (BLe.of_eq (by rw [← hA]; rfl)) ?_
  refine AW_seq ?_
  refine AW_all good th14 (th14_ok) rfl rfl ?_ ?_
  · repeat' (first | exact trivial | exact rfl | exact (fun _ _ => rfl) | refine And.intro ?_ ?_ | intro _)
    all_goals exact slOk_lit
  obtain ⟨q, hq⟩ : ∃ q, insA A 0 ⟨5, 7⟩ = q := ⟨_, rfl⟩
  refine AW_blk 0 rfl (B := bkV 50 arE q.1) (BLe.of_eq (by rw [← hq]; rfl)) ?_
  refine AW_slot 3 (y := .cv (u64 q.2.1)) rfl (SLe.of_eq (by rw [← hq]; rfl)) ?_
  refine AW_slot 4 (y := .cv (iint q.2.2)) rfl (SLe.of_eq (by rw [← hq]; rfl)) ?_
  refine AW_seq ?_
  refine AW_all good th14 (th14_ok) rfl rfl ?_ ?_
  · repeat' (first | exact trivial | exact rfl | exact (fun _ _ => rfl) | refine And.intro ?_ ?_ | intro _)
    all_goals exact slOk_lit
  obtain ⟨x, hx⟩ : ∃ x, minX q.1 q.2.1 = x := ⟨_, rfl⟩
  refine AW_blk 3 rfl (B := bkV 54 itE x) (BLe.of_eq (by rw [← hx]; rfl)) ?_
  refine AW_seq ?_
  refine AW_all good th14 (th14_ok) rfl rfl ?_ ?_
  · repeat' (first | exact trivial | exact rfl | exact (fun _ _ => rfl) | refine And.intro ?_ ?_ | intro _)
    all_goals (first | assumption | (rename_i hg; exact eqt hg))
  refine AW_ret (bodyQ_ret rfl ?_ (Ends.le rfl ?_ ?_))
  · repeat' (first | exact trivial | exact rfl | exact (fun _ _ => rfl) | refine And.intro ?_ ?_ | intro _)
  · repeat' (first | exact trivial | exact rfl | exact (fun _ _ => rfl) | refine And.intro ?_ ?_ | intro _)
  rw [aliveB_eq]
  unfold aliveR
  rw [hA, hq, hx]
  exact SLe.of_eq rfl

end Go.Proofs.Ytadgjhbhghhbgaa.Abs
