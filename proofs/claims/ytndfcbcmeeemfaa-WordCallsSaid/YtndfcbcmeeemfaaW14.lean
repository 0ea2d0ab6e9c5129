/-
  THE CONTRACTS OF THE REFERENCE OF word: With, Do.
-/
import Derived.Test.YtndfcbcmeeemfaaW13
namespace Go.Proofs.Ytndfcbcmeeemfaa.Abs
open Go
set_option maxRecDepth 10000

def withW (m : Nat → Int) (at_ v : Int) (i : Nat) : Int := bif (i : Int) == at_ then v else m i

theorem with44 (n : Nat) (ex : Bool) (m : Nat → Int) (at_ v : Int) (hn8 : n * 8 ≤ 140737488355328) : PCall Try.prog 44 [.one (uS n ex m), iint at_, iu v] (.cv (.one (uS n false (withW m at_ v)))) := by
  refine PCall_of (ACall_body good Try.func44 rfl 28 rfl (by simp) ?_)
  refine AW_lenle 0 rfl (fun hm => ?_)
  refine AW_seq ?_
  refine AW_all good tabZ tabZ_ok rfl rfl ?_ ?_
  · repeat' (first | exact trivial | exact rfl | exact (fun _ _ => rfl) | apply And.intro | intro _)
    all_goals (first | omega | (rename_i hg; exact hg) | (show (i + 1) * 8 ≤ 140737488355328; omega) | (rename_i hg; exact absurd hg (by omega)) | (change (_ : Bool) = true; simp_all; done))
  refine AW_seq ?_
  refine AW_all good tabZ tabZ_ok rfl rfl ?_ ?_
  · repeat' (first | exact trivial | exact rfl | exact (fun _ _ => rfl) | apply And.intro | intro _)
    all_goals (first | omega | (rename_i hg; exact hg) | (show (i + 1) * 8 ≤ 140737488355328; omega) | (rename_i hg; exact absurd hg (by omega)) | (change (_ : Bool) = true; simp_all; done))
  refine AW_seq ?_
  refine AW_seq ?_
  refine AW_all good tabZ tabZ_ok rfl rfl ?_ ?_
  · repeat' (first | exact trivial | exact rfl | exact (fun _ _ => rfl) | apply And.intro | intro _)
    all_goals (first | omega | (rename_i hg; exact hg) | (show (i + 1) * 8 ≤ 140737488355328; omega) | (rename_i hg; exact absurd hg (by omega)) | (change (_ : Bool) = true; simp_all; done))
  refine AW_block ?_
  refine AW_loopH 1 (fun j : { i : Nat // i ≤ n } => [(0, .cv (.one (uS n ex m))), (1, .cv (iint at_)), (2, .cv (iu v)), (7, .cv (.one (.osl 0 1 0 0 j.1 true))), (11, .cv (.one (uS n ex m))), (12, .cv (iint n)), (13, .cv (iint j.1))]) (fun j => [(0, .rows 22 1 j.1 fun i _ => .val (.int .u64 (withW m at_ v i)))]) (fun j => n - j.1) ⟨0, Nat.zero_le _⟩ [0] rfl rfl ?_ ?_ ?_
  · exact ⟨SLe.of_eq rfl, SLe.of_eq rfl, SLe.of_eq rfl, SLe.of_eq rfl, SLe.of_eq rfl, SLe.of_eq rfl, SLe.of_eq rfl, trivial⟩
  · exact ⟨⟨rfl, _, rfl, BLe.rows rfl (fun i j hi _ => absurd hi (Nat.not_lt_zero i))⟩, trivial⟩
  rintro ⟨i, hi⟩
  dsimp only
  refine AW_seq ?_
  refine AW_all good tabZ tabZ_ok rfl rfl ?_ ?_
  · repeat' (first | exact trivial | exact rfl | exact (fun _ _ => rfl) | apply And.intro | intro _)
    all_goals (first | omega | (rename_i hg; exact hg) | (show (i + 1) * 8 ≤ 140737488355328; omega) | (rename_i hg; exact absurd hg (by omega)) | (change (_ : Bool) = true; simp_all; done))
  refine AW_seq ?_
  refine AW_cond rfl (fun h1 => ?_) (fun h1 => ?_)
  · first
    | (exfalso; simp_all; done)
    | (
        refine AW_skip ?_
        refine AW_seq ?_
        refine AW_block ?_
        refine AW_seq ?_
        have hlt : i < n := by simpa using h1
        refine AW_all good tabZ tabZ_ok rfl rfl ?_ ?_
        · repeat' (first | exact trivial | exact rfl | exact (fun _ _ => rfl) | apply And.intro | intro _)
          all_goals omega
        refine AW_seq ?_
        refine AW_seq ?_
        refine AW_all good tabZ tabZ_ok rfl rfl ?_ ?_
        · repeat' (first | exact trivial | exact rfl | exact (fun _ _ => rfl) | apply And.intro | intro _)
          all_goals (first | omega | (rename_i hg; exact hg) | (show (i + 1) * 8 ≤ 140737488355328; omega) | (rename_i hg; exact absurd hg (by omega)) | (change (_ : Bool) = true; simp_all; done))
        refine AW_cond rfl (fun h2 => ?_) (fun h2 => ?_)
        · first
          | (exfalso; simp_all; done)
          | (
              refine AW_all good tabZ tabZ_ok rfl rfl ?_ ?_
              · repeat' (first | exact trivial | exact rfl | exact (fun _ _ => rfl) | apply And.intro | intro _)
                all_goals (first | omega | (rename_i hg; exact hg) | (show (i + 1) * 8 ≤ 140737488355328; omega) | (rename_i hg; exact absurd hg (by omega)) | (change (_ : Bool) = true; simp_all; done))
              refine AW_all good tabZ tabZ_ok rfl rfl ?_ ?_
              · repeat' (first | exact trivial | exact rfl | exact (fun _ _ => rfl) | apply And.intro | intro _)
                all_goals (first | omega | (rename_i hg; exact hg) | (show (i + 1) * 8 ≤ 140737488355328; omega) | (rename_i hg; exact absurd hg (by omega)) | (change (_ : Bool) = true; simp_all; done))
              refine AW_all good tabZ tabZ_ok rfl rfl ?_ ?_
              · repeat' (first | exact trivial | exact rfl | exact (fun _ _ => rfl) | apply And.intro | intro _)
                all_goals (first | omega | (rename_i hg; exact hg) | (show (i + 1) * 8 ≤ 140737488355328; omega) | (rename_i hg; exact absurd hg (by omega)) | (change (_ : Bool) = true; simp_all; done))
              refine loopH_next ⟨i + 1, hlt⟩ [2] rfl rfl ⟨SLe.of_eq rfl, SLe.of_eq rfl, SLe.of_eq rfl, SLe.of_eq rfl, SLe.of_eq rfl, SLe.of_eq rfl, SLe.of_eq (congrArg (fun z => SV.cv (iint z)) (next_int i n hlt hm)), trivial⟩ ⟨⟨rfl, _, rfl, BLe.rows rfl (fun q j hq hj => ILe.of_eq ?_)⟩, trivial⟩ ?_
              · obtain rfl : j = 0 := by
                  have : j < 1 := hj
                  omega
                have h2' : ((i : Int) == at_) = true := h2
                rcases Nat.lt_or_ge q i with h | h
                · have hb : Nat.blt q i = true := Nat.ble_eq_true_of_le h
                  show (bif Nat.blt q i then _ else _) = _
                  rw [hb]
                  rfl
                · obtain rfl : q = i := by omega
                  have hb : Nat.blt q q = false := by
                    cases hb : Nat.blt q q with
                    | false => rfl
                    | true => have : q < q := Nat.le_of_ble_eq_true hb; omega
                  have hz : q - q = 0 := Nat.sub_self q
                  show (bif Nat.blt q q then _ else _) = _
                  rw [hb]
                  simp only [hz]
                  show IV.val (.int .u64 _) = IV.val (.int .u64 (withW m at_ v q))
                  unfold withW
                  rw [h2']
                  rfl
              show n - (i + 1) < n - i
              omega
          )
        · first
          | (exfalso; simp_all; done)
          | (
              refine AW_skip ?_
              refine AW_all good tabZ tabZ_ok rfl rfl ?_ ?_
              · repeat' (first | exact trivial | exact rfl | exact (fun _ _ => rfl) | apply And.intro | intro _)
                all_goals (first | omega | (rename_i hg; exact hg) | (show (i + 1) * 8 ≤ 140737488355328; omega) | (rename_i hg; exact absurd hg (by omega)) | (change (_ : Bool) = true; simp_all; done))
              refine AW_all good tabZ tabZ_ok rfl rfl ?_ ?_
              · repeat' (first | exact trivial | exact rfl | exact (fun _ _ => rfl) | apply And.intro | intro _)
                all_goals (first | omega | (rename_i hg; exact hg) | (show (i + 1) * 8 ≤ 140737488355328; omega) | (rename_i hg; exact absurd hg (by omega)) | (change (_ : Bool) = true; simp_all; done))
              refine loopH_next ⟨i + 1, hlt⟩ [2] rfl rfl ⟨SLe.of_eq rfl, SLe.of_eq rfl, SLe.of_eq rfl, SLe.of_eq rfl, SLe.of_eq rfl, SLe.of_eq rfl, SLe.of_eq (congrArg (fun z => SV.cv (iint z)) (next_int i n hlt hm)), trivial⟩ ⟨⟨rfl, _, rfl, BLe.rows rfl (fun q j hq hj => ILe.of_eq ?_)⟩, trivial⟩ ?_
              · obtain rfl : j = 0 := by
                  have : j < 1 := hj
                  omega
                have h2' : ((i : Int) == at_) = false := h2
                rcases Nat.lt_or_ge q i with h | h
                · have hb : Nat.blt q i = true := Nat.ble_eq_true_of_le h
                  show (bif Nat.blt q i then _ else _) = _
                  rw [hb]
                  rfl
                · obtain rfl : q = i := by omega
                  have hb : Nat.blt q q = false := by
                    cases hb : Nat.blt q q with
                    | false => rfl
                    | true => have : q < q := Nat.le_of_ble_eq_true hb; omega
                  have hz : q - q = 0 := Nat.sub_self q
                  show (bif Nat.blt q q then _ else _) = _
                  rw [hb]
                  simp only [hz]
                  show IV.val (.int .u64 _) = IV.val (.int .u64 (withW m at_ v q))
                  unfold withW
                  rw [h2']
                  rfl
              show n - (i + 1) < n - i
              omega
          )
    )
  · first
    | (exfalso; simp_all; done)
    | (
        refine AW_exit ?_
        refine AW_seq ?_
        refine AW_all good tabZ tabZ_ok rfl rfl ?_ ?_
        · repeat' (first | exact trivial | exact rfl | exact (fun _ _ => rfl) | apply And.intro | intro _)
          all_goals (first | omega | (rename_i hg; exact hg) | (show (i + 1) * 8 ≤ 140737488355328; omega) | (rename_i hg; exact absurd hg (by omega)) | (change (_ : Bool) = true; simp_all; done))
        refine AW_ret (bodyQ_ret rfl ?_ (Ends.le rfl ?_ ?_))
        · repeat' (first | exact trivial | exact rfl | exact (fun _ _ => rfl) | apply And.intro | intro _)
          all_goals (first | omega | (rename_i hg; exact hg) | (show (i + 1) * 8 ≤ 140737488355328; omega) | (rename_i hg; exact absurd hg (by omega)) | (change (_ : Bool) = true; simp_all; done))
        · repeat' (first | exact trivial | exact rfl | exact (fun _ _ => rfl) | apply And.intro | intro _)
          all_goals (first | omega | (rename_i hg; exact hg) | (show (i + 1) * 8 ≤ 140737488355328; omega) | (rename_i hg; exact absurd hg (by omega)) | (change (_ : Bool) = true; simp_all; done))
        have he : i = n := by
          have : ¬ i < n := by simpa using h1
          omega
        subst he
        exact SLe.cv (CLe.imm (ILe.sl rfl id (.inr ⟨rfl, fun i j hi hj => ILe.of_eq (by rw [Nat.zero_add])⟩)))
    )

def tabA : Tab := tabAdd 44 (fun args => match args with
  | [.one (.imm (.sl 1 n _ cell)), .one (.imm (.val (.int .i64 at_))), .one (.imm (.val (.int .u64 v)))] => some (.cv (.one (uS n false (withW (wordsAt cell) at_ v))), isWords n cell ∧ n * 8 ≤ 140737488355328)
  | _ => none) tabZ
theorem tabA_ok : TabOk Try.prog tabA := by
  refine tabAdd_ok rfl (fun args r p h hp => ?_) tabZ_ok
  split at h
  · rename_i n ex cell at_ v
    simp only [Option.some.injEq, Prod.mk.injEq] at h; obtain ⟨rfl, rfl⟩ := h; exact (with44 n ex (wordsAt cell) at_ v hp.2).args (TLe.cons (words_le hp.1) (TLe.refl _))
  · cases h

theorem CLe.agg3 {a b c a' b' c' : AV} (h1 : CLe (.one a) (.one a')) (h2 : CLe (.one b) (.one b')) (h3 : CLe (.one c) (.one c')) : CLe (.agg [a, b, c]) (.agg [a', b', c']) := by
  rintro w O μ v ⟨cs, hv, hl, hr⟩
  refine ⟨cs, hv, hl, fun i y u hy hu => ?_⟩
  match i, hy with
  | 0, hy => simp at hy; subst hy; exact h1 w O μ u (hr 0 a u rfl hu)
  | 1, hy => simp at hy; subst hy; exact h2 w O μ u (hr 1 b u rfl hu)
  | 2, hy => simp at hy; subst hy; exact h3 w O μ u (hr 2 c u rfl hu)

/-- What the reference answers. -/
def refV (n : Nat) (m : Nat → Int) (k at_ x y : Int) : SV :=
  .cv (.agg [uS (bif badK k n at_ then 0 else n) false (withW m at_ (newW k x y (m at_.toNat))), .imm (.val (.int .u64 (bif badK k n at_ then 0 else ansW k x y (m at_.toNat)))), .imm (.val (.int .i64 (bif badK k n at_ then 1 else 0)))])

theorem withW_self {m : Nat → Int} {at_ : Int} (i : Nat) : m i = withW m at_ (m at_.toNat) i := by
  unfold withW
  cases h : (i : Int) == at_ with
  | false => rfl
  | true =>
    have : (i : Int) = at_ := by simpa using h
    subst this
    rfl

theorem uS_le {n n' : Nat} {ex : Bool} {a b : Nat → Int} (hn : n' = n) (h : ∀ i, a i = b i) : CLe (.one (uS n ex a)) (.one (uS n' false b)) :=
  CLe.imm (ILe.sl hn (by simp) (.inr ⟨rfl, fun i j _ _ => ILe.of_eq (by rw [h i])⟩))

theorem refbad (n : Nat) (k at_ : Int) : (bif bif bif bif decide ((n : Int) > 64) then true else decide (at_ < 0) then true else decide (at_ ≥ n) then true else decide (k < 1) then true else decide (k > 4)) = badK k n at_ := by
  have e : badK k n at_ = (decide ((n : Int) > 64) || (decide (at_ < 0) || (decide (at_ ≥ n) || (decide (k < 1) || decide (k > 4))))) := by
    rw [Bool.eq_iff_iff]
    simp only [badK, badAt, Bool.or_eq_true, Bool.not_eq_true', Bool.or_eq_false_iff, decide_eq_true_eq, decide_eq_false_iff_not, beq_eq_false_iff_ne]
    omega
  rw [e]
  cases decide ((n : Int) > 64) <;> cases decide (at_ < 0) <;> cases decide (at_ ≥ n) <;> cases decide (k < 1) <;> rfl
theorem notbad {n : Nat} {k at_ : Int} (h : badK k n at_ = false) : n ≤ 64 ∧ 0 ≤ at_ ∧ at_ < n := by
  simp only [badK, badAt, Bool.or_eq_false_iff, Bool.not_eq_false', decide_eq_true_eq, decide_eq_false_iff_not] at h
  omega
theorem four {n : Nat} {k at_ : Int} (h : badK k n at_ = false) (h1 : (k == 1) = false) (h2 : (k == 2) = false) (h3 : (k == 3) = false) : k = 4 := by
  simp only [badK, h1, h2, h3, Bool.false_or, Bool.or_eq_false_iff, Bool.not_eq_false'] at h
  simpa using h.1

theorem refdo24 (n : Nat) (ex : Bool) (m : Nat → Int) (k at_ x y : Int) : PCall Try.prog 24 [.one (uS n ex m), stepC k at_ x y] (refV n m k at_ x y) := by
  refine PCall_of (ACall_body good Try.func24 rfl 78 rfl (by simp) ?_)
  refine AW_seq ?_
  refine AW_all good tabA tabA_ok rfl rfl ?_ ?_
  · repeat' (first | exact trivial | exact rfl | exact (fun _ _ => rfl) | apply And.intro | intro _)
    all_goals (first | omega | (rename_i hg; exact hg) | (change (_ : Bool) = true; simp_all; done) | (simp_all; omega))
  refine AW_seq ?_
  refine AW_seq ?_
  refine AW_all good tabA tabA_ok rfl rfl ?_ ?_
  · repeat' (first | exact trivial | exact rfl | exact (fun _ _ => rfl) | apply And.intro | intro _)
    all_goals (first | omega | (rename_i hg; exact hg) | (change (_ : Bool) = true; simp_all; done) | (simp_all; omega))
  refine AW_cond rfl (fun h1 => ?_) (fun h1 => ?_)
  · first
    | (exfalso; simp_all; done)
    | (
        refine AW_seq ?_
        refine AW_all good tabA tabA_ok rfl rfl ?_ ?_
        · repeat' (first | exact trivial | exact rfl | exact (fun _ _ => rfl) | apply And.intro | intro _)
          all_goals (first | omega | (rename_i hg; exact hg) | (change (_ : Bool) = true; simp_all; done) | (simp_all; omega))
        refine AW_ret (bodyQ_ret rfl ?_ (Ends.le rfl ?_ ?_))
        · repeat' (first | exact trivial | exact rfl | exact (fun _ _ => rfl) | apply And.intro | intro _)
          all_goals (first | omega | (rename_i hg; exact hg) | (change (_ : Bool) = true; simp_all; done) | (simp_all; omega))
        · repeat' (first | exact trivial | exact rfl | exact (fun _ _ => rfl) | apply And.intro | intro _)
          all_goals (first | omega | (rename_i hg; exact hg) | (change (_ : Bool) = true; simp_all; done) | (simp_all; omega))
        have hb : badK k n at_ = true := (refbad n k at_).symm.trans h1
        unfold refV
        rw [hb]
        exact SLe.cv (CLe.agg3 (CLe.imm (ILe.sl rfl (by simp) (.inl rfl))) (CLe.of_eq rfl) (CLe.of_eq rfl))
    )
  · first
    | (exfalso; simp_all; done)
    | (
        refine AW_skip ?_
        refine AW_seq ?_
        have hb : badK k n at_ = false := (refbad n k at_).symm.trans h1
        have hn := notbad hb
        refine AW_all good tabA tabA_ok rfl rfl ?_ ?_
        · repeat' (first | exact trivial | exact rfl | exact (fun _ _ => rfl) | apply And.intro | intro _)
          all_goals (first | omega | (rename_i hg; exact hg) | (change (_ : Bool) = true; simp_all; done) | (simp_all; omega))
        refine AW_seq ?_
        refine AW_seq ?_
        refine AW_all good tabA tabA_ok rfl rfl ?_ ?_
        · repeat' (first | exact trivial | exact rfl | exact (fun _ _ => rfl) | apply And.intro | intro _)
          all_goals (first | omega | (rename_i hg; exact hg) | (change (_ : Bool) = true; simp_all; done) | (simp_all; omega))
        refine AW_block ?_
        refine AW_seq ?_
        refine AW_all good tabA tabA_ok rfl rfl ?_ ?_
        · repeat' (first | exact trivial | exact rfl | exact (fun _ _ => rfl) | apply And.intro | intro _)
          all_goals (first | omega | (rename_i hg; exact hg) | (change (_ : Bool) = true; simp_all; done) | (simp_all; omega))
        refine AW_cond rfl (fun h2 => ?_) (fun h2 => ?_)
        · first
          | (exfalso; simp_all; done)
          | (
              refine AW_seq ?_
              refine AW_all good tabA tabA_ok rfl rfl ?_ ?_
              · repeat' (first | exact trivial | exact rfl | exact (fun _ _ => rfl) | apply And.intro | intro _)
                all_goals (first | omega | (rename_i hg; exact hg) | (change (_ : Bool) = true; simp_all; done) | (simp_all; omega))
              refine AW_ret (bodyQ_ret rfl ?_ (Ends.le rfl ?_ ?_))
              · repeat' (first | exact trivial | exact rfl | exact (fun _ _ => rfl) | apply And.intro | intro _)
                all_goals (first | omega | (rename_i hg; exact hg) | (change (_ : Bool) = true; simp_all; done) | (simp_all; omega))
              · repeat' (first | exact trivial | exact rfl | exact (fun _ _ => rfl) | apply And.intro | intro _)
                all_goals (first | omega | (rename_i hg; exact hg) | (change (_ : Bool) = true; simp_all; done) | (simp_all; omega))
              obtain rfl : k = 1 := by simpa using h2
              unfold refV
              rw [hb]
              exact SLe.cv (CLe.agg3 (uS_le rfl fun i => withW_self i) (CLe.of_eq rfl) (CLe.of_eq rfl))
          )
        · first
          | (exfalso; simp_all; done)
          | (
              refine AW_seq ?_
              refine AW_all good tabA tabA_ok rfl rfl ?_ ?_
              · repeat' (first | exact trivial | exact rfl | exact (fun _ _ => rfl) | apply And.intro | intro _)
                all_goals (first | omega | (rename_i hg; exact hg) | (change (_ : Bool) = true; simp_all; done) | (simp_all; omega))
              refine AW_cond rfl (fun h3 => ?_) (fun h3 => ?_)
              · first
                | (exfalso; simp_all; done)
                | (
                    refine AW_seq ?_
                    refine AW_all good tabA tabA_ok rfl rfl ?_ ?_
                    · repeat' (first | exact trivial | exact rfl | exact (fun _ _ => rfl) | apply And.intro | intro _)
                      all_goals (first | omega | (rename_i hg; exact hg) | (change (_ : Bool) = true; simp_all; done) | (simp_all; omega))
                    refine AW_ret (bodyQ_ret rfl ?_ (Ends.le rfl ?_ ?_))
                    · repeat' (first | exact trivial | exact rfl | exact (fun _ _ => rfl) | apply And.intro | intro _)
                      all_goals (first | omega | (rename_i hg; exact hg) | (change (_ : Bool) = true; simp_all; done) | (simp_all; omega))
                    · repeat' (first | exact trivial | exact rfl | exact (fun _ _ => rfl) | apply And.intro | intro _)
                      all_goals (first | omega | (rename_i hg; exact hg) | (change (_ : Bool) = true; simp_all; done) | (simp_all; omega))
                    obtain rfl : k = 2 := by simpa using h3
                    unfold refV
                    rw [hb]
                    exact SLe.cv (CLe.agg3 (uS_le rfl fun i => rfl) (CLe.of_eq rfl) (CLe.of_eq rfl))
                )
              · first
                | (exfalso; simp_all; done)
                | (
                    refine AW_seq ?_
                    refine AW_all good tabA tabA_ok rfl rfl ?_ ?_
                    · repeat' (first | exact trivial | exact rfl | exact (fun _ _ => rfl) | apply And.intro | intro _)
                      all_goals (first | omega | (rename_i hg; exact hg) | (change (_ : Bool) = true; simp_all; done) | (simp_all; omega))
                    refine AW_cond rfl (fun h4 => ?_) (fun h4 => ?_)
                    · first
                      | (exfalso; simp_all; done)
                      | (
                          refine AW_seq ?_
                          refine AW_seq ?_
                          refine AW_all good tabA tabA_ok rfl rfl ?_ ?_
                          · repeat' (first | exact trivial | exact rfl | exact (fun _ _ => rfl) | apply And.intro | intro _)
                            all_goals (first | omega | (rename_i hg; exact hg) | (change (_ : Bool) = true; simp_all; done) | (simp_all; omega))
                          refine AW_cond rfl (fun h5 => ?_) (fun h5 => ?_)
                          · first
                            | (exfalso; simp_all; done)
                            | (
                                refine AW_seq ?_
                                refine AW_all good tabA tabA_ok rfl rfl ?_ ?_
                                · repeat' (first | exact trivial | exact rfl | exact (fun _ _ => rfl) | apply And.intro | intro _)
                                  all_goals (first | omega | (rename_i hg; exact hg) | (change (_ : Bool) = true; simp_all; done) | (simp_all; omega))
                                refine AW_ret (bodyQ_ret rfl ?_ (Ends.le rfl ?_ ?_))
                                · repeat' (first | exact trivial | exact rfl | exact (fun _ _ => rfl) | apply And.intro | intro _)
                                  all_goals (first | omega | (rename_i hg; exact hg) | (change (_ : Bool) = true; simp_all; done) | (simp_all; omega))
                                · repeat' (first | exact trivial | exact rfl | exact (fun _ _ => rfl) | apply And.intro | intro _)
                                  all_goals (first | omega | (rename_i hg; exact hg) | (change (_ : Bool) = true; simp_all; done) | (simp_all; omega))
                                obtain rfl : k = 3 := by simpa using h4
                                have e : (m at_.toNat == x) = false := by simpa using h5
                                have e1 : newW 3 x y (m at_.toNat) = m at_.toNat := by simp [newW, casG, e]
                                have e2 : ansW 3 x y (m at_.toNat) = 0 := by simp [ansW, casG, e]
                                unfold refV
                                rw [hb, e1, e2]
                                exact SLe.cv (CLe.agg3 (uS_le rfl fun i => withW_self i) (CLe.of_eq rfl) (CLe.of_eq rfl))
                            )
                          · first
                            | (exfalso; simp_all; done)
                            | (
                                refine AW_skip ?_
                                refine AW_seq ?_
                                refine AW_all good tabA tabA_ok rfl rfl ?_ ?_
                                · repeat' (first | exact trivial | exact rfl | exact (fun _ _ => rfl) | apply And.intro | intro _)
                                  all_goals (first | omega | (rename_i hg; exact hg) | (change (_ : Bool) = true; simp_all; done) | (simp_all; omega))
                                refine AW_ret (bodyQ_ret rfl ?_ (Ends.le rfl ?_ ?_))
                                · repeat' (first | exact trivial | exact rfl | exact (fun _ _ => rfl) | apply And.intro | intro _)
                                  all_goals (first | omega | (rename_i hg; exact hg) | (change (_ : Bool) = true; simp_all; done) | (simp_all; omega))
                                · repeat' (first | exact trivial | exact rfl | exact (fun _ _ => rfl) | apply And.intro | intro _)
                                  all_goals (first | omega | (rename_i hg; exact hg) | (change (_ : Bool) = true; simp_all; done) | (simp_all; omega))
                                obtain rfl : k = 3 := by simpa using h4
                                have e : (m at_.toNat == x) = true := by simpa using h5
                                have e1 : newW 3 x y (m at_.toNat) = y := by simp [newW, casG, e]
                                have e2 : ansW 3 x y (m at_.toNat) = 1 := by simp [ansW, casG, e]
                                unfold refV
                                rw [hb, e1, e2]
                                exact SLe.cv (CLe.agg3 (uS_le rfl fun i => rfl) (CLe.of_eq rfl) (CLe.of_eq rfl))
                            )
                      )
                    · first
                      | (exfalso; simp_all; done)
                      | (
                          refine AW_skip ?_
                          refine AW_seq ?_
                          refine AW_all good tabA tabA_ok rfl rfl ?_ ?_
                          · repeat' (first | exact trivial | exact rfl | exact (fun _ _ => rfl) | apply And.intro | intro _)
                            all_goals (first | omega | (rename_i hg; exact hg) | (change (_ : Bool) = true; simp_all; done) | (simp_all; omega))
                          refine AW_ret (bodyQ_ret rfl ?_ (Ends.le rfl ?_ ?_))
                          · repeat' (first | exact trivial | exact rfl | exact (fun _ _ => rfl) | apply And.intro | intro _)
                            all_goals (first | omega | (rename_i hg; exact hg) | (change (_ : Bool) = true; simp_all; done) | (simp_all; omega))
                          · repeat' (first | exact trivial | exact rfl | exact (fun _ _ => rfl) | apply And.intro | intro _)
                            all_goals (first | omega | (rename_i hg; exact hg) | (change (_ : Bool) = true; simp_all; done) | (simp_all; omega))
                          obtain rfl : k = 4 := four hb h2 h3 h4
                          unfold refV
                          rw [hb]
                          exact SLe.cv (CLe.agg3 (uS_le rfl fun i => rfl) (CLe.of_eq rfl) (CLe.of_eq rfl))
                      )
                )
          )
    )
end Go.Proofs.Ytndfcbcmeeemfaa.Abs
