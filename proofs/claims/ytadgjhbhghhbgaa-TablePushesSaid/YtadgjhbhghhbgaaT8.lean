/-
  THE LAW TablePushes as a contract.
-/
import Derived.Test.YtadgjhbhghhbgaaT7
namespace Go.Proofs.Ytadgjhbhghhbgaa.Abs
open Go
set_option maxRecDepth 10000

def tabU3 : Tab := tabC2 17 tblCod (codI .i64) (fun t no => .tup [recC (findR t no), iint (findE_ t no)]) (fun _ _ => True) (tabC2 15 tblCod recCod (fun t r => .tup [tblC (pushT t r), iint (pushE t r)]) (fun _ _ => True) tabA1)
theorem tabU3_ok : TabOk Try.prog tabU3 := tabC2_ok rfl (fun t no _ => find17 t no) (tabC2_ok rfl (fun t r _ => push15 t r) tabA1_ok)

def numR (i : Int) : RecD := ⟨i, zeroIV lay42 1, zeroIV lay42 2, zeroIV lay42 3, zeroIV lay42 4, zeroIV lay42 5, zeroIV lay42 6⟩
def vR (n k : Nat) : RecD := bif Nat.beq k 0 then beginR n else numR k
/-- Behind i pushes: the first version, and those of the numbers 1 .. i. -/
def puT (n i : Nat) : Tbl := ⟨i + 1, fun q => vR n (min q i), n, fun _ => -1, 8, fun _ => -1⟩
theorem vR_no {n k : Nat} : (vR n k).no = k := by
  unfold vR
  cases k <;> rfl
theorem pu_shp {n i : Nat} (h : i ≤ 19) : shp (puT n i) = true := shp_mk (show 1 ≤ i + 1 by omega) (show i + 1 ≤ 64 by omega) rfl
theorem pu_no {n i q : Nat} (h : q ≤ i) : ((puT n i).rc q).no = q := by
  show (vR n (min q i)).no = q
  rw [Nat.min_eq_left h]
  exact vR_no
theorem pu_now {n i : Nat} (h : i ≤ 19) : (nowR (puT n i)).no = i := by
  unfold nowR
  rw [pu_shp h]
  exact pu_no (Nat.le_refl _)
theorem pu_now2 {n i : Nat} (h : i ≤ 20) : (nowR (puT n i)).no = i := by
  unfold nowR
  rw [show shp (puT n i) = true from shp_mk (show 1 ≤ i + 1 by omega) (show i + 1 ≤ 64 by omega) rfl]
  exact pu_no (Nat.le_refl _)
theorem pu_bad {n i : Nat} (h : i ≤ 19) (x : Int) : pushBad (puT n i) (numR x) = (x != (i : Int) + 1) := by
  unfold pushBad
  rw [pu_now h, decide_eq_false (by omega), show IntKind.i64.wrap ((i : Int) + 1) = (i : Int) + 1 by rw [IntKind.wrap_i64]; omega]
  show (bif (x != (i : Int) + 1) then true else (((i + 1 : Nat) : Int) == 64)) = _
  rw [show (((i + 1 : Nat) : Int) == 64) = false from beq_eq_false_iff_ne.2 (by omega)]
  cases (x != (i : Int) + 1) <;> rfl
theorem pu_pushE {n i : Nat} (h : i ≤ 19) (x : Int) : pushE (puT n i) (numR x) = bif (x != (i : Int) + 1) then 6 else 0 := by
  unfold pushE
  rw [pu_shp h, pu_bad h]
  rfl
theorem pu_push {n i : Nat} (h : i ≤ 19) : pushE (puT n i) (numR ((i : Int) + 1)) = 0 := by
  rw [pu_pushE h]
  simp
theorem pu_pushT {n i : Nat} (h : i ≤ 19) : pushT (puT n i) (numR ((i : Int) + 1)) = puT n (i + 1) := by
  unfold pushT
  rw [pu_push h]
  show Tbl.mk _ _ _ _ _ _ = Tbl.mk _ _ _ _ _ _
  congr 1
  funext q
  show (bif Nat.blt q (i + 1) then vR n (min q i) else numR ((i : Int) + 1)) = vR n (min q (i + 1))
  rcases Nat.lt_or_ge q (i + 1) with h | h
  · rw [blt_t h, Nat.min_eq_left (by omega), Nat.min_eq_left (by omega)]
    rfl
  · rw [blt_f h, Nat.min_eq_right h]
    rfl
theorem pu_0 (n : Nat) : newT n = puT n 0 := by
  show Tbl.mk _ _ _ _ _ _ = Tbl.mk _ _ _ _ _ _
  congr 1
  funext q
  show beginR n = vR n (min q 0)
  rw [Nat.min_zero]
  rfl
theorem pu_place {n i : Nat} (x : Int) : placeT (puT n i) x = bif decide (0 ≤ x ∧ x ≤ i) then x else -1 := by
  cases h : decide (0 ≤ x ∧ x ≤ (i : Int)) with
  | true =>
    obtain ⟨h1, h2⟩ := of_decide_eq_true h
    obtain ⟨k, rfl⟩ : ∃ k : Nat, x = k := ⟨x.toNat, by omega⟩
    show idxOf _ (i + 1) = (k : Int)
    refine idx_found (by omega) ?_ fun q hq => ?_
    · show (((puT n i).rc k).no == (k : Int)) = true
      rw [pu_no (by omega)]
      simp
    · show (((puT n i).rc q).no == (k : Int)) = false
      rw [pu_no (by omega)]
      exact beq_eq_false_iff_ne.2 (by omega)
  | false =>
    have h := of_decide_eq_false h
    refine idx_none fun q hq => ?_
    have hq : q < i + 1 := hq
    show (((puT n i).rc q).no == x) = false
    rw [pu_no (by omega)]
    exact beq_eq_false_iff_ne.2 fun e => h ⟨by omega, by omega⟩
theorem pu_find {n i : Nat} (h : i ≤ 20) (x : Int) : findE_ (puT n i) x = bif decide (0 ≤ x ∧ x ≤ i) then 0 else 3 := by
  have hs : shp (puT n i) = true := shp_mk (show 1 ≤ i + 1 by omega) (show i + 1 ≤ 64 by omega) rfl
  unfold findE_
  rw [hs, pu_place]
  cases h : decide (0 ≤ x ∧ x ≤ (i : Int)) with
  | true =>
    obtain ⟨h1, h2⟩ := of_decide_eq_true h
    show (bif decide (x < 0) then (3 : Int) else 0) = 0
    rw [decide_eq_false (by omega)]
    rfl
  | false => rfl
theorem twenty (x : Int) : ∃ k : Nat, k < 20 ∧ Int.tmod (IntKind.i64.wrap (Int.tmod x 20 + 20)) 20 = (k : Int) := by
  have h2 := Int.tmod_lt_of_pos x (b := 20) (by omega)
  have h3 : -20 < Int.tmod x 20 := Int.lt_tmod_of_pos x (by omega)
  have e : IntKind.i64.wrap (Int.tmod x 20 + 20) = Int.tmod x 20 + 20 := by rw [IntKind.wrap_i64]; omega
  rw [e]
  have h4 : 0 ≤ Int.tmod (Int.tmod x 20 + 20) 20 := Int.tmod_nonneg _ (by omega)
  have h5 := Int.tmod_lt_of_pos (Int.tmod x 20 + 20) (b := 20) (by omega)
  exact ⟨(Int.tmod (Int.tmod x 20 + 20) 20).toNat, by omega, by omega⟩
theorem wr_succ {i : Nat} (h : i ≤ 20) : IntKind.i64.wrap ((i : Int) + 1) = ((i : Int) + 1) := by rw [IntKind.wrap_i64]; omega

theorem pushes4 (procs m other : Int) : PCall Try.prog 4 [iint procs, iint m, iint other] (.cv (ibool true)) := by
  refine PCall_of (ACall_body good Try.func4 rfl 118 rfl (by simp) ?_)
  refine AW_seq ?_
  refine AW_all good tabU3 (tabU3_ok) rfl rfl ?_ ?_
  · repeat' (first | exact trivial | exact rfl | exact (fun _ _ => rfl) | refine And.intro ?_ ?_ | intro _)
    all_goals (first | omega | (unfold maxLen; omega) | exact bytes_ok (by omega) (by decide) | exact bytes_okI (by omega) (by omega) (by decide) | exact of_decide_eq_true (by assumption) | decide | exact slOk_lit | exact recs_lit | exact ints_lit | exact slOk_f | exact slOk_nil | assumption | exact .inl rfl | exact .inr rfl | (rename_i hg; exact hg) | (rename_i hg; exact eqf hg) | (rename_i hg; exact eqt hg) | (refine andt ?_ ?_ <;> first | assumption | exact eqf (by assumption) | exact eqt (by assumption)) | (refine andt (andt ?_ ?_) ?_ <;> first | assumption | exact eqf (by assumption) | exact eqt (by assumption)) | (rename_i hg; change (_ : Bool) = true; rw [hg]; rfl) | (change (_ : Bool) = true; simp_all; done) | skip)
  refine AW_seq ?_
  refine AW_all good tabU3 (tabU3_ok) rfl rfl ?_ ?_
  · repeat' (first | exact trivial | exact rfl | exact (fun _ _ => rfl) | refine And.intro ?_ ?_ | intro _)
    all_goals (first | omega | (unfold maxLen; omega) | exact bytes_ok (by omega) (by decide) | exact bytes_okI (by omega) (by omega) (by decide) | exact of_decide_eq_true (by assumption) | decide | exact slOk_lit | exact recs_lit | exact ints_lit | exact slOk_f | exact slOk_nil | assumption | exact .inl rfl | exact .inr rfl | (rename_i hg; exact hg) | (rename_i hg; exact eqf hg) | (rename_i hg; exact eqt hg) | (refine andt ?_ ?_ <;> first | assumption | exact eqf (by assumption) | exact eqt (by assumption)) | (refine andt (andt ?_ ?_) ?_ <;> first | assumption | exact eqf (by assumption) | exact eqt (by assumption)) | (rename_i hg; change (_ : Bool) = true; rw [hg]; rfl) | (change (_ : Bool) = true; simp_all; done) | skip)
  refine AW_seq ?_
  obtain ⟨k0, hk0, hke⟩ := eight procs
  obtain ⟨n, hn⟩ : ∃ n, n = 1 + k0 := ⟨_, rfl⟩
  obtain ⟨k, hk, hkm⟩ := twenty m
  refine AW_slot 0 (y := .cv (iint n)) rfl (SLe.of_eq (congrArg (fun z => SV.cv (iint z)) ?_)) ?_
  · show IntKind.i64.wrap (1 + Int.tmod (IntKind.i64.wrap (Int.tmod procs 8 + 8)) 8) = n
    rw [hke, IntKind.wrap_i64]
    omega
  refine AW_slot 1 (y := .cv (iint k)) rfl (SLe.of_eq (congrArg (fun z => SV.cv (iint z)) hkm)) ?_
  refine AW_all good tabU3 (tabU3_ok) rfl rfl ?_ ?_
  · repeat' (first | exact trivial | exact rfl | exact (fun _ _ => rfl) | refine And.intro ?_ ?_ | intro _)
    all_goals (first | omega | (unfold maxLen; omega) | exact bytes_ok (by omega) (by decide) | exact bytes_okI (by omega) (by omega) (by decide) | exact of_decide_eq_true (by assumption) | decide | exact slOk_lit | exact recs_lit | exact ints_lit | exact slOk_f | exact slOk_nil | assumption | exact .inl rfl | exact .inr rfl | (rename_i hg; exact hg) | (rename_i hg; exact eqf hg) | (rename_i hg; exact eqt hg) | (refine andt ?_ ?_ <;> first | assumption | exact eqf (by assumption) | exact eqt (by assumption)) | (refine andt (andt ?_ ?_) ?_ <;> first | assumption | exact eqf (by assumption) | exact eqt (by assumption)) | (rename_i hg; change (_ : Bool) = true; rw [hg]; rfl) | (change (_ : Bool) = true; simp_all; done) | skip)
  refine AW_seq ?_
  refine AW_seq ?_
  refine AW_all good tabU3 (tabU3_ok) rfl rfl ?_ ?_
  · repeat' (first | exact trivial | exact rfl | exact (fun _ _ => rfl) | refine And.intro ?_ ?_ | intro _)
    all_goals (first | omega | (unfold maxLen; omega) | exact bytes_ok (by omega) (by decide) | exact bytes_okI (by omega) (by omega) (by decide) | exact of_decide_eq_true (by assumption) | decide | exact slOk_lit | exact recs_lit | exact ints_lit | exact slOk_f | exact slOk_nil | assumption | exact .inl rfl | exact .inr rfl | (rename_i hg; exact hg) | (rename_i hg; exact eqf hg) | (rename_i hg; exact eqt hg) | (refine andt ?_ ?_ <;> first | assumption | exact eqf (by assumption) | exact eqt (by assumption)) | (refine andt (andt ?_ ?_) ?_ <;> first | assumption | exact eqf (by assumption) | exact eqt (by assumption)) | (rename_i hg; change (_ : Bool) = true; rw [hg]; rfl) | (change (_ : Bool) = true; simp_all; done) | skip)
  refine AW_cond rfl (fun h1 => ?_) (fun h1 => ?_)
  · first
    | (exfalso; (cases h1; done); done)
    | (
        refine AW_seq ?_
        refine AW_all good tabU3 (tabU3_ok) rfl rfl ?_ ?_
        · repeat' (first | exact trivial | exact rfl | exact (fun _ _ => rfl) | refine And.intro ?_ ?_ | intro _)
          all_goals (first | omega | (unfold maxLen; omega) | exact bytes_ok (by omega) (by decide) | exact bytes_okI (by omega) (by omega) (by decide) | exact of_decide_eq_true (by assumption) | decide | exact slOk_lit | exact recs_lit | exact ints_lit | exact slOk_f | exact slOk_nil | assumption | exact .inl rfl | exact .inr rfl | (rename_i hg; exact hg) | (rename_i hg; exact eqf hg) | (rename_i hg; exact eqt hg) | (refine andt ?_ ?_ <;> first | assumption | exact eqf (by assumption) | exact eqt (by assumption)) | (refine andt (andt ?_ ?_) ?_ <;> first | assumption | exact eqf (by assumption) | exact eqt (by assumption)) | (rename_i hg; change (_ : Bool) = true; rw [hg]; rfl) | (change (_ : Bool) = true; simp_all; done) | skip)
        refine AW_ret (bodyQ_ret rfl ?_ (Ends.le rfl ?_ ?_))
        · repeat' (first | exact trivial | exact rfl | exact (fun _ _ => rfl) | refine And.intro ?_ ?_ | intro _)
          all_goals (first | omega | (unfold maxLen; omega) | exact bytes_ok (by omega) (by decide) | exact bytes_okI (by omega) (by omega) (by decide) | exact of_decide_eq_true (by assumption) | decide | exact slOk_lit | exact recs_lit | exact ints_lit | exact slOk_f | exact slOk_nil | assumption | exact .inl rfl | exact .inr rfl | (rename_i hg; exact hg) | (rename_i hg; exact eqf hg) | (rename_i hg; exact eqt hg) | (refine andt ?_ ?_ <;> first | assumption | exact eqf (by assumption) | exact eqt (by assumption)) | (refine andt (andt ?_ ?_) ?_ <;> first | assumption | exact eqf (by assumption) | exact eqt (by assumption)) | (rename_i hg; change (_ : Bool) = true; rw [hg]; rfl) | (change (_ : Bool) = true; simp_all; done) | skip)
        · repeat' (first | exact trivial | exact rfl | exact (fun _ _ => rfl) | refine And.intro ?_ ?_ | intro _)
          all_goals (first | omega | (unfold maxLen; omega) | exact bytes_ok (by omega) (by decide) | exact bytes_okI (by omega) (by omega) (by decide) | exact of_decide_eq_true (by assumption) | decide | exact slOk_lit | exact recs_lit | exact ints_lit | exact slOk_f | exact slOk_nil | assumption | exact .inl rfl | exact .inr rfl | (rename_i hg; exact hg) | (rename_i hg; exact eqf hg) | (rename_i hg; exact eqt hg) | (refine andt ?_ ?_ <;> first | assumption | exact eqf (by assumption) | exact eqt (by assumption)) | (refine andt (andt ?_ ?_) ?_ <;> first | assumption | exact eqf (by assumption) | exact eqt (by assumption)) | (rename_i hg; change (_ : Bool) = true; rw [hg]; rfl) | (change (_ : Bool) = true; simp_all; done) | skip)
        fail
    )
  · first
    | (exfalso; (cases h1; done); done)
    | (
        refine AW_skip ?_
        refine AW_seq ?_
        refine AW_seq ?_
        refine AW_all good tabU3 (tabU3_ok) rfl rfl ?_ ?_
        · repeat' (first | exact trivial | exact rfl | exact (fun _ _ => rfl) | refine And.intro ?_ ?_ | intro _)
          all_goals (first | omega | (unfold maxLen; omega) | exact bytes_ok (by omega) (by decide) | exact bytes_okI (by omega) (by omega) (by decide) | exact of_decide_eq_true (by assumption) | decide | exact slOk_lit | exact recs_lit | exact ints_lit | exact slOk_f | exact slOk_nil | assumption | exact .inl rfl | exact .inr rfl | (rename_i hg; exact hg) | (rename_i hg; exact eqf hg) | (rename_i hg; exact eqt hg) | (refine andt ?_ ?_ <;> first | assumption | exact eqf (by assumption) | exact eqt (by assumption)) | (refine andt (andt ?_ ?_) ?_ <;> first | assumption | exact eqf (by assumption) | exact eqt (by assumption)) | (rename_i hg; change (_ : Bool) = true; rw [hg]; rfl) | (change (_ : Bool) = true; simp_all; done) | skip)
        refine AW_block ?_
        refine AW_loopX [1, 2, 7, 38] [] (fun j : { i : Nat // i ≤ k } => [(39, .cv (iint j.1))]) (fun j => [(0, tblV (puT n j.1))]) (fun j => k - j.1) ⟨0, Nat.zero_le _⟩ ⟨SLe.of_eq rfl, trivial⟩ ⟨⟨_, rfl, BLe.of_eq (congrArg tblV (pu_0 n))⟩, trivial⟩ ?_
        rintro ⟨i, hi⟩
        dsimp only at hi ⊢
        refine AW_seq ?_
        refine AW_all good tabU3 (tabU3_ok) rfl rfl ?_ ?_
        · repeat' (first | exact trivial | exact rfl | exact (fun _ _ => rfl) | refine And.intro ?_ ?_ | intro _)
          all_goals (first | omega | (unfold maxLen; omega) | exact bytes_ok (by omega) (by decide) | exact bytes_okI (by omega) (by omega) (by decide) | exact of_decide_eq_true (by assumption) | decide | exact slOk_lit | exact recs_lit | exact ints_lit | exact slOk_f | exact slOk_nil | assumption | exact .inl rfl | exact .inr rfl | (rename_i hg; exact hg) | (rename_i hg; exact eqf hg) | (rename_i hg; exact eqt hg) | (refine andt ?_ ?_ <;> first | assumption | exact eqf (by assumption) | exact eqt (by assumption)) | (refine andt (andt ?_ ?_) ?_ <;> first | assumption | exact eqf (by assumption) | exact eqt (by assumption)) | (rename_i hg; change (_ : Bool) = true; rw [hg]; rfl) | (change (_ : Bool) = true; simp_all; done) | skip)
        refine AW_seq ?_
        refine AW_cond rfl (fun h2 => ?_) (fun h2 => ?_)
        · first
          | (exfalso; (cases h2; done); done)
          | (
              refine AW_skip ?_
              refine AW_seq ?_
              refine AW_block ?_
              refine AW_seq ?_
              have hlt : i < k := by
                have := of_decide_eq_true h2
                omega
              refine AW_all good tabU3 (tabU3_ok) rfl rfl ?_ ?_
              · repeat' (first | exact trivial | exact rfl | exact (fun _ _ => rfl) | refine And.intro ?_ ?_ | intro _)
                all_goals (first | omega | (unfold maxLen; omega) | exact bytes_ok (by omega) (by decide) | exact bytes_okI (by omega) (by omega) (by decide) | exact of_decide_eq_true (by assumption) | decide | exact slOk_lit | exact recs_lit | exact ints_lit | exact slOk_f | exact slOk_nil | assumption | exact .inl rfl | exact .inr rfl | (rename_i hg; exact hg) | (rename_i hg; exact eqf hg) | (rename_i hg; exact eqt hg) | (refine andt ?_ ?_ <;> first | assumption | exact eqf (by assumption) | exact eqt (by assumption)) | (refine andt (andt ?_ ?_) ?_ <;> first | assumption | exact eqf (by assumption) | exact eqt (by assumption)) | (rename_i hg; change (_ : Bool) = true; rw [hg]; rfl) | (change (_ : Bool) = true; simp_all; done) | skip)
              refine AW_seq ?_
              refine AW_all good tabU3 (tabU3_ok) rfl rfl ?_ ?_
              · repeat' (first | exact trivial | exact rfl | exact (fun _ _ => rfl) | refine And.intro ?_ ?_ | intro _)
                all_goals (first | omega | (unfold maxLen; omega) | exact bytes_ok (by omega) (by decide) | exact bytes_okI (by omega) (by omega) (by decide) | exact of_decide_eq_true (by assumption) | decide | exact slOk_lit | exact recs_lit | exact ints_lit | exact slOk_f | exact slOk_nil | assumption | exact .inl rfl | exact .inr rfl | (rename_i hg; exact hg) | (rename_i hg; exact eqf hg) | (rename_i hg; exact eqt hg) | (refine andt ?_ ?_ <;> first | assumption | exact eqf (by assumption) | exact eqt (by assumption)) | (refine andt (andt ?_ ?_) ?_ <;> first | assumption | exact eqf (by assumption) | exact eqt (by assumption)) | (rename_i hg; change (_ : Bool) = true; rw [hg]; rfl) | (change (_ : Bool) = true; simp_all; done) | skip)
              refine AW_seq ?_
              refine AW_slot 11 (y := .cv (iint 0)) rfl (SLe.of_eq (congrArg (fun z => SV.cv (iint z)) ?_)) ?_
              · show pushE (puT n i) (numR (IntKind.i64.wrap ((i : Int) + 1))) = 0
                rw [wr_succ (by omega)]
                exact pu_push (by omega)
              refine AW_blk 2 rfl (B := tblV (puT n (i + 1))) (BLe.of_eq (congrArg tblV ?_)) ?_
              · show pushT (puT n i) (numR (IntKind.i64.wrap ((i : Int) + 1))) = _
                rw [wr_succ (by omega)]
                exact pu_pushT (by omega)
              refine AW_all good tabU3 (tabU3_ok) rfl rfl ?_ ?_
              · repeat' (first | exact trivial | exact rfl | exact (fun _ _ => rfl) | refine And.intro ?_ ?_ | intro _)
                all_goals (first | omega | (unfold maxLen; omega) | exact bytes_ok (by omega) (by decide) | exact bytes_okI (by omega) (by omega) (by decide) | exact of_decide_eq_true (by assumption) | decide | exact slOk_lit | exact recs_lit | exact ints_lit | exact slOk_f | exact slOk_nil | assumption | exact .inl rfl | exact .inr rfl | (rename_i hg; exact hg) | (rename_i hg; exact eqf hg) | (rename_i hg; exact eqt hg) | (refine andt ?_ ?_ <;> first | assumption | exact eqf (by assumption) | exact eqt (by assumption)) | (refine andt (andt ?_ ?_) ?_ <;> first | assumption | exact eqf (by assumption) | exact eqt (by assumption)) | (rename_i hg; change (_ : Bool) = true; rw [hg]; rfl) | (change (_ : Bool) = true; simp_all; done) | skip)
              refine AW_seq ?_
              refine AW_seq ?_
              refine AW_all good tabU3 (tabU3_ok) rfl rfl ?_ ?_
              · repeat' (first | exact trivial | exact rfl | exact (fun _ _ => rfl) | refine And.intro ?_ ?_ | intro _)
                all_goals (first | omega | (unfold maxLen; omega) | exact bytes_ok (by omega) (by decide) | exact bytes_okI (by omega) (by omega) (by decide) | exact of_decide_eq_true (by assumption) | decide | exact slOk_lit | exact recs_lit | exact ints_lit | exact slOk_f | exact slOk_nil | assumption | exact .inl rfl | exact .inr rfl | (rename_i hg; exact hg) | (rename_i hg; exact eqf hg) | (rename_i hg; exact eqt hg) | (refine andt ?_ ?_ <;> first | assumption | exact eqf (by assumption) | exact eqt (by assumption)) | (refine andt (andt ?_ ?_) ?_ <;> first | assumption | exact eqf (by assumption) | exact eqt (by assumption)) | (rename_i hg; change (_ : Bool) = true; rw [hg]; rfl) | (change (_ : Bool) = true; simp_all; done) | skip)
              refine AW_cond rfl (fun h3 => ?_) (fun h3 => ?_)
              · first
                | (exfalso; (cases h3; done); done)
                | (
                    refine AW_seq ?_
                    refine AW_all good tabU3 (tabU3_ok) rfl rfl ?_ ?_
                    · repeat' (first | exact trivial | exact rfl | exact (fun _ _ => rfl) | refine And.intro ?_ ?_ | intro _)
                      all_goals (first | omega | (unfold maxLen; omega) | exact bytes_ok (by omega) (by decide) | exact bytes_okI (by omega) (by omega) (by decide) | exact of_decide_eq_true (by assumption) | decide | exact slOk_lit | exact recs_lit | exact ints_lit | exact slOk_f | exact slOk_nil | assumption | exact .inl rfl | exact .inr rfl | (rename_i hg; exact hg) | (rename_i hg; exact eqf hg) | (rename_i hg; exact eqt hg) | (refine andt ?_ ?_ <;> first | assumption | exact eqf (by assumption) | exact eqt (by assumption)) | (refine andt (andt ?_ ?_) ?_ <;> first | assumption | exact eqf (by assumption) | exact eqt (by assumption)) | (rename_i hg; change (_ : Bool) = true; rw [hg]; rfl) | (change (_ : Bool) = true; simp_all; done) | skip)
                    refine AW_ret (bodyQ_ret rfl ?_ (Ends.le rfl ?_ ?_))
                    · repeat' (first | exact trivial | exact rfl | exact (fun _ _ => rfl) | refine And.intro ?_ ?_ | intro _)
                      all_goals (first | omega | (unfold maxLen; omega) | exact bytes_ok (by omega) (by decide) | exact bytes_okI (by omega) (by omega) (by decide) | exact of_decide_eq_true (by assumption) | decide | exact slOk_lit | exact recs_lit | exact ints_lit | exact slOk_f | exact slOk_nil | assumption | exact .inl rfl | exact .inr rfl | (rename_i hg; exact hg) | (rename_i hg; exact eqf hg) | (rename_i hg; exact eqt hg) | (refine andt ?_ ?_ <;> first | assumption | exact eqf (by assumption) | exact eqt (by assumption)) | (refine andt (andt ?_ ?_) ?_ <;> first | assumption | exact eqf (by assumption) | exact eqt (by assumption)) | (rename_i hg; change (_ : Bool) = true; rw [hg]; rfl) | (change (_ : Bool) = true; simp_all; done) | skip)
                    · repeat' (first | exact trivial | exact rfl | exact (fun _ _ => rfl) | refine And.intro ?_ ?_ | intro _)
                      all_goals (first | omega | (unfold maxLen; omega) | exact bytes_ok (by omega) (by decide) | exact bytes_okI (by omega) (by omega) (by decide) | exact of_decide_eq_true (by assumption) | decide | exact slOk_lit | exact recs_lit | exact ints_lit | exact slOk_f | exact slOk_nil | assumption | exact .inl rfl | exact .inr rfl | (rename_i hg; exact hg) | (rename_i hg; exact eqf hg) | (rename_i hg; exact eqt hg) | (refine andt ?_ ?_ <;> first | assumption | exact eqf (by assumption) | exact eqt (by assumption)) | (refine andt (andt ?_ ?_) ?_ <;> first | assumption | exact eqf (by assumption) | exact eqt (by assumption)) | (rename_i hg; change (_ : Bool) = true; rw [hg]; rfl) | (change (_ : Bool) = true; simp_all; done) | skip)
                    have h3 : (bif (bif ((0 : Int) != 0) then true else ((bif shp (puT n (i + 1)) then (0 : Int) else 1) != 0)) then true else ((nowR (puT n (i + 1))).no != IntKind.i64.wrap ((i : Int) + 1))) = true := h3
                    rw [pu_now2 (by omega), wr_succ (by omega), show shp (puT n (i + 1)) = true from shp_mk (show 1 ≤ i + 1 + 1 by omega) (show i + 1 + 1 ≤ 64 by omega) rfl] at h3
                    simp at h3
                )
              · first
                | (exfalso; (cases h3; done); done)
                | (
                    refine AW_skip ?_
                    refine AW_all good tabU3 (tabU3_ok) rfl rfl ?_ ?_
                    · repeat' (first | exact trivial | exact rfl | exact (fun _ _ => rfl) | refine And.intro ?_ ?_ | intro _)
                      all_goals (first | omega | (unfold maxLen; omega) | exact bytes_ok (by omega) (by decide) | exact bytes_okI (by omega) (by omega) (by decide) | exact of_decide_eq_true (by assumption) | decide | exact slOk_lit | exact recs_lit | exact ints_lit | exact slOk_f | exact slOk_nil | assumption | exact .inl rfl | exact .inr rfl | (rename_i hg; exact hg) | (rename_i hg; exact eqf hg) | (rename_i hg; exact eqt hg) | (refine andt ?_ ?_ <;> first | assumption | exact eqf (by assumption) | exact eqt (by assumption)) | (refine andt (andt ?_ ?_) ?_ <;> first | assumption | exact eqf (by assumption) | exact eqt (by assumption)) | (rename_i hg; change (_ : Bool) = true; rw [hg]; rfl) | (change (_ : Bool) = true; simp_all; done) | skip)
                    refine AW_all good tabU3 (tabU3_ok) rfl rfl ?_ ?_
                    · repeat' (first | exact trivial | exact rfl | exact (fun _ _ => rfl) | refine And.intro ?_ ?_ | intro _)
                      all_goals (first | omega | (unfold maxLen; omega) | exact bytes_ok (by omega) (by decide) | exact bytes_okI (by omega) (by omega) (by decide) | exact of_decide_eq_true (by assumption) | decide | exact slOk_lit | exact recs_lit | exact ints_lit | exact slOk_f | exact slOk_nil | assumption | exact .inl rfl | exact .inr rfl | (rename_i hg; exact hg) | (rename_i hg; exact eqf hg) | (rename_i hg; exact eqt hg) | (refine andt ?_ ?_ <;> first | assumption | exact eqf (by assumption) | exact eqt (by assumption)) | (refine andt (andt ?_ ?_) ?_ <;> first | assumption | exact eqf (by assumption) | exact eqt (by assumption)) | (rename_i hg; change (_ : Bool) = true; rw [hg]; rfl) | (change (_ : Bool) = true; simp_all; done) | skip)
                    refine loopX_next ⟨i + 1, hlt⟩ [0, 1] rfl rfl ⟨SLe.of_eq (congrArg (fun z => SV.cv (iint z)) (wr_succ (by omega))), trivial⟩ ⟨SLe.of_eq rfl, SLe.of_eq rfl, SLe.of_eq rfl, SLe.of_eq rfl, trivial⟩ ⟨⟨rfl, _, rfl, BLe.of_eq rfl⟩, trivial⟩ trivial ?_
                    show k - (i + 1) < k - i
                    omega
                )
          )
        · first
          | (exfalso; (cases h2; done); done)
          | (
              refine AW_exit ?_
              refine AW_seq ?_
              have he : i = k := by
                have := of_decide_eq_false h2
                omega
              subst he
              refine AW_all good tabU3 (tabU3_ok) rfl rfl ?_ ?_
              · repeat' (first | exact trivial | exact rfl | exact (fun _ _ => rfl) | refine And.intro ?_ ?_ | intro _)
                all_goals (first | omega | (unfold maxLen; omega) | exact bytes_ok (by omega) (by decide) | exact bytes_okI (by omega) (by omega) (by decide) | exact of_decide_eq_true (by assumption) | decide | exact slOk_lit | exact recs_lit | exact ints_lit | exact slOk_f | exact slOk_nil | assumption | exact .inl rfl | exact .inr rfl | (rename_i hg; exact hg) | (rename_i hg; exact eqf hg) | (rename_i hg; exact eqt hg) | (refine andt ?_ ?_ <;> first | assumption | exact eqf (by assumption) | exact eqt (by assumption)) | (refine andt (andt ?_ ?_) ?_ <;> first | assumption | exact eqf (by assumption) | exact eqt (by assumption)) | (rename_i hg; change (_ : Bool) = true; rw [hg]; rfl) | (change (_ : Bool) = true; simp_all; done) | skip)
              refine AW_seq ?_
              refine AW_all good tabU3 (tabU3_ok) rfl rfl ?_ ?_
              · repeat' (first | exact trivial | exact rfl | exact (fun _ _ => rfl) | refine And.intro ?_ ?_ | intro _)
                all_goals (first | omega | (unfold maxLen; omega) | exact bytes_ok (by omega) (by decide) | exact bytes_okI (by omega) (by omega) (by decide) | exact of_decide_eq_true (by assumption) | decide | exact slOk_lit | exact recs_lit | exact ints_lit | exact slOk_f | exact slOk_nil | assumption | exact .inl rfl | exact .inr rfl | (rename_i hg; exact hg) | (rename_i hg; exact eqf hg) | (rename_i hg; exact eqt hg) | (refine andt ?_ ?_ <;> first | assumption | exact eqf (by assumption) | exact eqt (by assumption)) | (refine andt (andt ?_ ?_) ?_ <;> first | assumption | exact eqf (by assumption) | exact eqt (by assumption)) | (rename_i hg; change (_ : Bool) = true; rw [hg]; rfl) | (change (_ : Bool) = true; simp_all; done) | skip)
              refine AW_seq ?_
              refine AW_slot 15 (y := .cv (iint (bif (other != (i : Int) + 1) then 6 else 0))) rfl (SLe.of_eq (congrArg (fun z => SV.cv (iint z)) (pu_pushE (n := n) (by omega) other))) ?_
              refine AW_slot 17 (y := .cv (iint (bif decide (0 ≤ other ∧ other ≤ i) then 0 else 3))) rfl (SLe.of_eq (congrArg (fun z => SV.cv (iint z)) (pu_find (n := n) (by omega) other))) ?_
              refine AW_all good tabU3 (tabU3_ok) rfl rfl ?_ ?_
              · repeat' (first | exact trivial | exact rfl | exact (fun _ _ => rfl) | refine And.intro ?_ ?_ | intro _)
                all_goals (first | omega | (unfold maxLen; omega) | exact bytes_ok (by omega) (by decide) | exact bytes_okI (by omega) (by omega) (by decide) | exact of_decide_eq_true (by assumption) | decide | exact slOk_lit | exact recs_lit | exact ints_lit | exact slOk_f | exact slOk_nil | assumption | exact .inl rfl | exact .inr rfl | (rename_i hg; exact hg) | (rename_i hg; exact eqf hg) | (rename_i hg; exact eqt hg) | (refine andt ?_ ?_ <;> first | assumption | exact eqf (by assumption) | exact eqt (by assumption)) | (refine andt (andt ?_ ?_) ?_ <;> first | assumption | exact eqf (by assumption) | exact eqt (by assumption)) | (rename_i hg; change (_ : Bool) = true; rw [hg]; rfl) | (change (_ : Bool) = true; simp_all; done) | skip)
              refine AW_ret (bodyQ_ret rfl ?_ (Ends.le rfl ?_ ?_))
              · repeat' (first | exact trivial | exact rfl | exact (fun _ _ => rfl) | refine And.intro ?_ ?_ | intro _)
                all_goals (first | omega | (unfold maxLen; omega) | exact bytes_ok (by omega) (by decide) | exact bytes_okI (by omega) (by omega) (by decide) | exact of_decide_eq_true (by assumption) | decide | exact slOk_lit | exact recs_lit | exact ints_lit | exact slOk_f | exact slOk_nil | assumption | exact .inl rfl | exact .inr rfl | (rename_i hg; exact hg) | (rename_i hg; exact eqf hg) | (rename_i hg; exact eqt hg) | (refine andt ?_ ?_ <;> first | assumption | exact eqf (by assumption) | exact eqt (by assumption)) | (refine andt (andt ?_ ?_) ?_ <;> first | assumption | exact eqf (by assumption) | exact eqt (by assumption)) | (rename_i hg; change (_ : Bool) = true; rw [hg]; rfl) | (change (_ : Bool) = true; simp_all; done) | skip)
              · repeat' (first | exact trivial | exact rfl | exact (fun _ _ => rfl) | refine And.intro ?_ ?_ | intro _)
                all_goals (first | omega | (unfold maxLen; omega) | exact bytes_ok (by omega) (by decide) | exact bytes_okI (by omega) (by omega) (by decide) | exact of_decide_eq_true (by assumption) | decide | exact slOk_lit | exact recs_lit | exact ints_lit | exact slOk_f | exact slOk_nil | assumption | exact .inl rfl | exact .inr rfl | (rename_i hg; exact hg) | (rename_i hg; exact eqf hg) | (rename_i hg; exact eqt hg) | (refine andt ?_ ?_ <;> first | assumption | exact eqf (by assumption) | exact eqt (by assumption)) | (refine andt (andt ?_ ?_) ?_ <;> first | assumption | exact eqf (by assumption) | exact eqt (by assumption)) | (rename_i hg; change (_ : Bool) = true; rw [hg]; rfl) | (change (_ : Bool) = true; simp_all; done) | skip)
              refine SLe.of_eq (ret_bool ?_)
              rw [wr_succ (by omega)]
              by_cases c1 : other = (i : Int) + 1
              · subst c1
                rw [decide_eq_false (show ¬ (0 ≤ (i : Int) + 1 ∧ (i : Int) + 1 ≤ i) by omega), decide_eq_false (show ¬ ((i : Int) + 1 ≤ i) by omega), decide_eq_true (show (i : Int) + 1 ≥ 0 by omega)]
                simp
              · have e1 : (other != (i : Int) + 1) = true := by simpa using c1
                have e2 : (other == (i : Int) + 1) = false := by simpa using c1
                rw [e1, e2]
                by_cases c2 : 0 ≤ other
                · rw [decide_eq_true (show other ≥ 0 from c2)]
                  by_cases c3 : other ≤ i
                  · rw [decide_eq_true c3, decide_eq_true (show 0 ≤ other ∧ other ≤ (i : Int) from ⟨c2, c3⟩)]
                    rfl
                  · rw [decide_eq_false c3, decide_eq_false (show ¬ (0 ≤ other ∧ other ≤ (i : Int)) from fun h => c3 h.2)]
                    rfl
                · rw [decide_eq_false (show ¬ other ≥ 0 from c2), decide_eq_false (show ¬ (0 ≤ other ∧ other ≤ (i : Int)) from fun h => c2 h.1)]
                  rfl
          )
    )

end Go.Proofs.Ytadgjhbhghhbgaa.Abs
