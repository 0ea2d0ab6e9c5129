/-
  THE LAW MachineLocks as a contract.
-/
import Derived.Test.YtndfcbcmeeemfaaM15
import Derived.Test.YtndfcbcmeeemfaaM14
namespace Go.Proofs.Ytndfcbcmeeemfaa.Abs
open Go
set_option maxRecDepth 10000

theorem app_lastI {f : Nat → Nat → IV} {xs : List IV} {e q i j : Nat} (hq : q < i + 1) (h : q = i → ILe (xs.getD j ivDef) (f i j)) : ILe (bif Nat.blt q i then f q j else xs.getD ((0 + (q - i)) * e + j) ivDef) (f q j) := by
  rcases Nat.lt_or_ge q i with h1 | h1
  · have hb : Nat.blt q i = true := Nat.ble_eq_true_of_le h1
    rw [hb]
    exact ILe.refl _
  · have hqi : q = i := by omega
    have hb : Nat.blt q i = false := by
      cases hb : Nat.blt q i with
      | false => rfl
      | true => have : q < i := Nat.le_of_ble_eq_true hb; omega
    rw [hb]
    subst hqi
    simp only [cond_false, Nat.sub_self, Nat.add_zero, Nat.zero_mul, Nat.zero_add]
    exact h rfl

def gotN (f : Int) (i : Nat) : Nat := bif decide (f ≥ 0) && decide (f < (i : Int)) then 1 else 0
theorem gotN_succ (f : Int) (i : Nat) : gotN f (i + 1) = gotN f i + bif f == (i : Int) then 1 else 0 := by
  unfold gotN
  by_cases h0 : f ≥ 0
  · rw [decide_eq_true h0, Bool.true_and, Bool.true_and]
    by_cases h1 : f < (i : Int)
    · rw [decide_eq_true h1, decide_eq_true (show f < ((i + 1 : Nat) : Int) by omega)]
      have : (f == (i : Int)) = false := by rw [beq_eq_false_iff_ne]; omega
      rw [this]
      rfl
    · rw [decide_eq_false h1]
      by_cases h2 : f = (i : Int)
      · rw [decide_eq_true (show f < ((i + 1 : Nat) : Int) by omega)]
        have : (f == (i : Int)) = true := by rw [beq_iff_eq]; exact h2
        rw [this]
        rfl
      · rw [decide_eq_false (show ¬ f < ((i + 1 : Nat) : Int) by omega)]
        have : (f == (i : Int)) = false := by rw [beq_eq_false_iff_ne]; exact h2
        rw [this]
        rfl
  · rw [decide_eq_false h0]
    have : (f == (i : Int)) = false := by rw [beq_eq_false_iff_ne]; omega
    rw [this]
    rfl

theorem locks13 (procs : Int) (np : Nat) (ex : Bool) (picks : Nat → Int) : PCall Try.prog 13 [iint procs, .one (iS np ex picks)] (.cv (ibool true)) := by
  refine PCall_of (ACall_body good Try.func13 rfl 126 rfl (by simp) ?_)
  refine AW_seq ?_
  refine AW_all good tabP tabP_ok rfl rfl ?_ ?_
  · repeat' (first | exact trivial | exact rfl | exact (fun _ _ => rfl) | refine And.intro ?_ ?_ | intro _)
    all_goals (first | omega | exact of_decide_eq_true (by assumption) | decide | exact hmay | exact hbytes | exact hmx | exact prog_lit _ _ | exact procs_lit _ _ | (rename_i hg; exact hg) | (rename_i hg; change (_ : Bool) = true; rw [hg]; rfl) | (change (_ : Bool) = true; simp_all; done) | trace_state)
  refine AW_seq ?_
  refine AW_all good tabP tabP_ok rfl rfl ?_ ?_
  · repeat' (first | exact trivial | exact rfl | exact (fun _ _ => rfl) | refine And.intro ?_ ?_ | intro _)
    all_goals (first | omega | exact of_decide_eq_true (by assumption) | decide | exact hmay | exact hbytes | exact hmx | exact prog_lit _ _ | exact procs_lit _ _ | (rename_i hg; exact hg) | (rename_i hg; change (_ : Bool) = true; rw [hg]; rfl) | (change (_ : Bool) = true; simp_all; done) | trace_state)
  refine AW_seq ?_
  obtain ⟨n, hn, hne⟩ : ∃ n : Nat, (1 ≤ n ∧ n ≤ 8) ∧ IntKind.i64.wrap (1 + Int.tmod (IntKind.i64.wrap (Int.tmod procs 8 + 8)) 8) = (n : Nat) := ⟨nW procs, by have := nW_le procs; omega, nW_eq procs⟩
  refine AW_slot 0 (y := .cv (iint n)) rfl (SLe.of_eq (congrArg (fun z => SV.cv (iint z)) hne)) ?_
  refine AW_all good tabP tabP_ok rfl rfl ?_ ?_
  · repeat' (first | exact trivial | exact rfl | exact (fun _ _ => rfl) | refine And.intro ?_ ?_ | intro _)
    all_goals (first | omega | exact of_decide_eq_true (by assumption) | decide | exact hmay | exact hbytes | exact hmx | exact prog_lit _ _ | exact procs_lit _ _ | (rename_i hg; exact hg) | (rename_i hg; change (_ : Bool) = true; rw [hg]; rfl) | (change (_ : Bool) = true; simp_all; done) | trace_state)
  refine AW_seq ?_
  refine AW_seq ?_
  refine AW_all good tabP tabP_ok rfl rfl ?_ ?_
  · repeat' (first | exact trivial | exact rfl | exact (fun _ _ => rfl) | refine And.intro ?_ ?_ | intro _)
    all_goals (first | omega | exact of_decide_eq_true (by assumption) | decide | exact hmay | exact hbytes | exact hmx | exact prog_lit _ _ | exact procs_lit _ _ | (rename_i hg; exact hg) | (rename_i hg; change (_ : Bool) = true; rw [hg]; rfl) | (change (_ : Bool) = true; simp_all; done) | trace_state)
  refine AW_block ?_
  refine AW_absent 54 8 (fun _ _ => ivDef) ?_
  refine AW_loopH 1 (fun j : { j : Nat // j ≤ n } => [(0, .cv (iint n)), (1, .cv (.one (iS np ex picks))), (5, .cv (.one (.osl 0 8 0 0 j.1 true))), (20, .cv (iint n)), (21, .cv (iint j.1))]) (fun j => [(0, .rows 54 8 j.1 fun _ c => prcI lockP c)]) (fun j => n - j.1) ⟨0, Nat.zero_le _⟩ [0] rfl rfl ?_ ?_ ?_
  · exact ⟨SLe.of_eq rfl, SLe.of_eq rfl, SLe.cv CLe.empty, SLe.of_eq rfl, SLe.of_eq rfl, trivial⟩
  · exact ⟨⟨rfl, _, rfl, BLe.rows rfl fun i j hi _ => absurd hi (Nat.not_lt_zero i)⟩, trivial⟩
  rintro ⟨i, hi⟩
  dsimp only at hi ⊢
  refine AW_seq ?_
  refine AW_all good tabP tabP_ok rfl rfl ?_ ?_
  · repeat' (first | exact trivial | exact rfl | exact (fun _ _ => rfl) | refine And.intro ?_ ?_ | intro _)
    all_goals (first | omega | exact of_decide_eq_true (by assumption) | decide | exact hmay | exact hbytes | exact hmx | exact prog_lit _ _ | exact procs_lit _ _ | (rename_i hg; exact hg) | (rename_i hg; change (_ : Bool) = true; rw [hg]; rfl) | (change (_ : Bool) = true; simp_all; done) | trace_state)
  refine AW_seq ?_
  refine AW_cond rfl (fun h1 => ?_) (fun h1 => ?_)
  · first
    | (exfalso; simp_all; done)
    | (
        refine AW_skip ?_
        refine AW_seq ?_
        refine AW_block ?_
        have hlt : i < n := by simpa using h1
        have hbytes : (i + 1) * lay54.bytes ≤ 140737488355328 := by
          show (i + 1) * 80 ≤ _
          omega
        have hmx : i + 1 ≤ maxLen := by simp only [maxLen]; omega
        refine AW_eff good tabP tabP_ok et0 (et0_ok _) [4] rfl rfl ?_ ?_
        · repeat' (first | exact trivial | exact rfl | exact (fun _ _ => rfl) | refine And.intro ?_ ?_ | intro _)
          all_goals (first | omega | exact of_decide_eq_true (by assumption) | decide | exact hmay | exact hbytes | exact hmx | exact prog_lit _ _ | exact procs_lit _ _ | (rename_i hg; exact hg) | (rename_i hg; change (_ : Bool) = true; rw [hg]; rfl) | (change (_ : Bool) = true; simp_all; done) | trace_state)
        refine AW_all good tabP tabP_ok rfl rfl ?_ ?_
        · repeat' (first | exact trivial | exact rfl | exact (fun _ _ => rfl) | refine And.intro ?_ ?_ | intro _)
          all_goals (first | omega | exact of_decide_eq_true (by assumption) | decide | exact hmay | exact hbytes | exact hmx | exact prog_lit _ _ | exact procs_lit _ _ | (rename_i hg; exact hg) | (rename_i hg; change (_ : Bool) = true; rw [hg]; rfl) | (change (_ : Bool) = true; simp_all; done) | trace_state)
        have hlt : i < n := by simpa using h1
        refine loopH_next ⟨i + 1, hlt⟩ [3] rfl rfl ⟨SLe.of_eq rfl, SLe.of_eq rfl, SLe.of_eq rfl, SLe.of_eq rfl, SLe.of_eq (congrArg (fun z => SV.cv (iint z)) (next_int i n hlt (by simp only [maxLen]; omega))), trivial⟩ ⟨⟨rfl, _, rfl, BLe.rows rfl fun q c hq hc => app_lastI (f := fun _ c => prcI lockP c) hq fun hqi => ?_⟩, trivial⟩ ?_
        · match c, hc with
          | 0, _ =>
            refine ILe.sl rfl (by simp) (.inr ⟨rfl, fun q c hq hc => ILe.of_eq ?_⟩)
            rw [Nat.zero_add]
            match q, hq, c, hc with
            | 0, _, 0, _ => rfl
            | 0, _, 1, _ => rfl
            | 0, _, 2, _ => rfl
            | 0, _, 3, _ => rfl
            | 0, _, 4, _ => rfl
            | 1, _, 0, _ => rfl
            | 1, _, 1, _ => rfl
            | 1, _, 2, _ => rfl
            | 1, _, 3, _ => rfl
            | 1, _, 4, _ => rfl
          | 1, _ => exact ILe.refl _
          | 2, _ => exact ILe.refl _
          | 3, _ => exact ILe.refl _
          | 4, _ => exact ILe.refl _
          | 5, _ => exact ILe.refl _
          | 6, _ => exact ILe.refl _
          | 7, _ => exact ILe.refl _
        show n - (i + 1) < n - i
        omega
    )
  · first
    | (exfalso; simp_all; done)
    | (
        refine AW_exit ?_
        refine AW_seq ?_
        refine AW_all good tabP tabP_ok rfl rfl ?_ ?_
        · repeat' (first | exact trivial | exact rfl | exact (fun _ _ => rfl) | refine And.intro ?_ ?_ | intro _)
          all_goals (first | omega | exact of_decide_eq_true (by assumption) | decide | exact hmay | exact hbytes | exact hmx | exact prog_lit _ _ | exact procs_lit _ _ | (rename_i hg; exact hg) | (rename_i hg; change (_ : Bool) = true; rw [hg]; rfl) | (change (_ : Bool) = true; simp_all; done) | trace_state)
        refine AW_seq ?_
        obtain ⟨NP, hNP⟩ : ∃ NP, NP = min np 100 := ⟨_, rfl⟩
        have he : i = n := by
          have : ¬ i < n := by simpa using h1
          omega
        subst he
        refine AW_slot 1 (y := .cv (.one (iS NP false picks))) rfl (SLe.cv (CLe.imm (ILe.sl ?_ (by simp) (.inr ⟨rfl, fun i j hi hj => ILe.of_eq ?_⟩)))) ?_
        · rw [hNP]
          split <;> omega
        · show IV.val (.int .i64 (picks (0 + i))) = IV.val (.int .i64 (picks i))
          rw [Nat.zero_add]
        refine AW_give 0 5 rfl (by omega) ?_
        refine AW_slot 5 (y := .cv (.one (prcS i false fun _ => lockP))) rfl (SLe.cv (CLe.imm (ILe.sl rfl (by simp) (.inr ⟨rfl, fun _ _ _ _ => ILe.refl _⟩)))) ?_
        have hmay : mayL i (fun _ => lockP) = true := mayL_mk (by omega) fun _ _ => may_lock
        obtain ⟨n, hni⟩ : ∃ n, n = i := ⟨_, rfl⟩
        subst hni
        obtain ⟨M, hM⟩ : ∃ M, runM n ⟨fun _ => 0, fun _ => lockP⟩ picks NP = M := ⟨_, rfl⟩
        have hinv : LockInv (fstP n picks NP) M n := by rw [← hM]; exact lock_run n picks NP
        have hfr := fstP_range n picks NP
        refine AW_eff good tabP tabP_ok et0 (et0_ok _) [0] rfl rfl ?_ ?_
        · repeat' (first | exact trivial | exact rfl | exact (fun _ _ => rfl) | refine And.intro ?_ ?_ | intro _)
          all_goals (first | omega | exact of_decide_eq_true (by assumption) | decide | exact hmay | exact hbytes | exact hmx | exact prog_lit _ _ | exact procs_lit _ _ | (rename_i hg; exact hg) | (rename_i hg; change (_ : Bool) = true; rw [hg]; rfl) | (change (_ : Bool) = true; simp_all; done) | trace_state)
        refine AW_seq ?_
        refine AW_seq ?_
        refine AW_slot 6 (y := .cv (.one (uS 64 false M.m))) rfl (SLe.of_eq (congrArg (fun s : MSt => SV.cv (CV.one (uS 64 false s.m))) hM)) ?_
        refine AW_slot 7 (y := .cv (.one (prcS n false M.l))) rfl (SLe.of_eq (congrArg (fun s : MSt => SV.cv (CV.one (prcS n false s.l))) hM)) ?_
        refine AW_all good tabP tabP_ok rfl rfl ?_ ?_
        · repeat' (first | exact trivial | exact rfl | exact (fun _ _ => rfl) | refine And.intro ?_ ?_ | intro _)
          all_goals (first | omega | exact of_decide_eq_true (by assumption) | decide | exact hmay | exact hbytes | exact hmx | exact prog_lit _ _ | exact procs_lit _ _ | (rename_i hg; exact hg) | (rename_i hg; change (_ : Bool) = true; rw [hg]; rfl) | (change (_ : Bool) = true; simp_all; done) | trace_state)
        refine AW_cond rfl (fun h2 => ?_) (fun h2 => ?_)
        · first
          | (exfalso; simp_all; done)
          | (
              refine AW_seq ?_
              refine AW_all good tabP tabP_ok rfl rfl ?_ ?_
              · repeat' (first | exact trivial | exact rfl | exact (fun _ _ => rfl) | refine And.intro ?_ ?_ | intro _)
                all_goals (first | omega | exact of_decide_eq_true (by assumption) | decide | exact hmay | exact hbytes | exact hmx | exact prog_lit _ _ | exact procs_lit _ _ | (rename_i hg; exact hg) | (rename_i hg; change (_ : Bool) = true; rw [hg]; rfl) | (change (_ : Bool) = true; simp_all; done) | trace_state)
              refine AW_ret (bodyQ_ret rfl ?_ (Ends.intro rfl ?_ ?_))
              · repeat' (first | exact trivial | exact rfl | exact (fun _ _ => rfl) | refine And.intro ?_ ?_ | intro _)
                all_goals (first | omega | exact of_decide_eq_true (by assumption) | decide | exact hmay | exact hbytes | exact hmx | exact prog_lit _ _ | exact procs_lit _ _ | (rename_i hg; exact hg) | (rename_i hg; change (_ : Bool) = true; rw [hg]; rfl) | (change (_ : Bool) = true; simp_all; done) | trace_state)
              · repeat' (first | exact trivial | exact rfl | exact (fun _ _ => rfl) | refine And.intro ?_ ?_ | intro _)
                all_goals (first | omega | exact of_decide_eq_true (by assumption) | decide | exact hmay | exact hbytes | exact hmx | exact prog_lit _ _ | exact procs_lit _ _ | (rename_i hg; exact hg) | (rename_i hg; change (_ : Bool) = true; rw [hg]; rfl) | (change (_ : Bool) = true; simp_all; done) | trace_state)
              exact absurd h2 (by simp)
          )
        · first
          | (exfalso; simp_all; done)
          | (
              refine AW_skip ?_
              refine AW_seq ?_
              refine AW_all good tabP tabP_ok rfl rfl ?_ ?_
              · repeat' (first | exact trivial | exact rfl | exact (fun _ _ => rfl) | refine And.intro ?_ ?_ | intro _)
                all_goals (first | omega | exact of_decide_eq_true (by assumption) | decide | exact hmay | exact hbytes | exact hmx | exact prog_lit _ _ | exact procs_lit _ _ | (rename_i hg; exact hg) | (rename_i hg; change (_ : Bool) = true; rw [hg]; rfl) | (change (_ : Bool) = true; simp_all; done) | trace_state)
              refine AW_seq ?_
              refine AW_seq ?_
              refine AW_all good tabP tabP_ok rfl rfl ?_ ?_
              · repeat' (first | exact trivial | exact rfl | exact (fun _ _ => rfl) | refine And.intro ?_ ?_ | intro _)
                all_goals (first | omega | exact of_decide_eq_true (by assumption) | decide | exact hmay | exact hbytes | exact hmx | exact prog_lit _ _ | exact procs_lit _ _ | (rename_i hg; exact hg) | (rename_i hg; change (_ : Bool) = true; rw [hg]; rfl) | (change (_ : Bool) = true; simp_all; done) | trace_state)
              refine AW_block ?_
              refine AW_loopH 0 (fun j : { j : Nat // j ≤ NP } => [(9, .cv (iint (fstP n picks j.1))), (10, .cv (iint 0)), (62, .cv (.one (iS NP false picks))), (63, .cv (iint NP)), (64, .cv (iint j.1)), (0, .cv (iint n)), (6, .cv (.one (uS 64 false M.m))), (7, .cv (.one (prcS n false M.l)))]) (fun _ => []) (fun j => NP - j.1) ⟨0, Nat.zero_le _⟩ [] rfl rfl ?_ trivial ?_
              · exact ⟨SLe.of_eq rfl, SLe.of_eq rfl, SLe.of_eq rfl, SLe.of_eq rfl, SLe.of_eq rfl, SLe.of_eq rfl, SLe.of_eq rfl, SLe.of_eq rfl, trivial⟩
              rintro ⟨j, hj⟩
              dsimp only at hj ⊢
              refine AW_seq ?_
              refine AW_all good tabP tabP_ok rfl rfl ?_ ?_
              · repeat' (first | exact trivial | exact rfl | exact (fun _ _ => rfl) | refine And.intro ?_ ?_ | intro _)
                all_goals (first | omega | exact of_decide_eq_true (by assumption) | decide | exact hmay | exact hbytes | exact hmx | exact prog_lit _ _ | exact procs_lit _ _ | (rename_i hg; exact hg) | (rename_i hg; change (_ : Bool) = true; rw [hg]; rfl) | (change (_ : Bool) = true; simp_all; done) | trace_state)
              refine AW_seq ?_
              refine AW_cond rfl (fun h3 => ?_) (fun h3 => ?_)
              · first
                | (exfalso; simp_all; done)
                | (
                    refine AW_skip ?_
                    refine AW_seq ?_
                    refine AW_block ?_
                    refine AW_seq ?_
                    have hltj : j < NP := by simpa using h3
                    refine AW_all good tabP tabP_ok rfl rfl ?_ ?_
                    · repeat' (first | exact trivial | exact rfl | exact (fun _ _ => rfl) | refine And.intro ?_ ?_ | intro _)
                      all_goals (first | omega | exact of_decide_eq_true (by assumption) | decide | exact hmay | exact hbytes | exact hmx | exact prog_lit _ _ | exact procs_lit _ _ | (rename_i hg; exact hg) | (rename_i hg; change (_ : Bool) = true; rw [hg]; rfl) | (change (_ : Bool) = true; simp_all; done) | trace_state)
                    refine AW_seq ?_
                    refine AW_all good tabP tabP_ok rfl rfl ?_ ?_
                    · repeat' (first | exact trivial | exact rfl | exact (fun _ _ => rfl) | refine And.intro ?_ ?_ | intro _)
                      all_goals (first | omega | exact of_decide_eq_true (by assumption) | decide | exact hmay | exact hbytes | exact hmx | exact prog_lit _ _ | exact procs_lit _ _ | (rename_i hg; exact hg) | (rename_i hg; change (_ : Bool) = true; rw [hg]; rfl) | (change (_ : Bool) = true; simp_all; done) | trace_state)
                    refine AW_cond rfl (fun h4 => ?_) (fun h4 => ?_)
                    · first
                      | (exfalso; simp_all; done)
                      | (
                          refine AW_all good tabP tabP_ok rfl rfl ?_ ?_
                          · repeat' (first | exact trivial | exact rfl | exact (fun _ _ => rfl) | refine And.intro ?_ ?_ | intro _)
                            all_goals (first | omega | exact of_decide_eq_true (by assumption) | decide | exact hmay | exact hbytes | exact hmx | exact prog_lit _ _ | exact procs_lit _ _ | (rename_i hg; exact hg) | (rename_i hg; change (_ : Bool) = true; rw [hg]; rfl) | (change (_ : Bool) = true; simp_all; done) | trace_state)
                          refine AW_all good tabP tabP_ok rfl rfl ?_ ?_
                          · repeat' (first | exact trivial | exact rfl | exact (fun _ _ => rfl) | refine And.intro ?_ ?_ | intro _)
                            all_goals (first | omega | exact of_decide_eq_true (by assumption) | decide | exact hmay | exact hbytes | exact hmx | exact prog_lit _ _ | exact procs_lit _ _ | (rename_i hg; exact hg) | (rename_i hg; change (_ : Bool) = true; rw [hg]; rfl) | (change (_ : Bool) = true; simp_all; done) | trace_state)
                          have hltj : j < NP := by simpa using h3
                          have e : fstP n picks (j + 1) = picks j := by
                            have h : (bif (bif decide (fstP n picks j < 0) then decide (picks j ≥ 0) else false) then decide (picks j < (n : Int)) else false) = true := h4
                            show (bif decide (fstP n picks j < 0) && (decide (picks j ≥ 0) && decide (picks j < n)) then picks j else fstP n picks j) = _
                            have h' : (decide (fstP n picks j < 0) && (decide (picks j ≥ 0) && decide (picks j < (n : Int)))) = true := by
                              rw [← h]
                              cases decide (fstP n picks j < 0) <;> cases decide (picks j ≥ 0) <;> rfl
                            rw [h']
                            rfl
                          refine loopH_next ⟨j + 1, hltj⟩ [] rfl rfl ⟨SLe.of_eq (congrArg (fun z => SV.cv (iint z)) e.symm), SLe.of_eq rfl, SLe.of_eq rfl, SLe.of_eq rfl, SLe.of_eq (congrArg (fun z => SV.cv (iint z)) (next_int j NP hltj (by simp only [maxLen]; omega))), SLe.of_eq rfl, SLe.of_eq rfl, SLe.of_eq rfl, trivial⟩ trivial ?_
                          show NP - (j + 1) < NP - j
                          omega
                      )
                    · first
                      | (exfalso; simp_all; done)
                      | (
                          refine AW_skip ?_
                          refine AW_all good tabP tabP_ok rfl rfl ?_ ?_
                          · repeat' (first | exact trivial | exact rfl | exact (fun _ _ => rfl) | refine And.intro ?_ ?_ | intro _)
                            all_goals (first | omega | exact of_decide_eq_true (by assumption) | decide | exact hmay | exact hbytes | exact hmx | exact prog_lit _ _ | exact procs_lit _ _ | (rename_i hg; exact hg) | (rename_i hg; change (_ : Bool) = true; rw [hg]; rfl) | (change (_ : Bool) = true; simp_all; done) | trace_state)
                          have hltj : j < NP := by simpa using h3
                          have e : fstP n picks (j + 1) = fstP n picks j := by
                            have h : (bif (bif decide (fstP n picks j < 0) then decide (picks j ≥ 0) else false) then decide (picks j < (n : Int)) else false) = false := h4
                            show (bif decide (fstP n picks j < 0) && (decide (picks j ≥ 0) && decide (picks j < n)) then picks j else fstP n picks j) = _
                            have h' : (decide (fstP n picks j < 0) && (decide (picks j ≥ 0) && decide (picks j < (n : Int)))) = false := by
                              rw [← h]
                              cases decide (fstP n picks j < 0) <;> cases decide (picks j ≥ 0) <;> rfl
                            rw [h']
                            rfl
                          refine loopH_next ⟨j + 1, hltj⟩ [] rfl rfl ⟨SLe.of_eq (congrArg (fun z => SV.cv (iint z)) e.symm), SLe.of_eq rfl, SLe.of_eq rfl, SLe.of_eq rfl, SLe.of_eq (congrArg (fun z => SV.cv (iint z)) (next_int j NP hltj (by simp only [maxLen]; omega))), SLe.of_eq rfl, SLe.of_eq rfl, SLe.of_eq rfl, trivial⟩ trivial ?_
                          show NP - (j + 1) < NP - j
                          omega
                      )
                )
              · first
                | (exfalso; simp_all; done)
                | (
                    refine AW_exit ?_
                    refine AW_seq ?_
                    refine AW_seq ?_
                    refine AW_all good tabP tabP_ok rfl rfl ?_ ?_
                    · repeat' (first | exact trivial | exact rfl | exact (fun _ _ => rfl) | refine And.intro ?_ ?_ | intro _)
                      all_goals (first | omega | exact of_decide_eq_true (by assumption) | decide | exact hmay | exact hbytes | exact hmx | exact prog_lit _ _ | exact procs_lit _ _ | (rename_i hg; exact hg) | (rename_i hg; change (_ : Bool) = true; rw [hg]; rfl) | (change (_ : Bool) = true; simp_all; done) | trace_state)
                    refine AW_block ?_
                    have hj2 : j = NP := by
                      have : ¬ j < NP := by simpa using h3
                      omega
                    subst hj2
                    refine AW_loopH 0 (fun i : { i : Nat // i ≤ n } => [(9, .cv (iint (fstP n picks j))), (10, .cv (iint (gotN (fstP n picks j) i.1 : Nat))), (81, .cv (.one (prcS n false M.l))), (82, .cv (iint n)), (83, .cv (iint i.1)), (0, .cv (iint n)), (6, .cv (.one (uS 64 false M.m))), (7, .cv (.one (prcS n false M.l)))]) (fun _ => []) (fun i => n - i.1) ⟨0, Nat.zero_le _⟩ [] rfl rfl ?_ trivial ?_
                    · refine ⟨SLe.of_eq rfl, SLe.of_eq (congrArg (fun z => SV.cv (iint z)) ?_), SLe.of_eq rfl, SLe.of_eq rfl, SLe.of_eq rfl, SLe.of_eq rfl, SLe.of_eq rfl, SLe.of_eq rfl, trivial⟩
                      show (0 : Int) = ((gotN (fstP n picks j) 0 : Nat) : Int)
                      unfold gotN
                      cases hq : decide (fstP n picks j ≥ 0) && decide (fstP n picks j < ((0 : Nat) : Int)) with
                      | false => rfl
                      | true =>
                        simp only [Bool.and_eq_true, decide_eq_true_eq] at hq
                        omega
                    rintro ⟨i, hi⟩
                    dsimp only at hi ⊢
                    refine AW_seq ?_
                    refine AW_all good tabP tabP_ok rfl rfl ?_ ?_
                    · repeat' (first | exact trivial | exact rfl | exact (fun _ _ => rfl) | refine And.intro ?_ ?_ | intro _)
                      all_goals (first | omega | exact of_decide_eq_true (by assumption) | decide | exact hmay | exact hbytes | exact hmx | exact prog_lit _ _ | exact procs_lit _ _ | (rename_i hg; exact hg) | (rename_i hg; change (_ : Bool) = true; rw [hg]; rfl) | (change (_ : Bool) = true; simp_all; done) | trace_state)
                    refine AW_seq ?_
                    refine AW_cond rfl (fun h5 => ?_) (fun h5 => ?_)
                    · first
                      | (exfalso; simp_all; done)
                      | (
                          refine AW_skip ?_
                          refine AW_seq ?_
                          refine AW_block ?_
                          refine AW_seq ?_
                          have hlti : i < n := by simpa using h5
                          refine AW_all good tabP tabP_ok rfl rfl ?_ ?_
                          · repeat' (first | exact trivial | exact rfl | exact (fun _ _ => rfl) | refine And.intro ?_ ?_ | intro _)
                            all_goals (first | omega | exact of_decide_eq_true (by assumption) | decide | exact hmay | exact hbytes | exact hmx | exact prog_lit _ _ | exact procs_lit _ _ | (rename_i hg; exact hg) | (rename_i hg; change (_ : Bool) = true; rw [hg]; rfl) | (change (_ : Bool) = true; simp_all; done) | trace_state)
                          refine AW_seq ?_
                          refine AW_all good tabP tabP_ok rfl rfl ?_ ?_
                          · repeat' (first | exact trivial | exact rfl | exact (fun _ _ => rfl) | refine And.intro ?_ ?_ | intro _)
                            all_goals (first | omega | exact of_decide_eq_true (by assumption) | decide | exact hmay | exact hbytes | exact hmx | exact prog_lit _ _ | exact procs_lit _ _ | (rename_i hg; exact hg) | (rename_i hg; change (_ : Bool) = true; rw [hg]; rfl) | (change (_ : Bool) = true; simp_all; done) | trace_state)
                          refine AW_cond rfl (fun h6 => ?_) (fun h6 => ?_)
                          · first
                            | (exfalso; simp_all; done)
                            | (
                                refine AW_all good tabP tabP_ok rfl rfl ?_ ?_
                                · repeat' (first | exact trivial | exact rfl | exact (fun _ _ => rfl) | refine And.intro ?_ ?_ | intro _)
                                  all_goals (first | omega | exact of_decide_eq_true (by assumption) | decide | exact hmay | exact hbytes | exact hmx | exact prog_lit _ _ | exact procs_lit _ _ | (rename_i hg; exact hg) | (rename_i hg; change (_ : Bool) = true; rw [hg]; rfl) | (change (_ : Bool) = true; simp_all; done) | trace_state)
                                refine AW_all good tabP tabP_ok rfl rfl ?_ ?_
                                · repeat' (first | exact trivial | exact rfl | exact (fun _ _ => rfl) | refine And.intro ?_ ?_ | intro _)
                                  all_goals (first | omega | exact of_decide_eq_true (by assumption) | decide | exact hmay | exact hbytes | exact hmx | exact prog_lit _ _ | exact procs_lit _ _ | (rename_i hg; exact hg) | (rename_i hg; change (_ : Bool) = true; rw [hg]; rfl) | (change (_ : Bool) = true; simp_all; done) | trace_state)
                                have hlti : i < n := by simpa using h5
                                have hh : (fstP n picks j == ((i : Nat) : Int)) = true := (lock_has hinv hlti).symm.trans h6
                                refine loopH_next ⟨i + 1, hlti⟩ [] rfl rfl ⟨SLe.of_eq rfl, SLe.of_eq (congrArg (fun z => SV.cv (iint z)) ?_), SLe.of_eq rfl, SLe.of_eq rfl, SLe.of_eq (congrArg (fun z => SV.cv (iint z)) (next_int i n hlti (by simp only [maxLen]; omega))), SLe.of_eq rfl, SLe.of_eq rfl, SLe.of_eq rfl, trivial⟩ trivial ?_
                                · show _ = ((gotN (fstP n picks j) (i + 1) : Nat) : Int)
                                  rw [gotN_succ, hh]
                                  have : gotN (fstP n picks j) i ≤ 1 := by unfold gotN; cases decide (fstP n picks j ≥ 0) && decide (fstP n picks j < ((i : Nat) : Int)) <;> simp
                                  simp only [IntKind.wrap_i64, cond_true]
                                  omega
                                show n - (i + 1) < n - i
                                omega
                            )
                          · first
                            | (exfalso; simp_all; done)
                            | (
                                refine AW_skip ?_
                                refine AW_all good tabP tabP_ok rfl rfl ?_ ?_
                                · repeat' (first | exact trivial | exact rfl | exact (fun _ _ => rfl) | refine And.intro ?_ ?_ | intro _)
                                  all_goals (first | omega | exact of_decide_eq_true (by assumption) | decide | exact hmay | exact hbytes | exact hmx | exact prog_lit _ _ | exact procs_lit _ _ | (rename_i hg; exact hg) | (rename_i hg; change (_ : Bool) = true; rw [hg]; rfl) | (change (_ : Bool) = true; simp_all; done) | trace_state)
                                have hlti : i < n := by simpa using h5
                                have hh : (fstP n picks j == ((i : Nat) : Int)) = false := (lock_has hinv hlti).symm.trans h6
                                refine loopH_next ⟨i + 1, hlti⟩ [] rfl rfl ⟨SLe.of_eq rfl, SLe.of_eq (congrArg (fun z => SV.cv (iint z)) ?_), SLe.of_eq rfl, SLe.of_eq rfl, SLe.of_eq (congrArg (fun z => SV.cv (iint z)) (next_int i n hlti (by simp only [maxLen]; omega))), SLe.of_eq rfl, SLe.of_eq rfl, SLe.of_eq rfl, trivial⟩ trivial ?_
                                · show _ = ((gotN (fstP n picks j) (i + 1) : Nat) : Int)
                                  rw [gotN_succ, hh]
                                  rfl
                                show n - (i + 1) < n - i
                                omega
                            )
                      )
                    · first
                      | (exfalso; simp_all; done)
                      | (
                          refine AW_exit ?_
                          refine AW_seq ?_
                          refine AW_seq ?_
                          refine AW_all good tabP tabP_ok rfl rfl ?_ ?_
                          · repeat' (first | exact trivial | exact rfl | exact (fun _ _ => rfl) | refine And.intro ?_ ?_ | intro _)
                            all_goals (first | omega | exact of_decide_eq_true (by assumption) | decide | exact hmay | exact hbytes | exact hmx | exact prog_lit _ _ | exact procs_lit _ _ | (rename_i hg; exact hg) | (rename_i hg; change (_ : Bool) = true; rw [hg]; rfl) | (change (_ : Bool) = true; simp_all; done) | trace_state)
                          refine AW_cond rfl (fun h7 => ?_) (fun h7 => ?_)
                          · first
                            | (exfalso; simp_all; done)
                            | (
                                refine AW_seq ?_
                                refine AW_all good tabP tabP_ok rfl rfl ?_ ?_
                                · repeat' (first | exact trivial | exact rfl | exact (fun _ _ => rfl) | refine And.intro ?_ ?_ | intro _)
                                  all_goals (first | omega | exact of_decide_eq_true (by assumption) | decide | exact hmay | exact hbytes | exact hmx | exact prog_lit _ _ | exact procs_lit _ _ | (rename_i hg; exact hg) | (rename_i hg; change (_ : Bool) = true; rw [hg]; rfl) | (change (_ : Bool) = true; simp_all; done) | trace_state)
                                refine AW_ret (bodyQ_ret rfl ?_ (Ends.intro rfl ?_ ?_))
                                · repeat' (first | exact trivial | exact rfl | exact (fun _ _ => rfl) | refine And.intro ?_ ?_ | intro _)
                                  all_goals (first | omega | exact of_decide_eq_true (by assumption) | decide | exact hmay | exact hbytes | exact hmx | exact prog_lit _ _ | exact procs_lit _ _ | (rename_i hg; exact hg) | (rename_i hg; change (_ : Bool) = true; rw [hg]; rfl) | (change (_ : Bool) = true; simp_all; done) | trace_state)
                                · repeat' (first | exact trivial | exact rfl | exact (fun _ _ => rfl) | refine And.intro ?_ ?_ | intro _)
                                  all_goals (first | omega | exact of_decide_eq_true (by assumption) | decide | exact hmay | exact hbytes | exact hmx | exact prog_lit _ _ | exact procs_lit _ _ | (rename_i hg; exact hg) | (rename_i hg; change (_ : Bool) = true; rw [hg]; rfl) | (change (_ : Bool) = true; simp_all; done) | trace_state)
                                have hf : fstP n picks j < 0 := by simpa using h7
                                have h5m : M.m 5 = 0 := by
                                  have := hinv.2
                                  rw [decide_eq_true hf] at this
                                  exact this
                                have hg : gotN (fstP n picks j) i = 0 := by
                                  unfold gotN
                                  rw [decide_eq_false (show ¬ fstP n picks j ≥ 0 by omega)]
                                  rfl
                                refine ret_bool ?_
                                show (bif (((gotN (fstP n picks j) i : Nat) : Int) == 0) then (M.m 5 == 0) else false) = true
                                rw [hg, h5m]
                                rfl
                            )
                          · first
                            | (exfalso; simp_all; done)
                            | (
                                refine AW_skip ?_
                                refine AW_seq ?_
                                have hf0 : ¬ fstP n picks j < 0 := by simpa using h7
                                refine AW_all good tabP tabP_ok rfl rfl ?_ ?_
                                · repeat' (first | exact trivial | exact rfl | exact (fun _ _ => rfl) | refine And.intro ?_ ?_ | intro _)
                                  all_goals (first | omega | exact of_decide_eq_true (by assumption) | decide | exact hmay | exact hbytes | exact hmx | exact prog_lit _ _ | exact procs_lit _ _ | (rename_i hg; exact hg) | (rename_i hg; change (_ : Bool) = true; rw [hg]; rfl) | (change (_ : Bool) = true; simp_all; done) | trace_state)
                                refine AW_ret (bodyQ_ret rfl ?_ (Ends.intro rfl ?_ ?_))
                                · repeat' (first | exact trivial | exact rfl | exact (fun _ _ => rfl) | refine And.intro ?_ ?_ | intro _)
                                  all_goals (first | omega | exact of_decide_eq_true (by assumption) | decide | exact hmay | exact hbytes | exact hmx | exact prog_lit _ _ | exact procs_lit _ _ | (rename_i hg; exact hg) | (rename_i hg; change (_ : Bool) = true; rw [hg]; rfl) | (change (_ : Bool) = true; simp_all; done) | trace_state)
                                · repeat' (first | exact trivial | exact rfl | exact (fun _ _ => rfl) | refine And.intro ?_ ?_ | intro _)
                                  all_goals (first | omega | exact of_decide_eq_true (by assumption) | decide | exact hmay | exact hbytes | exact hmx | exact prog_lit _ _ | exact procs_lit _ _ | (rename_i hg; exact hg) | (rename_i hg; change (_ : Bool) = true; rw [hg]; rfl) | (change (_ : Bool) = true; simp_all; done) | trace_state)
                                have he : i = n := by
                                  have : ¬ i < n := by simpa using h5
                                  omega
                                subst he
                                have hF : 0 ≤ fstP i picks j ∧ fstP i picks j < i := by omega
                                have h5m : M.m 5 = 1 := by
                                  have := hinv.2
                                  rw [decide_eq_false hf0] at this
                                  exact this
                                have hg : gotN (fstP i picks j) i = 1 := by
                                  unfold gotN
                                  rw [decide_eq_true (show fstP i picks j ≥ 0 from hF.1), decide_eq_true hF.2]
                                  rfl
                                have hh := lock_has hinv (i := (fstP i picks j).toNat) (by omega)
                                have hfe : (fstP i picks j == (((fstP i picks j).toNat : Nat) : Int)) = true := by rw [beq_iff_eq]; omega
                                rw [hfe] at hh
                                have hr : ((M.l (fstP i picks j).toNat).r0 == 1) = true := by
                                  cases hq : decide ((M.l (fstP i picks j).toNat).took > 0) with
                                  | false => rw [hq] at hh; cases hh
                                  | true => rw [hq] at hh; exact hh
                                refine ret_bool ?_
                                show (bif (bif (((gotN (fstP i picks j) i : Nat) : Int) == 1) then ((M.l (fstP i picks j).toNat).r0 == 1) else false) then (M.m 5 == 1) else false) = true
                                rw [hg, hr, h5m]
                                rfl
                            )
                      )
                )
          )
    )
end Go.Proofs.Ytndfcbcmeeemfaa.Abs
