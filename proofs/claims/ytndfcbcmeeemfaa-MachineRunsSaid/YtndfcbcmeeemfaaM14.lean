/-
  THE LAW MachineParts as a contract.
-/
import Derived.Test.YtndfcbcmeeemfaaM13
namespace Go.Proofs.Ytndfcbcmeeemfaa.Abs
open Go
set_option maxRecDepth 10000

/-- Picks in two parts. -/
theorem run_parts (n : Nat) (s : MSt) (picks : Nat → Int) (a : Nat) : ∀ b, runM n (runM n s picks a) (fun q => picks (a + q)) b = runM n s picks (a + b)
  | 0 => rfl
  | b + 1 => by
    show pickM n (runM n (runM n s picks a) (fun q => picks (a + q)) b) (picks (a + b)) = pickM n (runM n s picks (a + b)) (picks (a + b))
    rw [run_parts n s picks a b]
theorem pick_n (n : Nat) (s : MSt) (k : Int) (i : Nat) : ((pickM n s k).l i).n = (s.l i).n := by
  unfold pickM
  cases decide (k ≥ 0) && decide (k < n) with
  | false => rfl
  | true =>
    show (bif Nat.beq i k.toNat then stepP s.m (s.l k.toNat) else s.l i).n = _
    cases hb : Nat.beq i k.toNat with
    | false => rfl
    | true =>
      rw [Nat.eq_of_beq_eq_true hb]
      exact step_n _ _
theorem run_n (n : Nat) (s : MSt) (picks : Nat → Int) (i : Nat) : ∀ j, ((runM n s picks j).l i).n = (s.l i).n
  | 0 => rfl
  | j + 1 => (pick_n n _ _ i).trans (run_n n s picks i j)
theorem atP (x : Int) (n : Nat) (hn : n ≤ 1000) : ∃ a, a ≤ n ∧ Int.tmod (IntKind.i64.wrap (IntKind.i64.wrap (Int.tmod x (IntKind.i64.wrap ((n : Int) + 1)) + n) + 1)) (IntKind.i64.wrap ((n : Int) + 1)) = ((a : Nat) : Int) := by
  have hw : IntKind.i64.wrap ((n : Int) + 1) = ((n + 1 : Nat) : Int) := by rw [IntKind.wrap_i64]; omega
  rw [hw]
  have h2 := Int.tmod_lt_of_pos x (b := ((n + 1 : Nat) : Int)) (by omega)
  have h3 : -((n + 1 : Nat) : Int) < Int.tmod x ((n + 1 : Nat) : Int) := Int.lt_tmod_of_pos x (by omega)
  have e : IntKind.i64.wrap (IntKind.i64.wrap (Int.tmod x ((n + 1 : Nat) : Int) + n) + 1) = Int.tmod x ((n + 1 : Nat) : Int) + ((n + 1 : Nat) : Int) := by
    simp only [IntKind.wrap_i64]
    omega
  rw [e]
  have h4 : 0 ≤ Int.tmod (Int.tmod x ((n + 1 : Nat) : Int) + ((n + 1 : Nat) : Int)) ((n + 1 : Nat) : Int) := Int.tmod_nonneg _ (by omega)
  have h5 := Int.tmod_lt_of_pos (Int.tmod x ((n + 1 : Nat) : Int) + ((n + 1 : Nat) : Int)) (b := ((n + 1 : Nat) : Int)) (by omega)
  exact ⟨(Int.tmod (Int.tmod x ((n + 1 : Nat) : Int) + ((n + 1 : Nat) : Int)) ((n + 1 : Nat) : Int)).toNat, by omega, by omega⟩

noncomputable def tabP : Tab := tabAdd 21 (fun args => match args with
  | [.one (.imm (.sl 1 n _ cell)), .one (.imm (.sl 1 n' _ cell'))] => some (.cv (ibool (sameW n (wordsAt cell) n' (wordsAt cell'))), isWords n cell ∧ isWords n' cell')
  | _ => none) tabO
theorem tabP_ok : TabOk Try.prog tabP := by
  refine tabAdd_ok rfl (fun args r p h hp => ?_) tabO_ok
  split at h
  · rename_i n ex cell n' ex' cell'
    simp only [Option.some.injEq, Prod.mk.injEq] at h; obtain ⟨rfl, rfl⟩ := h; exact (same21 n ex (wordsAt cell) n' ex' (wordsAt cell')).args (TLe.cons (words_le hp.1) (TLe.cons (words_le hp.2) TLe.nil))
  · cases h

theorem parts14 (nm : Nat) (ex : Bool) (many : Nat → Int) (np : Nat) (ex' : Bool) (picks : Nat → Int) (at_ : Int) : PCall Try.prog 14 [.one (iS nm ex many), .one (iS np ex' picks), iint at_] (.cv (ibool true)) := by
  refine PCall_of (ACall_body good Try.func14 rfl 129 rfl (by simp) ?_)
  refine AW_lenle 0 rfl (fun hm => ?_)
  refine AW_seq ?_
  refine AW_all good tabP tabP_ok rfl rfl ?_ ?_
  · repeat' (first | exact trivial | exact rfl | exact (fun _ _ => rfl) | refine And.intro ?_ ?_ | intro _)
    all_goals (first | omega | exact of_decide_eq_true (by assumption) | decide | exact hmay | exact hmay2 | exact hlm _ | exact h6.1 | exact h6.2 | exact hbytes | exact hmx | exact prog_lit _ _ | exact procs_lit _ _ | (rename_i hg; exact hg) | (rename_i hg; change (_ : Bool) = true; rw [hg]; rfl) | (change (_ : Bool) = true; simp_all; done) | trace_state)
  refine AW_seq ?_
  refine AW_all good tabP tabP_ok rfl rfl ?_ ?_
  · repeat' (first | exact trivial | exact rfl | exact (fun _ _ => rfl) | refine And.intro ?_ ?_ | intro _)
    all_goals (first | omega | exact of_decide_eq_true (by assumption) | decide | exact hmay | exact hmay2 | exact hlm _ | exact h6.1 | exact h6.2 | exact hbytes | exact hmx | exact prog_lit _ _ | exact procs_lit _ _ | (rename_i hg; exact hg) | (rename_i hg; change (_ : Bool) = true; rw [hg]; rfl) | (change (_ : Bool) = true; simp_all; done) | trace_state)
  refine AW_seq ?_
  refine AW_seq ?_
  refine AW_all good tabP tabP_ok rfl rfl ?_ ?_
  · repeat' (first | exact trivial | exact rfl | exact (fun _ _ => rfl) | refine And.intro ?_ ?_ | intro _)
    all_goals (first | omega | exact of_decide_eq_true (by assumption) | decide | exact hmay | exact hmay2 | exact hlm _ | exact h6.1 | exact h6.2 | exact hbytes | exact hmx | exact prog_lit _ _ | exact procs_lit _ _ | (rename_i hg; exact hg) | (rename_i hg; change (_ : Bool) = true; rw [hg]; rfl) | (change (_ : Bool) = true; simp_all; done) | trace_state)
  refine AW_block ?_
  refine AW_absent 54 8 (fun _ _ => ivDef) ?_
  refine AW_loopH 1 (fun j : { j : Nat × Nat // j.1 ≤ nm ∧ j.2 = min j.1 6 } => [(1, .cv (.one (iS np ex' picks))), (2, .cv (iint at_)), (7, .cv (.one (.osl 0 8 0 0 j.1.2 true))), (20, .cv (.one (iS nm ex many))), (21, .cv (iint nm)), (22, .cv (iint j.1.1))]) (fun j => [(0, .rows 54 8 j.1.2 fun q c => prcI (addsP (q % 2 : Nat) (offW (many q) 6)) c)]) (fun j => nm - j.1.1) ⟨(0, 0), Nat.zero_le _, by simp⟩ [0] rfl rfl ?_ ?_ ?_
  · exact ⟨SLe.of_eq rfl, SLe.of_eq rfl, SLe.cv CLe.empty, SLe.of_eq rfl, SLe.of_eq rfl, SLe.of_eq rfl, trivial⟩
  · exact ⟨⟨rfl, _, rfl, BLe.rows rfl fun i j hi _ => absurd hi (Nat.not_lt_zero i)⟩, trivial⟩
  rintro ⟨⟨i, len⟩, hi, hlen⟩
  dsimp only at hi hlen ⊢
  refine AW_seq ?_
  refine AW_all good tabP tabP_ok rfl rfl ?_ ?_
  · repeat' (first | exact trivial | exact rfl | exact (fun _ _ => rfl) | refine And.intro ?_ ?_ | intro _)
    all_goals (first | omega | exact of_decide_eq_true (by assumption) | decide | exact hmay | exact hmay2 | exact hlm _ | exact h6.1 | exact h6.2 | exact hbytes | exact hmx | exact prog_lit _ _ | exact procs_lit _ _ | (rename_i hg; exact hg) | (rename_i hg; change (_ : Bool) = true; rw [hg]; rfl) | (change (_ : Bool) = true; simp_all; done) | trace_state)
  refine AW_seq ?_
  refine AW_cond rfl (fun h1 => ?_) (fun h1 => ?_)
  · first
    | (exfalso; simp_all; done)
    | (
        refine AW_skip ?_
        refine AW_seq ?_
        refine AW_block ?_
        refine AW_seq ?_
        have hlt : i < nm := by simpa using h1
        refine AW_all good tabP tabP_ok rfl rfl ?_ ?_
        · repeat' (first | exact trivial | exact rfl | exact (fun _ _ => rfl) | refine And.intro ?_ ?_ | intro _)
          all_goals (first | omega | exact of_decide_eq_true (by assumption) | decide | exact hmay | exact hmay2 | exact hlm _ | exact h6.1 | exact h6.2 | exact hbytes | exact hmx | exact prog_lit _ _ | exact procs_lit _ _ | (rename_i hg; exact hg) | (rename_i hg; change (_ : Bool) = true; rw [hg]; rfl) | (change (_ : Bool) = true; simp_all; done) | trace_state)
        refine AW_seq ?_
        refine AW_all good tabP tabP_ok rfl rfl ?_ ?_
        · repeat' (first | exact trivial | exact rfl | exact (fun _ _ => rfl) | refine And.intro ?_ ?_ | intro _)
          all_goals (first | omega | exact of_decide_eq_true (by assumption) | decide | exact hmay | exact hmay2 | exact hlm _ | exact h6.1 | exact h6.2 | exact hbytes | exact hmx | exact prog_lit _ _ | exact procs_lit _ _ | (rename_i hg; exact hg) | (rename_i hg; change (_ : Bool) = true; rw [hg]; rfl) | (change (_ : Bool) = true; simp_all; done) | trace_state)
        refine AW_cond rfl (fun h2 => ?_) (fun h2 => ?_)
        · first
          | (exfalso; simp_all; done)
          | (
              have h6 := six_le (many i)
              have h8 : i < 6 := by
                have h : decide (((i : Nat) : Int) < 6) = true := h2
                have := of_decide_eq_true h
                omega
              have hbytes : (len + 1) * lay54.bytes ≤ 140737488355328 := by
                show (len + 1) * 80 ≤ _
                omega
              have hmx : len + 1 ≤ maxLen := by simp only [maxLen]; omega
              refine AW_all good tabP tabP_ok rfl rfl ?_ ?_
              · repeat' (first | exact trivial | exact rfl | exact (fun _ _ => rfl) | refine And.intro ?_ ?_ | intro _)
                all_goals (first | omega | exact of_decide_eq_true (by assumption) | decide | exact hmay | exact hmay2 | exact hlm _ | exact h6.1 | exact h6.2 | exact hbytes | exact hmx | exact prog_lit _ _ | exact procs_lit _ _ | (rename_i hg; exact hg) | (rename_i hg; change (_ : Bool) = true; rw [hg]; rfl) | (change (_ : Bool) = true; simp_all; done) | trace_state)
              refine AW_all good tabP tabP_ok rfl rfl ?_ ?_
              · repeat' (first | exact trivial | exact rfl | exact (fun _ _ => rfl) | refine And.intro ?_ ?_ | intro _)
                all_goals (first | omega | exact of_decide_eq_true (by assumption) | decide | exact hmay | exact hmay2 | exact hlm _ | exact h6.1 | exact h6.2 | exact hbytes | exact hmx | exact prog_lit _ _ | exact procs_lit _ _ | (rename_i hg; exact hg) | (rename_i hg; change (_ : Bool) = true; rw [hg]; rfl) | (change (_ : Bool) = true; simp_all; done) | trace_state)
              have hlt : i < nm := by simpa using h1
              have h8 : i < 6 := by
                have h : decide (((i : Nat) : Int) < 6) = true := h2
                have := of_decide_eq_true h
                omega
              refine loopH_next ⟨(i + 1, len + 1), hlt, by omega⟩ [2] rfl rfl ⟨SLe.of_eq rfl, SLe.of_eq rfl, SLe.of_eq rfl, SLe.of_eq rfl, SLe.of_eq rfl, SLe.of_eq (congrArg (fun z => SV.cv (iint z)) (next_int i nm hlt hm)), trivial⟩ ⟨⟨rfl, _, rfl, BLe.rows rfl fun q c hq hc => ILe.of_eq (app_last (f := fun q c => prcI (addsP (q % 2 : Nat) (offW (many q) 6)) c) hq fun hqi => ?_)⟩, trivial⟩ ?_
              · have hli : len = i := by omega
                subst hli
                have e : addsP (Int.tmod (len : Int) 2) (Int.tmod (IntKind.i64.wrap (Int.tmod (many len) 6 + 6)) 6).toNat = addsP (len % 2 : Nat) (offW (many len) 6) := by
                  rw [six_val]
                  rfl
                match c, hc with
                | 0, _ => exact congrArg (fun p => prcI p 0) e
                | 1, _ => exact congrArg (fun p => prcI p 1) e
                | 2, _ => exact congrArg (fun p => prcI p 2) e
                | 3, _ => exact congrArg (fun p => prcI p 3) e
                | 4, _ => exact congrArg (fun p => prcI p 4) e
                | 5, _ => exact congrArg (fun p => prcI p 5) e
                | 6, _ => exact congrArg (fun p => prcI p 6) e
                | 7, _ => exact congrArg (fun p => prcI p 7) e
              show nm - (i + 1) < nm - i
              omega
          )
        · first
          | (exfalso; simp_all; done)
          | (
              refine AW_skip ?_
              refine AW_all good tabP tabP_ok rfl rfl ?_ ?_
              · repeat' (first | exact trivial | exact rfl | exact (fun _ _ => rfl) | refine And.intro ?_ ?_ | intro _)
                all_goals (first | omega | exact of_decide_eq_true (by assumption) | decide | exact hmay | exact hmay2 | exact hlm _ | exact h6.1 | exact h6.2 | exact hbytes | exact hmx | exact prog_lit _ _ | exact procs_lit _ _ | (rename_i hg; exact hg) | (rename_i hg; change (_ : Bool) = true; rw [hg]; rfl) | (change (_ : Bool) = true; simp_all; done) | trace_state)
              have hlt : i < nm := by simpa using h1
              have h8 : ¬ i < 6 := by
                have h : decide (((i : Nat) : Int) < 6) = false := h2
                have := of_decide_eq_false h
                omega
              refine loopH_next ⟨(i + 1, len), hlt, by omega⟩ [0] rfl rfl ⟨SLe.of_eq rfl, SLe.of_eq rfl, SLe.of_eq rfl, SLe.of_eq rfl, SLe.of_eq rfl, SLe.of_eq (congrArg (fun z => SV.cv (iint z)) (next_int i nm hlt hm)), trivial⟩ ⟨⟨rfl, _, rfl, BLe.of_eq rfl⟩, trivial⟩ ?_
              show nm - (i + 1) < nm - i
              omega
          )
    )
  · first
    | (exfalso; simp_all; done)
    | (
        refine AW_exit ?_
        refine AW_seq ?_
        refine AW_all good tabP tabP_ok rfl rfl ?_ ?_
        · repeat' (first | exact trivial | exact rfl | exact (fun _ _ => rfl) | refine And.intro ?_ ?_ | intro _)
          all_goals (first | omega | exact of_decide_eq_true (by assumption) | decide | exact hmay | exact hmay2 | exact hlm _ | exact h6.1 | exact h6.2 | exact hbytes | exact hmx | exact prog_lit _ _ | exact procs_lit _ _ | (rename_i hg; exact hg) | (rename_i hg; change (_ : Bool) = true; rw [hg]; rfl) | (change (_ : Bool) = true; simp_all; done) | trace_state)
        refine AW_seq ?_
        obtain ⟨Kf, hKf⟩ : ∃ Kf : Nat → Nat, ∀ q, Kf q = offW (many q) 6 := ⟨_, fun _ => rfl⟩
        obtain ⟨NP, hNP⟩ : ∃ NP, NP = min np 200 := ⟨_, rfl⟩
        obtain ⟨l, hl⟩ : ∃ l : Nat → Prc, l = fun q => addsP (q % 2 : Nat) (Kf q) := ⟨_, rfl⟩
        have hK6 : ∀ q, Kf q < 6 := fun q => by rw [hKf]; exact (six (many q)).2.2
        have hNP300 : NP ≤ 200 := by omega
        refine AW_slot 1 (y := .cv (.one (iS NP false picks))) rfl (SLe.cv (CLe.imm (ILe.sl ?_ (by simp) (.inr ⟨rfl, fun i j hi hj => ILe.of_eq ?_⟩)))) ?_
        · rw [hNP]
          split <;> omega
        · show IV.val (.int .i64 (picks (0 + i))) = IV.val (.int .i64 (picks i))
          rw [Nat.zero_add]
        refine AW_give 0 7 rfl (by omega) ?_
        refine AW_slot 7 (y := .cv (.one (prcS len false l))) rfl (SLe.cv (CLe.imm (ILe.sl rfl (by simp) (.inr ⟨rfl, fun i j hi hj => ILe.of_eq (by rw [Nat.zero_add, hl]; show prcI (addsP (i % 2 : Nat) (offW (many i) 6)) j = prcI (addsP (i % 2 : Nat) (Kf i)) j; rw [hKf])⟩)))) ?_
        have hn8 : len ≤ 6 := by omega
        have hmq : ∀ q, mayP (l q) = true := fun q => by rw [hl]; exact mayP_add (by omega) (by omega) (by have := hK6 q; omega)
        have hmay : mayL len l = true := mayL_mk (by omega) fun q _ => hmq q
        have hwn : IntKind.i64.wrap ((NP : Int) + 1) ≠ 0 := by rw [IntKind.wrap_i64]; omega
        clear hi hlen h1
        refine AW_all good tabP tabP_ok rfl rfl ?_ ?_
        · repeat' (first | exact trivial | exact rfl | exact (fun _ _ => rfl) | refine And.intro ?_ ?_ | intro _)
          all_goals (first | omega | exact of_decide_eq_true (by assumption) | decide | exact hmay | exact hmay2 | exact hlm _ | exact h6.1 | exact h6.2 | exact hbytes | exact hmx | exact prog_lit _ _ | exact procs_lit _ _ | (rename_i hg; exact hg) | (rename_i hg; change (_ : Bool) = true; rw [hg]; rfl) | (change (_ : Bool) = true; simp_all; done) | trace_state)
        refine AW_seq ?_
        obtain ⟨AT, hAT, hATe⟩ := atP at_ NP (by omega)
        refine AW_slot 2 (y := .cv (iint AT)) rfl (SLe.of_eq (congrArg (fun z => SV.cv (iint z)) hATe)) ?_
        obtain ⟨M, hM⟩ : ∃ M, runM len ⟨fun _ => 0, l⟩ picks NP = M := ⟨_, rfl⟩
        obtain ⟨MA, hMA⟩ : ∃ MA, runM len ⟨fun _ => 0, l⟩ picks AT = MA := ⟨_, rfl⟩
        have hMC : runM len MA (fun q => picks (AT + q)) ((NP : Int) - (AT : Int)).toNat = M := by
          rw [← hMA, run_parts, ← hM]
          congr 1
          omega
        have hMA' : runM len ⟨fun _ => 0, l⟩ (fun i => picks (0 + i)) ((AT : Int) - 0).toNat = MA := by
          rw [show (fun i => picks (0 + i)) = picks from funext fun i => by rw [Nat.zero_add], show ((AT : Int) - 0).toNat = AT from by omega]
          exact hMA
        have hmay2 : mayL len MA.l = true := mayL_mk (by omega) fun q hq => by rw [← hMA]; exact run_may (fun i _ => hmq i) AT q hq
        have hlm : ∀ q, (M.l q).n ≤ maxLen := fun q => by
          rw [← hM, run_n, hl]
          show Kf q + 1 ≤ maxLen
          have := hK6 q
          simp only [maxLen]
          omega
        refine AW_eff good tabP tabP_ok et0 (et0_ok _) [0] rfl rfl ?_ ?_
        · repeat' (first | exact trivial | exact rfl | exact (fun _ _ => rfl) | refine And.intro ?_ ?_ | intro _)
          all_goals (first | omega | exact of_decide_eq_true (by assumption) | decide | exact hmay | exact hmay2 | exact hlm _ | exact h6.1 | exact h6.2 | exact hbytes | exact hmx | exact prog_lit _ _ | exact procs_lit _ _ | (rename_i hg; exact hg) | (rename_i hg; change (_ : Bool) = true; rw [hg]; rfl) | (change (_ : Bool) = true; simp_all; done) | trace_state)
        refine AW_seq ?_
        refine AW_drwF good rfl tabP tabP_ok [0] rfl rfl rfl rfl ?_ ?_
        · repeat' (first | exact trivial | exact rfl | exact (fun _ _ => rfl) | refine And.intro ?_ ?_ | intro _)
          all_goals (first | omega | exact of_decide_eq_true (by assumption) | decide | exact hmay | exact hmay2 | exact hlm _ | exact h6.1 | exact h6.2 | exact hbytes | exact hmx | exact prog_lit _ _ | exact procs_lit _ _ | (rename_i hg; exact hg) | (rename_i hg; change (_ : Bool) = true; rw [hg]; rfl) | (change (_ : Bool) = true; simp_all; done) | trace_state)
        refine AW_seq ?_
        refine AW_slot 10 (y := .cv (.one (uS 64 false M.m))) rfl (SLe.of_eq (congrArg (fun s : MSt => SV.cv (CV.one (uS 64 false s.m))) hM)) ?_
        refine AW_slot 11 (y := .cv (.one (prcS len false M.l))) rfl (SLe.of_eq (congrArg (fun s : MSt => SV.cv (CV.one (prcS len false s.l))) hM)) ?_
        refine AW_slot 13 (y := .cv (.one (uS 64 false MA.m))) rfl (SLe.of_eq (congrArg (fun s : MSt => SV.cv (CV.one (uS 64 false s.m))) hMA')) ?_
        refine AW_slot 14 (y := .cv (.one (prcS len false MA.l))) rfl (SLe.of_eq (congrArg (fun s : MSt => SV.cv (CV.one (prcS len false s.l))) hMA')) ?_
        refine AW_all good tabP tabP_ok rfl rfl ?_ ?_
        · repeat' (first | exact trivial | exact rfl | exact (fun _ _ => rfl) | refine And.intro ?_ ?_ | intro _)
          all_goals (first | omega | exact of_decide_eq_true (by assumption) | decide | exact hmay | exact hmay2 | exact hlm _ | exact h6.1 | exact h6.2 | exact hbytes | exact hmx | exact prog_lit _ _ | exact procs_lit _ _ | (rename_i hg; exact hg) | (rename_i hg; change (_ : Bool) = true; rw [hg]; rfl) | (change (_ : Bool) = true; simp_all; done) | trace_state)
        refine AW_seq ?_
        refine AW_seq ?_
        refine AW_slot 16 (y := .cv (.one (uS 64 false M.m))) rfl (SLe.of_eq (congrArg (fun s : MSt => SV.cv (CV.one (uS 64 false s.m))) hMC)) ?_
        refine AW_slot 17 (y := .cv (.one (prcS len false M.l))) rfl (SLe.of_eq (congrArg (fun s : MSt => SV.cv (CV.one (prcS len false s.l))) hMC)) ?_
        refine AW_all good tabP tabP_ok rfl rfl ?_ ?_
        · repeat' (first | exact trivial | exact rfl | exact (fun _ _ => rfl) | refine And.intro ?_ ?_ | intro _)
          all_goals (first | omega | exact of_decide_eq_true (by assumption) | decide | exact hmay | exact hmay2 | exact hlm _ | exact h6.1 | exact h6.2 | exact hbytes | exact hmx | exact prog_lit _ _ | exact procs_lit _ _ | (rename_i hg; exact hg) | (rename_i hg; change (_ : Bool) = true; rw [hg]; rfl) | (change (_ : Bool) = true; simp_all; done) | trace_state)
        refine AW_cond rfl (fun h3 => ?_) (fun h3 => ?_)
        · first
          | (exfalso; simp_all; done)
          | (
              refine AW_seq ?_
              refine AW_all good tabP tabP_ok rfl rfl ?_ ?_
              · repeat' (first | exact trivial | exact rfl | exact (fun _ _ => rfl) | refine And.intro ?_ ?_ | intro _)
                all_goals (first | omega | exact of_decide_eq_true (by assumption) | decide | exact hmay | exact hmay2 | exact hlm _ | exact h6.1 | exact h6.2 | exact hbytes | exact hmx | exact prog_lit _ _ | exact procs_lit _ _ | (rename_i hg; exact hg) | (rename_i hg; change (_ : Bool) = true; rw [hg]; rfl) | (change (_ : Bool) = true; simp_all; done) | trace_state)
              refine AW_ret (bodyQ_ret rfl ?_ (Ends.intro rfl ?_ ?_))
              · repeat' (first | exact trivial | exact rfl | exact (fun _ _ => rfl) | refine And.intro ?_ ?_ | intro _)
                all_goals (first | omega | exact of_decide_eq_true (by assumption) | decide | exact hmay | exact hmay2 | exact hlm _ | exact h6.1 | exact h6.2 | exact hbytes | exact hmx | exact prog_lit _ _ | exact procs_lit _ _ | (rename_i hg; exact hg) | (rename_i hg; change (_ : Bool) = true; rw [hg]; rfl) | (change (_ : Bool) = true; simp_all; done) | trace_state)
              · repeat' (first | exact trivial | exact rfl | exact (fun _ _ => rfl) | refine And.intro ?_ ?_ | intro _)
                all_goals (first | omega | exact of_decide_eq_true (by assumption) | decide | exact hmay | exact hmay2 | exact hlm _ | exact h6.1 | exact h6.2 | exact hbytes | exact hmx | exact prog_lit _ _ | exact procs_lit _ _ | (rename_i hg; exact hg) | (rename_i hg; change (_ : Bool) = true; rw [hg]; rfl) | (change (_ : Bool) = true; simp_all; done) | trace_state)
              exfalso
              have h : (bif (bif (bif (bif (bif false then true else false) then true else false) then true else ((len : Int) != (len : Int))) then true else !(sameW 64 M.m 64 M.m)) then true else false) = true := h3
              rw [sameW_self] at h
              simp at h
          )
        · first
          | (exfalso; simp_all; done)
          | (
              refine AW_skip ?_
              refine AW_seq ?_
              refine AW_seq ?_
              refine AW_all good tabP tabP_ok rfl rfl ?_ ?_
              · repeat' (first | exact trivial | exact rfl | exact (fun _ _ => rfl) | refine And.intro ?_ ?_ | intro _)
                all_goals (first | omega | exact of_decide_eq_true (by assumption) | decide | exact hmay | exact hmay2 | exact hlm _ | exact h6.1 | exact h6.2 | exact hbytes | exact hmx | exact prog_lit _ _ | exact procs_lit _ _ | (rename_i hg; exact hg) | (rename_i hg; change (_ : Bool) = true; rw [hg]; rfl) | (change (_ : Bool) = true; simp_all; done) | trace_state)
              refine AW_block ?_
              refine AW_loopH 0 (fun j : { i : Nat // i ≤ len } => [(11, .cv (.one (prcS len false M.l))), (17, .cv (.one (prcS len false M.l))), (114, .cv (iint len)), (115, .cv (iint j.1))]) (fun _ => []) (fun j => len - j.1) ⟨0, Nat.zero_le _⟩ [] rfl rfl ?_ trivial ?_
              · exact ⟨SLe.of_eq rfl, SLe.of_eq rfl, SLe.of_eq rfl, SLe.of_eq rfl, trivial⟩
              rintro ⟨i, hi⟩
              dsimp only
              refine AW_seq ?_
              refine AW_all good tabP tabP_ok rfl rfl ?_ ?_
              · repeat' (first | exact trivial | exact rfl | exact (fun _ _ => rfl) | refine And.intro ?_ ?_ | intro _)
                all_goals (first | omega | exact of_decide_eq_true (by assumption) | decide | exact hmay | exact hmay2 | exact hlm _ | exact h6.1 | exact h6.2 | exact hbytes | exact hmx | exact prog_lit _ _ | exact procs_lit _ _ | (rename_i hg; exact hg) | (rename_i hg; change (_ : Bool) = true; rw [hg]; rfl) | (change (_ : Bool) = true; simp_all; done) | trace_state)
              refine AW_seq ?_
              refine AW_cond rfl (fun h4 => ?_) (fun h4 => ?_)
              · first
                | (exfalso; simp_all; done)
                | (
                    refine AW_skip ?_
                    refine AW_seq ?_
                    refine AW_block ?_
                    refine AW_seq ?_
                    refine AW_all good tabP tabP_ok rfl rfl ?_ ?_
                    · repeat' (first | exact trivial | exact rfl | exact (fun _ _ => rfl) | refine And.intro ?_ ?_ | intro _)
                      all_goals (first | omega | exact of_decide_eq_true (by assumption) | decide | exact hmay | exact hmay2 | exact hlm _ | exact h6.1 | exact h6.2 | exact hbytes | exact hmx | exact prog_lit _ _ | exact procs_lit _ _ | (rename_i hg; exact hg) | (rename_i hg; change (_ : Bool) = true; rw [hg]; rfl) | (change (_ : Bool) = true; simp_all; done) | trace_state)
                    refine AW_seq ?_
                    refine AW_drwE good rfl tabP tabP_ok rfl rfl rfl rfl ?_ ?_
                    · repeat' (first | exact trivial | exact rfl | exact (fun _ _ => rfl) | refine And.intro ?_ ?_ | intro _)
                      all_goals (first | omega | exact of_decide_eq_true (by assumption) | decide | exact hmay | exact hmay2 | exact hlm _ | exact h6.1 | exact h6.2 | exact hbytes | exact hmx | exact prog_lit _ _ | exact procs_lit _ _ | (rename_i hg; exact hg) | (rename_i hg; change (_ : Bool) = true; rw [hg]; rfl) | (change (_ : Bool) = true; simp_all; done) | trace_state)
                    refine AW_cond rfl (fun h5 => ?_) (fun h5 => ?_)
                    · first
                      | (exfalso; simp_all; done)
                      | (
                          refine AW_seq ?_
                          refine AW_all good tabP tabP_ok rfl rfl ?_ ?_
                          · repeat' (first | exact trivial | exact rfl | exact (fun _ _ => rfl) | refine And.intro ?_ ?_ | intro _)
                            all_goals (first | omega | exact of_decide_eq_true (by assumption) | decide | exact hmay | exact hmay2 | exact hlm _ | exact h6.1 | exact h6.2 | exact hbytes | exact hmx | exact prog_lit _ _ | exact procs_lit _ _ | (rename_i hg; exact hg) | (rename_i hg; change (_ : Bool) = true; rw [hg]; rfl) | (change (_ : Bool) = true; simp_all; done) | trace_state)
                          refine AW_ret (bodyQ_ret rfl ?_ (Ends.intro rfl ?_ ?_))
                          · repeat' (first | exact trivial | exact rfl | exact (fun _ _ => rfl) | refine And.intro ?_ ?_ | intro _)
                            all_goals (first | omega | exact of_decide_eq_true (by assumption) | decide | exact hmay | exact hmay2 | exact hlm _ | exact h6.1 | exact h6.2 | exact hbytes | exact hmx | exact prog_lit _ _ | exact procs_lit _ _ | (rename_i hg; exact hg) | (rename_i hg; change (_ : Bool) = true; rw [hg]; rfl) | (change (_ : Bool) = true; simp_all; done) | trace_state)
                          · repeat' (first | exact trivial | exact rfl | exact (fun _ _ => rfl) | refine And.intro ?_ ?_ | intro _)
                            all_goals (first | omega | exact of_decide_eq_true (by assumption) | decide | exact hmay | exact hmay2 | exact hlm _ | exact h6.1 | exact h6.2 | exact hbytes | exact hmx | exact prog_lit _ _ | exact procs_lit _ _ | (rename_i hg; exact hg) | (rename_i hg; change (_ : Bool) = true; rw [hg]; rfl) | (change (_ : Bool) = true; simp_all; done) | trace_state)
                          exfalso
                          have h : (!(likeP (M.l i) (M.l i))) = true := h5
                          rw [like_self] at h
                          cases h
                      )
                    · first
                      | (exfalso; simp_all; done)
                      | (
                          refine AW_skip ?_
                          refine AW_all good tabP tabP_ok rfl rfl ?_ ?_
                          · repeat' (first | exact trivial | exact rfl | exact (fun _ _ => rfl) | refine And.intro ?_ ?_ | intro _)
                            all_goals (first | omega | exact of_decide_eq_true (by assumption) | decide | exact hmay | exact hmay2 | exact hlm _ | exact h6.1 | exact h6.2 | exact hbytes | exact hmx | exact prog_lit _ _ | exact procs_lit _ _ | (rename_i hg; exact hg) | (rename_i hg; change (_ : Bool) = true; rw [hg]; rfl) | (change (_ : Bool) = true; simp_all; done) | trace_state)
                          have hlt : i < len := by simpa using h4
                          refine loopH_next ⟨i + 1, hlt⟩ [] rfl rfl ⟨SLe.of_eq rfl, SLe.of_eq rfl, SLe.of_eq rfl, SLe.of_eq (congrArg (fun z => SV.cv (iint z)) (next_int i len hlt (by simp only [maxLen]; omega))), trivial⟩ trivial ?_
                          show len - (i + 1) < len - i
                          omega
                      )
                )
              · first
                | (exfalso; simp_all; done)
                | (
                    refine AW_exit ?_
                    refine AW_seq ?_
                    refine AW_all good tabP tabP_ok rfl rfl ?_ ?_
                    · repeat' (first | exact trivial | exact rfl | exact (fun _ _ => rfl) | refine And.intro ?_ ?_ | intro _)
                      all_goals (first | omega | exact of_decide_eq_true (by assumption) | decide | exact hmay | exact hmay2 | exact hlm _ | exact h6.1 | exact h6.2 | exact hbytes | exact hmx | exact prog_lit _ _ | exact procs_lit _ _ | (rename_i hg; exact hg) | (rename_i hg; change (_ : Bool) = true; rw [hg]; rfl) | (change (_ : Bool) = true; simp_all; done) | trace_state)
                    refine AW_ret (bodyQ_ret rfl ?_ (Ends.intro rfl ?_ ?_))
                    · repeat' (first | exact trivial | exact rfl | exact (fun _ _ => rfl) | refine And.intro ?_ ?_ | intro _)
                      all_goals (first | omega | exact of_decide_eq_true (by assumption) | decide | exact hmay | exact hmay2 | exact hlm _ | exact h6.1 | exact h6.2 | exact hbytes | exact hmx | exact prog_lit _ _ | exact procs_lit _ _ | (rename_i hg; exact hg) | (rename_i hg; change (_ : Bool) = true; rw [hg]; rfl) | (change (_ : Bool) = true; simp_all; done) | trace_state)
                    · repeat' (first | exact trivial | exact rfl | exact (fun _ _ => rfl) | refine And.intro ?_ ?_ | intro _)
                      all_goals (first | omega | exact of_decide_eq_true (by assumption) | decide | exact hmay | exact hmay2 | exact hlm _ | exact h6.1 | exact h6.2 | exact hbytes | exact hmx | exact prog_lit _ _ | exact procs_lit _ _ | (rename_i hg; exact hg) | (rename_i hg; change (_ : Bool) = true; rw [hg]; rfl) | (change (_ : Bool) = true; simp_all; done) | trace_state)
                    rfl
                )
          )
    )
end Go.Proofs.Ytndfcbcmeeemfaa.Abs
