/-
  THE LAW MachineAdds as a contract.
-/
import Derived.Test.YtndfcbcmeeemfaaYM3
namespace Go.Proofs.Ytndfcbcmeeemfaa.Abs
open Go
set_option maxRecDepth 10000

theorem six (x : Int) : IntKind.i64.wrap (Int.tmod x 6 + 6) = Int.tmod x 6 + 6 ∧ Int.tmod (Int.tmod x 6 + 6) 6 = (offW x 6 : Nat) ∧ offW x 6 < 6 := by
  obtain ⟨h1, h2, h3, h4⟩ := offI x 6 (by omega) (by omega)
  exact ⟨h1, h3, h4⟩
theorem six_val (x : Int) : Int.tmod (IntKind.i64.wrap (Int.tmod x 6 + 6)) 6 = (offW x 6 : Nat) := by
  obtain ⟨h1, h2, _⟩ := six x
  rw [h1, h2]
theorem six_le (x : Int) : 0 ≤ Int.tmod (IntKind.i64.wrap (Int.tmod x 6 + 6)) 6 ∧ Int.tmod (IntKind.i64.wrap (Int.tmod x 6 + 6)) 6 ≤ 1000000 := by
  rw [six_val]
  have := (six x).2.2
  omega

theorem cnt_le (picks : Nat → Int) (i : Nat) : ∀ j, cnt picks i j ≤ j
  | 0 => Nat.le_refl _
  | j + 1 => by
    have := cnt_le picks i j
    unfold cnt
    cases picks j == (i : Int) <;> simp <;> omega
theorem cnt_in (picks : Nat → Int) (i j : Nat) {n : Nat} (hj : j ≤ n) (hn : n ≤ 300) (h : (picks j == (i : Int)) = true) : (cnt picks i (j + 1) : Int) = IntKind.i64.wrap ((cnt picks i j : Int) + 1) := by
  have := cnt_le picks i j
  rw [IntKind.wrap_i64]
  show ((cnt picks i j + bif picks j == (i : Int) then 1 else 0 : Nat) : Int) = _
  rw [h]
  simp only [cond_true]
  omega
theorem cnt_out (picks : Nat → Int) (i j : Nat) (h : (picks j == (i : Int)) = false) : (cnt picks i (j + 1) : Int) = (cnt picks i j : Int) := by
  show ((cnt picks i j + bif picks j == (i : Int) then 1 else 0 : Nat) : Int) = _
  rw [h]
  rfl

theorem addedN_le {n b : Nat} {f : Nat → Nat} (h : ∀ q, f q ≤ b) : addedN n f ≤ n * b := by
  induction n with
  | zero => exact Nat.zero_le _
  | succ n ih =>
    rw [addedN_succ, Nat.succ_mul]
    have := h n
    omega
theorem beq_cast (a b : Nat) : ((a : Int) == (b : Int)) = Nat.beq a b := by
  cases h : Nat.beq a b with
  | true => rw [Nat.eq_of_beq_eq_true h]; simp
  | false =>
    rw [beq_eq_false_iff_ne]
    intro e
    have : a = b := by omega
    subst this
    simp at h

theorem madds10 (nm : Nat) (ex : Bool) (many : Nat → Int) (np : Nat) (ex' : Bool) (picks : Nat → Int) : PCall Try.prog 10 [.one (iS nm ex many), .one (iS np ex' picks)] (.cv (ibool true)) := by
  refine PCall_of (ACall_body good Try.func10 rfl 126 rfl (by simp) ?_)
  refine AW_lenle 0 rfl (fun hm => ?_)
  refine AW_seq ?_
  refine AW_all good tabN tabN_ok rfl rfl ?_ ?_
  · repeat' (first | exact trivial | exact rfl | exact (fun _ _ => rfl) | apply And.intro | intro _)
    all_goals (first | omega | exact of_decide_eq_true (by assumption) | decide | exact hmay | exact h6.1 | exact h6.2 | exact hbytes | exact hmx | exact prog_lit _ _ | exact procs_lit _ _ | (rename_i hg; exact hg) | (rename_i hg; change (_ : Bool) = true; rw [hg]; rfl) | (change (_ : Bool) = true; simp_all; done) | trace_state)
  refine AW_seq ?_
  refine AW_all good tabN tabN_ok rfl rfl ?_ ?_
  · repeat' (first | exact trivial | exact rfl | exact (fun _ _ => rfl) | apply And.intro | intro _)
    all_goals (first | omega | exact of_decide_eq_true (by assumption) | decide | exact hmay | exact h6.1 | exact h6.2 | exact hbytes | exact hmx | exact prog_lit _ _ | exact procs_lit _ _ | (rename_i hg; exact hg) | (rename_i hg; change (_ : Bool) = true; rw [hg]; rfl) | (change (_ : Bool) = true; simp_all; done) | trace_state)
  refine AW_seq ?_
  refine AW_seq ?_
  refine AW_all good tabN tabN_ok rfl rfl ?_ ?_
  · repeat' (first | exact trivial | exact rfl | exact (fun _ _ => rfl) | apply And.intro | intro _)
    all_goals (first | omega | exact of_decide_eq_true (by assumption) | decide | exact hmay | exact h6.1 | exact h6.2 | exact hbytes | exact hmx | exact prog_lit _ _ | exact procs_lit _ _ | (rename_i hg; exact hg) | (rename_i hg; change (_ : Bool) = true; rw [hg]; rfl) | (change (_ : Bool) = true; simp_all; done) | trace_state)
  refine AW_block ?_
  refine AW_absent 54 8 (fun _ _ => ivDef) ?_
  refine AW_loopH 1 (fun j : { j : Nat × Nat // j.1 ≤ nm ∧ j.2 = min j.1 8 } => [(1, .cv (.one (iS np ex' picks))), (5, .cv (.one (.osl 0 8 0 0 j.1.2 true))), (18, .cv (.one (iS nm ex many))), (19, .cv (iint nm)), (20, .cv (iint j.1.1))]) (fun j => [(0, .rows 54 8 j.1.2 fun q c => prcI (addsP 0 (offW (many q) 6)) c)]) (fun j => nm - j.1.1) ⟨(0, 0), Nat.zero_le _, by simp⟩ [0] rfl rfl ?_ ?_ ?_
  · exact ⟨SLe.of_eq rfl, SLe.cv CLe.empty, SLe.of_eq rfl, SLe.of_eq rfl, SLe.of_eq rfl, trivial⟩
  · exact ⟨⟨rfl, _, rfl, BLe.rows rfl fun i j hi _ => absurd hi (Nat.not_lt_zero i)⟩, trivial⟩
  rintro ⟨⟨i, len⟩, hi, hlen⟩
  dsimp only at hi hlen ⊢
  refine AW_seq ?_
  refine AW_all good tabN tabN_ok rfl rfl ?_ ?_
  · repeat' (first | exact trivial | exact rfl | exact (fun _ _ => rfl) | apply And.intro | intro _)
    all_goals (first | omega | exact of_decide_eq_true (by assumption) | decide | exact hmay | exact h6.1 | exact h6.2 | exact hbytes | exact hmx | exact prog_lit _ _ | exact procs_lit _ _ | (rename_i hg; exact hg) | (rename_i hg; change (_ : Bool) = true; rw [hg]; rfl) | (change (_ : Bool) = true; simp_all; done) | trace_state)
  refine AW_seq ?_
  refine AW_cond rfl (fun h1 => ?_) (fun h1 => ?_)
  · first
    | (exfalso; simp_all; done)
    | (
        refine AW_skip ?_
        refine AW_seq ?_
        refine AW_block ?_
        refine AW_seq ?_
        have hlt : i < nm := by simpa using h1
        refine AW_all good tabN tabN_ok rfl rfl ?_ ?_
        · repeat' (first | exact trivial | exact rfl | exact (fun _ _ => rfl) | apply And.intro | intro _)
          all_goals (first | omega | exact of_decide_eq_true (by assumption) | decide | exact hmay | exact h6.1 | exact h6.2 | exact hbytes | exact hmx | exact prog_lit _ _ | exact procs_lit _ _ | (rename_i hg; exact hg) | (rename_i hg; change (_ : Bool) = true; rw [hg]; rfl) | (change (_ : Bool) = true; simp_all; done) | trace_state)
        refine AW_seq ?_
        refine AW_all good tabN tabN_ok rfl rfl ?_ ?_
        · repeat' (first | exact trivial | exact rfl | exact (fun _ _ => rfl) | apply And.intro | intro _)
          all_goals (first | omega | exact of_decide_eq_true (by assumption) | decide | exact hmay | exact h6.1 | exact h6.2 | exact hbytes | exact hmx | exact prog_lit _ _ | exact procs_lit _ _ | (rename_i hg; exact hg) | (rename_i hg; change (_ : Bool) = true; rw [hg]; rfl) | (change (_ : Bool) = true; simp_all; done) | trace_state)
        refine AW_cond rfl (fun h2 => ?_) (fun h2 => ?_)
        · first
          | (exfalso; simp_all; done)
          | (
              have h6 := six_le (many i)
              have h8 : i < 8 := by
                have h : decide (((i : Nat) : Int) < 8) = true := h2
                have := of_decide_eq_true h
                omega
              have hbytes : (len + 1) * lay54.bytes ≤ 140737488355328 := by
                show (len + 1) * 80 ≤ _
                omega
              have hmx : len + 1 ≤ maxLen := by simp only [maxLen]; omega
              refine AW_all good tabN tabN_ok rfl rfl ?_ ?_
              · repeat' (first | exact trivial | exact rfl | exact (fun _ _ => rfl) | apply And.intro | intro _)
                all_goals (first | omega | exact of_decide_eq_true (by assumption) | decide | exact hmay | exact h6.1 | exact h6.2 | exact hbytes | exact hmx | exact prog_lit _ _ | exact procs_lit _ _ | (rename_i hg; exact hg) | (rename_i hg; change (_ : Bool) = true; rw [hg]; rfl) | (change (_ : Bool) = true; simp_all; done) | trace_state)
              refine AW_all good tabN tabN_ok rfl rfl ?_ ?_
              · repeat' (first | exact trivial | exact rfl | exact (fun _ _ => rfl) | apply And.intro | intro _)
                all_goals (first | omega | exact of_decide_eq_true (by assumption) | decide | exact hmay | exact h6.1 | exact h6.2 | exact hbytes | exact hmx | exact prog_lit _ _ | exact procs_lit _ _ | (rename_i hg; exact hg) | (rename_i hg; change (_ : Bool) = true; rw [hg]; rfl) | (change (_ : Bool) = true; simp_all; done) | trace_state)
              have hlt : i < nm := by simpa using h1
              have h8 : i < 8 := by
                have h : decide (((i : Nat) : Int) < 8) = true := h2
                have := of_decide_eq_true h
                omega
              refine loopH_next ⟨(i + 1, len + 1), hlt, by omega⟩ [2] rfl rfl ⟨SLe.of_eq rfl, SLe.of_eq rfl, SLe.of_eq rfl, SLe.of_eq rfl, SLe.of_eq (congrArg (fun z => SV.cv (iint z)) (next_int i nm hlt hm)), trivial⟩ ⟨⟨rfl, _, rfl, BLe.rows rfl fun q c hq hc => ILe.of_eq (app_last (f := fun q c => prcI (addsP 0 (offW (many q) 6)) c) hq fun hqi => ?_)⟩, trivial⟩ ?_
              · have hli : len = i := by omega
                subst hli
                have e : addsP 0 (Int.tmod (IntKind.i64.wrap (Int.tmod (many len) 6 + 6)) 6).toNat = addsP 0 (offW (many len) 6) := by
                  rw [six_val]
                  rfl
                match c, hc with
                | 0, _ => exact congrArg (fun p => prcI p 0) e
                | 1, _ => exact congrArg (fun p => prcI p 1) e
                | 2, _ => exact congrArg (fun p => prcI p 2) e
                | 3, _ => exact congrArg (fun p => prcI p 3) e
                | 4, _ => exact congrArg (fun p => prcI p 4) e
                | 5, _ => exact congrArg (fun p => prcI p 5) e
                | 6, _ => exact congrArg (fun p => prcI p 6) e
                | 7, _ => exact congrArg (fun p => prcI p 7) e
              show nm - (i + 1) < nm - i
              omega
          )
        · first
          | (exfalso; simp_all; done)
          | (
              refine AW_skip ?_
              refine AW_all good tabN tabN_ok rfl rfl ?_ ?_
              · repeat' (first | exact trivial | exact rfl | exact (fun _ _ => rfl) | apply And.intro | intro _)
                all_goals (first | omega | exact of_decide_eq_true (by assumption) | decide | exact hmay | exact h6.1 | exact h6.2 | exact hbytes | exact hmx | exact prog_lit _ _ | exact procs_lit _ _ | (rename_i hg; exact hg) | (rename_i hg; change (_ : Bool) = true; rw [hg]; rfl) | (change (_ : Bool) = true; simp_all; done) | trace_state)
              have hlt : i < nm := by simpa using h1
              have h8 : ¬ i < 8 := by
                have h : decide (((i : Nat) : Int) < 8) = false := h2
                have := of_decide_eq_false h
                omega
              refine loopH_next ⟨(i + 1, len), hlt, by omega⟩ [0] rfl rfl ⟨SLe.of_eq rfl, SLe.of_eq rfl, SLe.of_eq rfl, SLe.of_eq rfl, SLe.of_eq (congrArg (fun z => SV.cv (iint z)) (next_int i nm hlt hm)), trivial⟩ ⟨⟨rfl, _, rfl, BLe.of_eq rfl⟩, trivial⟩ ?_
              show nm - (i + 1) < nm - i
              omega
          )
    )
  · first
    | (exfalso; simp_all; done)
    | (
        refine AW_exit ?_
        refine AW_seq ?_
        refine AW_all good tabN tabN_ok rfl rfl ?_ ?_
        · repeat' (first | exact trivial | exact rfl | exact (fun _ _ => rfl) | apply And.intro | intro _)
          all_goals (first | omega | exact of_decide_eq_true (by assumption) | decide | exact hmay | exact h6.1 | exact h6.2 | exact hbytes | exact hmx | exact prog_lit _ _ | exact procs_lit _ _ | (rename_i hg; exact hg) | (rename_i hg; change (_ : Bool) = true; rw [hg]; rfl) | (change (_ : Bool) = true; simp_all; done) | trace_state)
        refine AW_seq ?_
        obtain ⟨Kf, hKf⟩ : ∃ Kf : Nat → Nat, ∀ q, Kf q = offW (many q) 6 := ⟨_, fun _ => rfl⟩
        obtain ⟨NP, hNP⟩ : ∃ NP, NP = min np 300 := ⟨_, rfl⟩
        obtain ⟨l, hl⟩ : ∃ l : Nat → Prc, l = fun q => addsP 0 (Kf q) := ⟨_, rfl⟩
        have hK6 : ∀ q, Kf q < 6 := fun q => by rw [hKf]; exact (six (many q)).2.2
        have hNP300 : NP ≤ 300 := by omega
        refine AW_slot 1 (y := .cv (.one (iS NP false picks))) rfl (SLe.cv (CLe.imm (ILe.sl ?_ (by simp) (.inr ⟨rfl, fun i j hi hj => ILe.of_eq ?_⟩)))) ?_
        · rw [hNP]
          split <;> omega
        · show IV.val (.int .i64 (picks (0 + i))) = IV.val (.int .i64 (picks i))
          rw [Nat.zero_add]
        refine AW_give 0 5 rfl (by omega) ?_
        refine AW_slot 5 (y := .cv (.one (prcS len false l))) rfl (SLe.cv (CLe.imm (ILe.sl rfl (by simp) (.inr ⟨rfl, fun i j hi hj => ILe.of_eq (by rw [Nat.zero_add, hl]; show prcI (addsP 0 (offW (many i) 6)) j = prcI (addsP 0 (Kf i)) j; rw [hKf])⟩)))) ?_
        have hn8 : len ≤ 8 := by omega
        have hmay : mayL len l = true := mayL_mk hn8 fun q _ => by rw [hl]; exact mayP_add (by omega) (by omega) (by have := hK6 q; omega)
        have hln : ∀ q, (l q).n = Kf q + 1 := fun q => by rw [hl]; rfl
        obtain ⟨M, hM⟩ : ∃ M, runM len ⟨fun _ => 0, l⟩ picks NP = M := ⟨_, rfl⟩
        obtain ⟨hA, hW⟩ := adds_run (n := len) (at_ := fun _ => 0) (k := Kf) (fun _ _ => Int.le_refl 0) (fun q _ => by have := hK6 q; omega) (l := l) (fun q _ => by rw [hl]; exact add_start 0 (Kf q)) (m := fun _ => 0) (fun _ => rfl) picks NP
        rw [hM] at hA hW
        have hW := hW 0
        clear hi hlen h1
        refine AW_eff good tabN tabN_ok et0 (et0_ok _) [0] rfl rfl ?_ ?_
        · repeat' (first | exact trivial | exact rfl | exact (fun _ _ => rfl) | apply And.intro | intro _)
          all_goals (first | omega | exact of_decide_eq_true (by assumption) | decide | exact hmay | exact h6.1 | exact h6.2 | exact hbytes | exact hmx | exact prog_lit _ _ | exact procs_lit _ _ | (rename_i hg; exact hg) | (rename_i hg; change (_ : Bool) = true; rw [hg]; rfl) | (change (_ : Bool) = true; simp_all; done) | trace_state)
        refine AW_seq ?_
        refine AW_seq ?_
        refine AW_slot 8 (y := .cv (.one (uS 64 false M.m))) rfl (SLe.of_eq (congrArg (fun s : MSt => SV.cv (CV.one (uS 64 false s.m))) hM)) ?_
        refine AW_slot 9 (y := .cv (.one (prcS len false M.l))) rfl (SLe.of_eq (congrArg (fun s : MSt => SV.cv (CV.one (prcS len false s.l))) hM)) ?_
        refine AW_all good tabN tabN_ok rfl rfl ?_ ?_
        · repeat' (first | exact trivial | exact rfl | exact (fun _ _ => rfl) | apply And.intro | intro _)
          all_goals (first | omega | exact of_decide_eq_true (by assumption) | decide | exact hmay | exact h6.1 | exact h6.2 | exact hbytes | exact hmx | exact prog_lit _ _ | exact procs_lit _ _ | (rename_i hg; exact hg) | (rename_i hg; change (_ : Bool) = true; rw [hg]; rfl) | (change (_ : Bool) = true; simp_all; done) | trace_state)
        refine AW_cond rfl (fun h3 => ?_) (fun h3 => ?_)
        · first
          | (exfalso; simp_all; done)
          | (
              refine AW_seq ?_
              refine AW_all good tabN tabN_ok rfl rfl ?_ ?_
              · repeat' (first | exact trivial | exact rfl | exact (fun _ _ => rfl) | apply And.intro | intro _)
                all_goals (first | omega | exact of_decide_eq_true (by assumption) | decide | exact hmay | exact h6.1 | exact h6.2 | exact hbytes | exact hmx | exact prog_lit _ _ | exact procs_lit _ _ | (rename_i hg; exact hg) | (rename_i hg; change (_ : Bool) = true; rw [hg]; rfl) | (change (_ : Bool) = true; simp_all; done) | trace_state)
              refine AW_ret (bodyQ_ret rfl ?_ (Ends.intro rfl ?_ ?_))
              · repeat' (first | exact trivial | exact rfl | exact (fun _ _ => rfl) | apply And.intro | intro _)
                all_goals (first | omega | exact of_decide_eq_true (by assumption) | decide | exact hmay | exact h6.1 | exact h6.2 | exact hbytes | exact hmx | exact prog_lit _ _ | exact procs_lit _ _ | (rename_i hg; exact hg) | (rename_i hg; change (_ : Bool) = true; rw [hg]; rfl) | (change (_ : Bool) = true; simp_all; done) | trace_state)
              · repeat' (first | exact trivial | exact rfl | exact (fun _ _ => rfl) | apply And.intro | intro _)
                all_goals (first | omega | exact of_decide_eq_true (by assumption) | decide | exact hmay | exact h6.1 | exact h6.2 | exact hbytes | exact hmx | exact prog_lit _ _ | exact procs_lit _ _ | (rename_i hg; exact hg) | (rename_i hg; change (_ : Bool) = true; rw [hg]; rfl) | (change (_ : Bool) = true; simp_all; done) | trace_state)
              exact absurd h3 (by simp)
          )
        · first
          | (exfalso; simp_all; done)
          | (
              refine AW_skip ?_
              refine AW_seq ?_
              refine AW_all good tabN tabN_ok rfl rfl ?_ ?_
              · repeat' (first | exact trivial | exact rfl | exact (fun _ _ => rfl) | apply And.intro | intro _)
                all_goals (first | omega | exact of_decide_eq_true (by assumption) | decide | exact hmay | exact h6.1 | exact h6.2 | exact hbytes | exact hmx | exact prog_lit _ _ | exact procs_lit _ _ | (rename_i hg; exact hg) | (rename_i hg; change (_ : Bool) = true; rw [hg]; rfl) | (change (_ : Bool) = true; simp_all; done) | trace_state)
              refine AW_seq ?_
              refine AW_seq ?_
              refine AW_all good tabN tabN_ok rfl rfl ?_ ?_
              · repeat' (first | exact trivial | exact rfl | exact (fun _ _ => rfl) | apply And.intro | intro _)
                all_goals (first | omega | exact of_decide_eq_true (by assumption) | decide | exact hmay | exact h6.1 | exact h6.2 | exact hbytes | exact hmx | exact prog_lit _ _ | exact procs_lit _ _ | (rename_i hg; exact hg) | (rename_i hg; change (_ : Bool) = true; rw [hg]; rfl) | (change (_ : Bool) = true; simp_all; done) | trace_state)
              refine AW_block ?_
              refine AW_loopH 0 (fun j : { i : Nat // i ≤ len } => [(11, .cv (iint (addedN j.1 fun q => min (cnt picks q NP) (Kf q) : Nat))), (69, .cv (iint j.1)), (1, .cv (.one (iS NP false picks))), (5, .cv (.one (prcS len false l))), (8, .cv (.one (uS 64 false M.m))), (9, .cv (.one (prcS len false M.l))), (67, .cv (.one (prcS len false l))), (68, .cv (iint len))]) (fun _ => []) (fun j => len - j.1) ⟨0, Nat.zero_le _⟩ [] rfl rfl ?_ trivial ?_
              · exact ⟨SLe.of_eq rfl, SLe.of_eq rfl, SLe.of_eq rfl, SLe.of_eq rfl, SLe.of_eq rfl, SLe.of_eq rfl, SLe.of_eq rfl, SLe.of_eq rfl, trivial⟩
              rintro ⟨i, hi⟩
              dsimp only
              refine AW_seq ?_
              refine AW_all good tabN tabN_ok rfl rfl ?_ ?_
              · repeat' (first | exact trivial | exact rfl | exact (fun _ _ => rfl) | apply And.intro | intro _)
                all_goals (first | omega | exact of_decide_eq_true (by assumption) | decide | exact hmay | exact h6.1 | exact h6.2 | exact hbytes | exact hmx | exact prog_lit _ _ | exact procs_lit _ _ | (rename_i hg; exact hg) | (rename_i hg; change (_ : Bool) = true; rw [hg]; rfl) | (change (_ : Bool) = true; simp_all; done) | trace_state)
              refine AW_seq ?_
              refine AW_cond rfl (fun h4 => ?_) (fun h4 => ?_)
              · first
                | (exfalso; simp_all; done)
                | (
                    refine AW_skip ?_
                    refine AW_seq ?_
                    refine AW_block ?_
                    refine AW_seq ?_
                    refine AW_all good tabN tabN_ok rfl rfl ?_ ?_
                    · repeat' (first | exact trivial | exact rfl | exact (fun _ _ => rfl) | apply And.intro | intro _)
                      all_goals (first | omega | exact of_decide_eq_true (by assumption) | decide | exact hmay | exact h6.1 | exact h6.2 | exact hbytes | exact hmx | exact prog_lit _ _ | exact procs_lit _ _ | (rename_i hg; exact hg) | (rename_i hg; change (_ : Bool) = true; rw [hg]; rfl) | (change (_ : Bool) = true; simp_all; done) | trace_state)
                    refine AW_seq ?_
                    refine AW_all good tabN tabN_ok rfl rfl ?_ ?_
                    · repeat' (first | exact trivial | exact rfl | exact (fun _ _ => rfl) | apply And.intro | intro _)
                      all_goals (first | omega | exact of_decide_eq_true (by assumption) | decide | exact hmay | exact h6.1 | exact h6.2 | exact hbytes | exact hmx | exact prog_lit _ _ | exact procs_lit _ _ | (rename_i hg; exact hg) | (rename_i hg; change (_ : Bool) = true; rw [hg]; rfl) | (change (_ : Bool) = true; simp_all; done) | trace_state)
                    refine AW_seq ?_
                    refine AW_seq ?_
                    refine AW_all good tabN tabN_ok rfl rfl ?_ ?_
                    · repeat' (first | exact trivial | exact rfl | exact (fun _ _ => rfl) | apply And.intro | intro _)
                      all_goals (first | omega | exact of_decide_eq_true (by assumption) | decide | exact hmay | exact h6.1 | exact h6.2 | exact hbytes | exact hmx | exact prog_lit _ _ | exact procs_lit _ _ | (rename_i hg; exact hg) | (rename_i hg; change (_ : Bool) = true; rw [hg]; rfl) | (change (_ : Bool) = true; simp_all; done) | trace_state)
                    refine AW_block ?_
                    refine AW_loopH 1 (fun j : { j : Nat // j ≤ NP } => [(14, .cv (iint (cnt picks i j.1 : Nat))), (74, .cv (.one (iS NP false picks))), (75, .cv (iint NP)), (76, .cv (iint j.1)), (12, .cv (iint i)), (13, .cv (.one (.own 0 0 0 0))), (11, .cv (iint (addedN i fun q => min (cnt picks q NP) (Kf q) : Nat))), (69, .cv (iint i)), (1, .cv (.one (iS NP false picks))), (5, .cv (.one (prcS len false l))), (8, .cv (.one (uS 64 false M.m))), (9, .cv (.one (prcS len false M.l))), (67, .cv (.one (prcS len false l))), (68, .cv (iint len))]) (fun _ => [(0, .var 54 [.imm (prcI (l i) 0), .imm (prcI (l i) 1), .imm (prcI (l i) 2), .imm (prcI (l i) 3), .imm (prcI (l i) 4), .imm (prcI (l i) 5), .imm (prcI (l i) 6), .imm (prcI (l i) 7)])]) (fun j => NP - j.1) ⟨0, Nat.zero_le _⟩ [0] rfl rfl ?_ ?_ ?_
                    · exact ⟨SLe.of_eq rfl, SLe.of_eq rfl, SLe.of_eq rfl, SLe.of_eq rfl, SLe.of_eq rfl, SLe.of_eq rfl, SLe.of_eq rfl, SLe.of_eq rfl, SLe.of_eq rfl, SLe.of_eq rfl, SLe.of_eq rfl, SLe.of_eq rfl, SLe.of_eq rfl, SLe.of_eq rfl, trivial⟩
                    · exact ⟨⟨rfl, _, rfl, BLe.of_eq rfl⟩, trivial⟩
                    rintro ⟨j, hj⟩
                    dsimp only
                    refine AW_seq ?_
                    refine AW_all good tabN tabN_ok rfl rfl ?_ ?_
                    · repeat' (first | exact trivial | exact rfl | exact (fun _ _ => rfl) | apply And.intro | intro _)
                      all_goals (first | omega | exact of_decide_eq_true (by assumption) | decide | exact hmay | exact h6.1 | exact h6.2 | exact hbytes | exact hmx | exact prog_lit _ _ | exact procs_lit _ _ | (rename_i hg; exact hg) | (rename_i hg; change (_ : Bool) = true; rw [hg]; rfl) | (change (_ : Bool) = true; simp_all; done) | trace_state)
                    refine AW_seq ?_
                    refine AW_cond rfl (fun h5 => ?_) (fun h5 => ?_)
                    · first
                      | (exfalso; simp_all; done)
                      | (
                          refine AW_skip ?_
                          refine AW_seq ?_
                          refine AW_block ?_
                          refine AW_seq ?_
                          refine AW_all good tabN tabN_ok rfl rfl ?_ ?_
                          · repeat' (first | exact trivial | exact rfl | exact (fun _ _ => rfl) | apply And.intro | intro _)
                            all_goals (first | omega | exact of_decide_eq_true (by assumption) | decide | exact hmay | exact h6.1 | exact h6.2 | exact hbytes | exact hmx | exact prog_lit _ _ | exact procs_lit _ _ | (rename_i hg; exact hg) | (rename_i hg; change (_ : Bool) = true; rw [hg]; rfl) | (change (_ : Bool) = true; simp_all; done) | trace_state)
                          refine AW_seq ?_
                          refine AW_all good tabN tabN_ok rfl rfl ?_ ?_
                          · repeat' (first | exact trivial | exact rfl | exact (fun _ _ => rfl) | apply And.intro | intro _)
                            all_goals (first | omega | exact of_decide_eq_true (by assumption) | decide | exact hmay | exact h6.1 | exact h6.2 | exact hbytes | exact hmx | exact prog_lit _ _ | exact procs_lit _ _ | (rename_i hg; exact hg) | (rename_i hg; change (_ : Bool) = true; rw [hg]; rfl) | (change (_ : Bool) = true; simp_all; done) | trace_state)
                          refine AW_cond rfl (fun h6 => ?_) (fun h6 => ?_)
                          · first
                            | (exfalso; simp_all; done)
                            | (
                                refine AW_all good tabN tabN_ok rfl rfl ?_ ?_
                                · repeat' (first | exact trivial | exact rfl | exact (fun _ _ => rfl) | apply And.intro | intro _)
                                  all_goals (first | omega | exact of_decide_eq_true (by assumption) | decide | exact hmay | exact h6.1 | exact h6.2 | exact hbytes | exact hmx | exact prog_lit _ _ | exact procs_lit _ _ | (rename_i hg; exact hg) | (rename_i hg; change (_ : Bool) = true; rw [hg]; rfl) | (change (_ : Bool) = true; simp_all; done) | trace_state)
                                refine AW_all good tabN tabN_ok rfl rfl ?_ ?_
                                · repeat' (first | exact trivial | exact rfl | exact (fun _ _ => rfl) | apply And.intro | intro _)
                                  all_goals (first | omega | exact of_decide_eq_true (by assumption) | decide | exact hmay | exact h6.1 | exact h6.2 | exact hbytes | exact hmx | exact prog_lit _ _ | exact procs_lit _ _ | (rename_i hg; exact hg) | (rename_i hg; change (_ : Bool) = true; rw [hg]; rfl) | (change (_ : Bool) = true; simp_all; done) | trace_state)
                                have hltj : j < NP := by simpa using h5
                                refine loopH_next ⟨j + 1, hltj⟩ [0] rfl rfl ⟨SLe.of_eq (congrArg (fun z => SV.cv (iint z)) ?_), SLe.of_eq rfl, SLe.of_eq rfl, SLe.of_eq (congrArg (fun z => SV.cv (iint z)) (next_int j NP hltj (by simp only [maxLen]; omega))), SLe.of_eq rfl, SLe.of_eq rfl, SLe.of_eq rfl, SLe.of_eq rfl, SLe.of_eq rfl, SLe.of_eq rfl, SLe.of_eq rfl, SLe.of_eq rfl, SLe.of_eq rfl, SLe.of_eq rfl, trivial⟩ ⟨⟨rfl, _, rfl, BLe.of_eq rfl⟩, trivial⟩ ?_
                                · exact (cnt_in picks i j hj (by omega) h6).symm
                                show NP - (j + 1) < NP - j
                                omega
                            )
                          · first
                            | (exfalso; simp_all; done)
                            | (
                                refine AW_skip ?_
                                refine AW_all good tabN tabN_ok rfl rfl ?_ ?_
                                · repeat' (first | exact trivial | exact rfl | exact (fun _ _ => rfl) | apply And.intro | intro _)
                                  all_goals (first | omega | exact of_decide_eq_true (by assumption) | decide | exact hmay | exact h6.1 | exact h6.2 | exact hbytes | exact hmx | exact prog_lit _ _ | exact procs_lit _ _ | (rename_i hg; exact hg) | (rename_i hg; change (_ : Bool) = true; rw [hg]; rfl) | (change (_ : Bool) = true; simp_all; done) | trace_state)
                                have hltj : j < NP := by simpa using h5
                                refine loopH_next ⟨j + 1, hltj⟩ [0] rfl rfl ⟨SLe.of_eq (congrArg (fun z => SV.cv (iint z)) ?_), SLe.of_eq rfl, SLe.of_eq rfl, SLe.of_eq (congrArg (fun z => SV.cv (iint z)) (next_int j NP hltj (by simp only [maxLen]; omega))), SLe.of_eq rfl, SLe.of_eq rfl, SLe.of_eq rfl, SLe.of_eq rfl, SLe.of_eq rfl, SLe.of_eq rfl, SLe.of_eq rfl, SLe.of_eq rfl, SLe.of_eq rfl, SLe.of_eq rfl, trivial⟩ ⟨⟨rfl, _, rfl, BLe.of_eq rfl⟩, trivial⟩ ?_
                                · exact (cnt_out picks i j h6).symm
                                show NP - (j + 1) < NP - j
                                omega
                            )
                      )
                    · first
                      | (exfalso; simp_all; done)
                      | (
                          refine AW_exit ?_
                          refine AW_seq ?_
                          refine AW_all good tabN tabN_ok rfl rfl ?_ ?_
                          · repeat' (first | exact trivial | exact rfl | exact (fun _ _ => rfl) | apply And.intro | intro _)
                            all_goals (first | omega | exact of_decide_eq_true (by assumption) | decide | exact hmay | exact h6.1 | exact h6.2 | exact hbytes | exact hmx | exact prog_lit _ _ | exact procs_lit _ _ | (rename_i hg; exact hg) | (rename_i hg; change (_ : Bool) = true; rw [hg]; rfl) | (change (_ : Bool) = true; simp_all; done) | trace_state)
                          refine AW_seq ?_
                          refine AW_seq ?_
                          have hlt : i < len := by simpa using h4
                          have hcl := cnt_le picks i NP
                          refine AW_slot 17 (y := .cv (iint (min (cnt picks i NP) (Kf i + 1) : Nat))) rfl (SLe.of_eq (congrArg (fun z => SV.cv (iint z)) ?_)) ?_
                          · have := hln i
                            have hj2 : j = NP := by
                              have : ¬ j < NP := by simpa using h5
                              omega
                            subst hj2
                            rw [hln]
                            split <;> omega
                          refine AW_drwE good rfl tabN tabN_ok rfl rfl rfl rfl ?_ ?_
                          · repeat' (first | exact trivial | exact rfl | exact (fun _ _ => rfl) | apply And.intro | intro _)
                            all_goals (first | omega | exact of_decide_eq_true (by assumption) | decide | exact hmay | exact h6.1 | exact h6.2 | exact hbytes | exact hmx | exact prog_lit _ _ | exact procs_lit _ _ | (rename_i hg; exact hg) | (rename_i hg; change (_ : Bool) = true; rw [hg]; rfl) | (change (_ : Bool) = true; simp_all; done) | trace_state)
                          refine AW_cond rfl (fun h7 => ?_) (fun h7 => ?_)
                          · first
                            | (exfalso; simp_all; done)
                            | (
                                refine AW_seq ?_
                                refine AW_all good tabN tabN_ok rfl rfl ?_ ?_
                                · repeat' (first | exact trivial | exact rfl | exact (fun _ _ => rfl) | apply And.intro | intro _)
                                  all_goals (first | omega | exact of_decide_eq_true (by assumption) | decide | exact hmay | exact h6.1 | exact h6.2 | exact hbytes | exact hmx | exact prog_lit _ _ | exact procs_lit _ _ | (rename_i hg; exact hg) | (rename_i hg; change (_ : Bool) = true; rw [hg]; rfl) | (change (_ : Bool) = true; simp_all; done) | trace_state)
                                refine AW_ret (bodyQ_ret rfl ?_ (Ends.intro rfl ?_ ?_))
                                · repeat' (first | exact trivial | exact rfl | exact (fun _ _ => rfl) | apply And.intro | intro _)
                                  all_goals (first | omega | exact of_decide_eq_true (by assumption) | decide | exact hmay | exact h6.1 | exact h6.2 | exact hbytes | exact hmx | exact prog_lit _ _ | exact procs_lit _ _ | (rename_i hg; exact hg) | (rename_i hg; change (_ : Bool) = true; rw [hg]; rfl) | (change (_ : Bool) = true; simp_all; done) | trace_state)
                                · repeat' (first | exact trivial | exact rfl | exact (fun _ _ => rfl) | apply And.intro | intro _)
                                  all_goals (first | omega | exact of_decide_eq_true (by assumption) | decide | exact hmay | exact h6.1 | exact h6.2 | exact hbytes | exact hmx | exact prog_lit _ _ | exact procs_lit _ _ | (rename_i hg; exact hg) | (rename_i hg; change (_ : Bool) = true; rw [hg]; rfl) | (change (_ : Bool) = true; simp_all; done) | trace_state)
                                exfalso
                                have hlt : i < len := by simpa using h4
                                have hq := hA i hlt
                                have e1 : ((M.l i).took != ((min (cnt picks i NP) (Kf i + 1) : Nat) : Int)) = false := by rw [hq.took]; simp
                                have e2 : ((M.l i).done != (((min (cnt picks i NP) (Kf i + 1) : Nat) : Int) == ((l i).n : Int))) = false := by
                                  rw [hq.done, hln, beq_cast]
                                  simp
                                have h : (bif (M.l i).took != ((min (cnt picks i NP) (Kf i + 1) : Nat) : Int) then true else (M.l i).done != (((min (cnt picks i NP) (Kf i + 1) : Nat) : Int) == ((l i).n : Int))) = true := h7
                                rw [e1, e2] at h
                                cases h
                            )
                          · first
                            | (exfalso; simp_all; done)
                            | (
                                refine AW_skip ?_
                                refine AW_all good tabN tabN_ok rfl rfl ?_ ?_
                                · repeat' (first | exact trivial | exact rfl | exact (fun _ _ => rfl) | apply And.intro | intro _)
                                  all_goals (first | omega | exact of_decide_eq_true (by assumption) | decide | exact hmay | exact h6.1 | exact h6.2 | exact hbytes | exact hmx | exact prog_lit _ _ | exact procs_lit _ _ | (rename_i hg; exact hg) | (rename_i hg; change (_ : Bool) = true; rw [hg]; rfl) | (change (_ : Bool) = true; simp_all; done) | trace_state)
                                refine AW_all good tabN tabN_ok rfl rfl ?_ ?_
                                · repeat' (first | exact trivial | exact rfl | exact (fun _ _ => rfl) | apply And.intro | intro _)
                                  all_goals (first | omega | exact of_decide_eq_true (by assumption) | decide | exact hmay | exact h6.1 | exact h6.2 | exact hbytes | exact hmx | exact prog_lit _ _ | exact procs_lit _ _ | (rename_i hg; exact hg) | (rename_i hg; change (_ : Bool) = true; rw [hg]; rfl) | (change (_ : Bool) = true; simp_all; done) | trace_state)
                                have hlt : i < len := by simpa using h4
                                refine loopH_next ⟨i + 1, hlt⟩ [] rfl rfl ⟨SLe.of_eq (congrArg (fun z => SV.cv (iint z)) ?_), SLe.of_eq (congrArg (fun z => SV.cv (iint z)) (next_int i len hlt (by simp only [maxLen]; omega))), SLe.of_eq rfl, SLe.of_eq rfl, SLe.of_eq rfl, SLe.of_eq rfl, SLe.of_eq rfl, SLe.of_eq rfl, trivial⟩ trivial ?_
                                · have h1 : addedN i (fun q => min (cnt picks q NP) (Kf q)) ≤ i * 6 := addedN_le fun q => by have := hK6 q; omega
                                  have h2 := hK6 i
                                  show _ = ((addedN (i + 1) fun q => min (cnt picks q NP) (Kf q) : Nat) : Int)
                                  rw [addedN_succ, hln]
                                  simp only [IntKind.wrap_i64]
                                  split <;> omega
                                show len - (i + 1) < len - i
                                omega
                            )
                      )
                )
              · first
                | (exfalso; simp_all; done)
                | (
                    refine AW_exit ?_
                    refine AW_seq ?_
                    refine AW_all good tabN tabN_ok rfl rfl ?_ ?_
                    · repeat' (first | exact trivial | exact rfl | exact (fun _ _ => rfl) | apply And.intro | intro _)
                      all_goals (first | omega | exact of_decide_eq_true (by assumption) | decide | exact hmay | exact h6.1 | exact h6.2 | exact hbytes | exact hmx | exact prog_lit _ _ | exact procs_lit _ _ | (rename_i hg; exact hg) | (rename_i hg; change (_ : Bool) = true; rw [hg]; rfl) | (change (_ : Bool) = true; simp_all; done) | trace_state)
                    refine AW_ret (bodyQ_ret rfl ?_ (Ends.intro rfl ?_ ?_))
                    · repeat' (first | exact trivial | exact rfl | exact (fun _ _ => rfl) | apply And.intro | intro _)
                      all_goals (first | omega | exact of_decide_eq_true (by assumption) | decide | exact hmay | exact h6.1 | exact h6.2 | exact hbytes | exact hmx | exact prog_lit _ _ | exact procs_lit _ _ | (rename_i hg; exact hg) | (rename_i hg; change (_ : Bool) = true; rw [hg]; rfl) | (change (_ : Bool) = true; simp_all; done) | trace_state)
                    · repeat' (first | exact trivial | exact rfl | exact (fun _ _ => rfl) | apply And.intro | intro _)
                      all_goals (first | omega | exact of_decide_eq_true (by assumption) | decide | exact hmay | exact h6.1 | exact h6.2 | exact hbytes | exact hmx | exact prog_lit _ _ | exact procs_lit _ _ | (rename_i hg; exact hg) | (rename_i hg; change (_ : Bool) = true; rw [hg]; rfl) | (change (_ : Bool) = true; simp_all; done) | trace_state)
                    have he : i = len := by
                      have : ¬ i < len := by simpa using h4
                      omega
                    subst he
                    refine ret_bool ?_
                    have h : M.m 0 = IntKind.u64.wrap ((addedN i fun q => min (cnt picks q NP) (Kf q) : Nat) : Int) := hW
                    rw [show M.m (Int.toNat 0) = _ from h]
                    simp
                )
          )
    )
end Go.Proofs.Ytndfcbcmeeemfaa.Abs
