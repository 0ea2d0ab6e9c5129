/-
  THE LAW MachineApart as a contract.
-/
import Derived.Test.YtndfcbcmeeemfaaM17
namespace Go.Proofs.Ytndfcbcmeeemfaa.Abs
open Go
set_option maxRecDepth 10000

def at1 (I : Ins) : Ins := ⟨I.kd, I.rg, 1, I.a, I.b⟩
def lA (P : Prc) (others : Nat → Int) (q : Nat) : Prc := bif Nat.beq q 0 then P else addsP ((2 + (q - 1) : Nat) : Int) (offW (others (q - 1)) 6)
theorem lA_succ (P : Prc) (others : Nat → Int) (i : Nat) : lA P others (i + 1) = addsP ((2 + i : Nat) : Int) (offW (others i) 6) := rfl
theorem cnt_in' (picks : Nat → Int) (i j : Nat) (h : (picks j == (i : Int)) = true) : cnt picks i (j + 1) = cnt picks i j + 1 := by
  show cnt picks i j + (bif picks j == (i : Int) then 1 else 0) = _
  rw [h]
  rfl
theorem cnt_out' (picks : Nat → Int) (i j : Nat) (h : (picks j == (i : Int)) = false) : cnt picks i (j + 1) = cnt picks i j := by
  show cnt picks i j + (bif picks j == (i : Int) then 1 else 0) = _
  rw [h]
  rfl

theorem at1_step {i q c : Nat} {prog : Nat → Ins} (hc : c < 5) : (bif Nat.beq q (0 + (i : Int).toNat) && (Nat.ble (0 + 2) c && Nat.blt c (0 + 2 + lay3.size)) then [ivOf (Value.int IntKind.i64 1)].getD (c - (0 + 2)) ivDef else insI (bif Nat.blt q i then at1 (prog q) else prog q) c) = insI (bif Nat.blt q (i + 1) then at1 (prog q) else prog q) c := by
  show (bif Nat.beq q (0 + i) && (Nat.ble 2 c && Nat.blt c 3) then _ else _) = _
  rw [Nat.zero_add]
  rcases Nat.lt_trichotomy q i with h | h | h
  · have h1 : Nat.blt q i = true := Nat.ble_eq_true_of_le h
    have h2 : Nat.blt q (i + 1) = true := Nat.ble_eq_true_of_le (by omega)
    have h3 : Nat.beq q i = false := by
      cases hb : Nat.beq q i with
      | false => rfl
      | true => have := Nat.eq_of_beq_eq_true hb; omega
    rw [h1, h2, h3]
    rfl
  · subst h
    have h1 : Nat.blt q q = false := by
      cases hb : Nat.blt q q with
      | false => rfl
      | true => have : q < q := Nat.le_of_ble_eq_true hb; omega
    have h2 : Nat.blt q (q + 1) = true := Nat.ble_eq_true_of_le (by omega)
    rw [h1, h2, Nat.beq_refl]
    match c, hc with
    | 0, _ => rfl
    | 1, _ => rfl
    | 2, _ => rfl
    | 3, _ => rfl
    | 4, _ => rfl
  · have h1 : Nat.blt q i = false := by
      cases hb : Nat.blt q i with
      | false => rfl
      | true => have : q < i := Nat.le_of_ble_eq_true hb; omega
    have h2 : Nat.blt q (i + 1) = false := by
      cases hb : Nat.blt q (i + 1) with
      | false => rfl
      | true => have : q < i + 1 := Nat.le_of_ble_eq_true hb; omega
    have h3 : Nat.beq q i = false := by
      cases hb : Nat.beq q i with
      | false => rfl
      | true => have := Nat.eq_of_beq_eq_true hb; omega
    rw [h1, h2, h3]
    rfl

theorem apart11 (p : Prc) (no : Nat) (ex : Bool) (others : Nat → Int) (np : Nat) (ex' : Bool) (picks : Nat → Int) : PCall Try.prog 11 [prcC p, .one (iS no ex others), .one (iS np ex' picks)] (.cv (ibool true)) := by
  refine PCall_of (ACall_body good Try.func11 rfl 148 rfl (by simp) ?_)
  refine AW_lenle 1 rfl (fun hm => ?_)
  refine AW_seq ?_
  refine AW_all good tabP tabP_ok rfl rfl ?_ ?_
  · repeat' (first | exact trivial | exact rfl | exact (fun _ _ => rfl) | refine And.intro ?_ ?_ | intro _)
    all_goals (first | omega | exact of_decide_eq_true (by assumption) | decide | exact hmay | exact hmay2 | exact hmay1 | exact hlm _ | exact h6.1 | exact h6.2 | exact hbytes | exact hmx | exact hmx1 | exact prog_lit _ _ | exact procs_lit _ _ | (rename_i hg; exact hg) | (rename_i hg; change (_ : Bool) = true; rw [hg]; rfl) | (change (_ : Bool) = true; simp_all; done) | trace_state)
  refine AW_seq ?_
  refine AW_all good tabP tabP_ok rfl rfl ?_ ?_
  · repeat' (first | exact trivial | exact rfl | exact (fun _ _ => rfl) | refine And.intro ?_ ?_ | intro _)
    all_goals (first | omega | exact of_decide_eq_true (by assumption) | decide | exact hmay | exact hmay2 | exact hmay1 | exact hlm _ | exact h6.1 | exact h6.2 | exact hbytes | exact hmx | exact hmx1 | exact prog_lit _ _ | exact procs_lit _ _ | (rename_i hg; exact hg) | (rename_i hg; change (_ : Bool) = true; rw [hg]; rfl) | (change (_ : Bool) = true; simp_all; done) | trace_state)
  refine AW_seq ?_
  obtain ⟨P1, hP1⟩ : ∃ P1, P1 = fewP p := ⟨_, rfl⟩
  have hn66 : P1.n ≤ 66 := by
    rw [hP1]
    show min p.n 66 ≤ 66
    omega
  refine AW_tell [(1, .cv (.one (iS no ex others))), (2, .cv (.one (iS np ex' picks))), (3, .cv (.one (.own 0 0 0 0)))] [(0, .var 54 [.imm (prcI P1 0), .imm (prcI P1 1), .imm (prcI P1 2), .imm (prcI P1 3), .imm (prcI P1 4), .imm (prcI P1 5), .imm (prcI P1 6), .imm (prcI P1 7)])] [0] rfl rfl ⟨SLe.of_eq rfl, SLe.of_eq rfl, SLe.of_eq rfl, trivial⟩ ⟨⟨rfl, _, rfl, BLe.var ⟨CLe.of_eq ?_, CLe.of_eq ?_, CLe.of_eq ?_, CLe.of_eq ?_, CLe.of_eq ?_, CLe.of_eq ?_, CLe.of_eq ?_, CLe.of_eq ?_, trivial⟩⟩, trivial⟩ ?_
  iterate 8 (· rw [hP1]; rfl)
  obtain ⟨N0, prog, pat, r0, r1, r2, r3, done, took⟩ := P1
  clear hP1
  have hn66 : N0 ≤ 66 := hn66
  have hmx1 : N0 ≤ maxLen := by simp only [maxLen]; omega
  have hbytes : (0 + N0) * lay67.bytes ≤ 140737488355328 := by
    show (0 + N0) * 40 ≤ _
    omega
  have hmx : 0 + N0 ≤ maxLen := by omega
  refine AW_all good tabP tabP_ok rfl rfl ?_ ?_
  · repeat' (first | exact trivial | exact rfl | exact (fun _ _ => rfl) | refine And.intro ?_ ?_ | intro _)
    all_goals (first | omega | exact of_decide_eq_true (by assumption) | decide | exact hmay | exact hmay2 | exact hmay1 | exact hlm _ | exact h6.1 | exact h6.2 | exact hbytes | exact hmx | exact hmx1 | exact prog_lit _ _ | exact procs_lit _ _ | (rename_i hg; exact hg) | (rename_i hg; change (_ : Bool) = true; rw [hg]; rfl) | (change (_ : Bool) = true; simp_all; done) | trace_state)
  refine AW_seq ?_
  refine AW_seq ?_
  refine AW_all good tabP tabP_ok rfl rfl ?_ ?_
  · repeat' (first | exact trivial | exact rfl | exact (fun _ _ => rfl) | refine And.intro ?_ ?_ | intro _)
    all_goals (first | omega | exact of_decide_eq_true (by assumption) | decide | exact hmay | exact hmay2 | exact hmay1 | exact hlm _ | exact h6.1 | exact h6.2 | exact hbytes | exact hmx | exact hmx1 | exact prog_lit _ _ | exact procs_lit _ _ | (rename_i hg; exact hg) | (rename_i hg; change (_ : Bool) = true; rw [hg]; rfl) | (change (_ : Bool) = true; simp_all; done) | trace_state)
  refine AW_block ?_
  refine AW_loopH 2 (fun j : { j : Nat // j ≤ N0 } => [(1, .cv (.one (iS no ex others))), (2, .cv (.one (iS np ex' picks))), (3, .cv (.one (.own 0 0 0 0))), (29, .cv (iint N0)), (30, .cv (iint j.1))]) (fun j => [(0, .var 54 [.osl 1 5 0 0 N0 true, .imm (.val (.int .i64 pat)), .imm (.val (.int .u64 r0)), .imm (.val (.int .u64 r1)), .imm (.val (.int .u64 r2)), .imm (.val (.int .u64 r3)), .imm (.val (.bool done)), .imm (.val (.int .i64 took))]), (1, .rows 67 5 N0 fun q c => insI (bif Nat.blt q j.1 then at1 (prog q) else prog q) c)]) (fun j => N0 - j.1) ⟨0, Nat.zero_le _⟩ [0, 2] rfl rfl ?_ ?_ ?_
  · exact ⟨SLe.of_eq rfl, SLe.of_eq rfl, SLe.of_eq rfl, SLe.of_eq (congrArg (fun z : Nat => SV.cv (iint z)) (Nat.zero_add N0)), SLe.of_eq rfl, trivial⟩
  · refine ⟨⟨rfl, _, rfl, BLe.var ⟨CLe.of_eq (congrArg (fun z : Nat => CV.one (AV.osl 2 5 0 0 z true)) (Nat.zero_add N0)), CLe.of_eq rfl, CLe.of_eq rfl, CLe.of_eq rfl, CLe.of_eq rfl, CLe.of_eq rfl, CLe.of_eq rfl, CLe.of_eq rfl, trivial⟩⟩, ⟨rfl, _, rfl, BLe.rows (Nat.zero_add N0).symm fun q c hq hc => ILe.of_eq ?_⟩, trivial⟩
    have hb : Nat.blt q 0 = false := by
      cases hb : Nat.blt q 0 with
      | false => rfl
      | true => have : q < 0 := Nat.le_of_ble_eq_true hb; omega
    rw [hb]
    rfl
  rintro ⟨i, hi⟩
  dsimp only at hi ⊢
  refine AW_seq ?_
  refine AW_all good tabP tabP_ok rfl rfl ?_ ?_
  · repeat' (first | exact trivial | exact rfl | exact (fun _ _ => rfl) | refine And.intro ?_ ?_ | intro _)
    all_goals (first | omega | exact of_decide_eq_true (by assumption) | decide | exact hmay | exact hmay2 | exact hmay1 | exact hlm _ | exact h6.1 | exact h6.2 | exact hbytes | exact hmx | exact hmx1 | exact prog_lit _ _ | exact procs_lit _ _ | (rename_i hg; exact hg) | (rename_i hg; change (_ : Bool) = true; rw [hg]; rfl) | (change (_ : Bool) = true; simp_all; done) | trace_state)
  refine AW_seq ?_
  refine AW_cond rfl (fun h1 => ?_) (fun h1 => ?_)
  · first
    | (exfalso; simp_all; done)
    | (
        refine AW_skip ?_
        refine AW_seq ?_
        refine AW_block ?_
        refine AW_seq ?_
        refine AW_all good tabP tabP_ok rfl rfl ?_ ?_
        · repeat' (first | exact trivial | exact rfl | exact (fun _ _ => rfl) | refine And.intro ?_ ?_ | intro _)
          all_goals (first | omega | exact of_decide_eq_true (by assumption) | decide | exact hmay | exact hmay2 | exact hmay1 | exact hlm _ | exact h6.1 | exact h6.2 | exact hbytes | exact hmx | exact hmx1 | exact prog_lit _ _ | exact procs_lit _ _ | (rename_i hg; exact hg) | (rename_i hg; change (_ : Bool) = true; rw [hg]; rfl) | (change (_ : Bool) = true; simp_all; done) | trace_state)
        have hlt : i < N0 := by simpa using h1
        refine AW_all good tabP tabP_ok rfl rfl ?_ ?_
        · repeat' (first | exact trivial | exact rfl | exact (fun _ _ => rfl) | refine And.intro ?_ ?_ | intro _)
          all_goals (first | omega | exact of_decide_eq_true (by assumption) | decide | exact hmay | exact hmay2 | exact hmay1 | exact hlm _ | exact h6.1 | exact h6.2 | exact hbytes | exact hmx | exact hmx1 | exact prog_lit _ _ | exact procs_lit _ _ | (rename_i hg; exact hg) | (rename_i hg; change (_ : Bool) = true; rw [hg]; rfl) | (change (_ : Bool) = true; simp_all; done) | trace_state)
        refine AW_all good tabP tabP_ok rfl rfl ?_ ?_
        · repeat' (first | exact trivial | exact rfl | exact (fun _ _ => rfl) | refine And.intro ?_ ?_ | intro _)
          all_goals (first | omega | exact of_decide_eq_true (by assumption) | decide | exact hmay | exact hmay2 | exact hmay1 | exact hlm _ | exact h6.1 | exact h6.2 | exact hbytes | exact hmx | exact hmx1 | exact prog_lit _ _ | exact procs_lit _ _ | (rename_i hg; exact hg) | (rename_i hg; change (_ : Bool) = true; rw [hg]; rfl) | (change (_ : Bool) = true; simp_all; done) | trace_state)
        have hlt : i < N0 := by simpa using h1
        refine loopH_next ⟨i + 1, hlt⟩ [0, 1] rfl rfl ⟨SLe.of_eq rfl, SLe.of_eq rfl, SLe.of_eq rfl, SLe.of_eq rfl, SLe.of_eq (congrArg (fun z => SV.cv (iint z)) (next_int i N0 hlt hmx1)), trivial⟩ ⟨⟨rfl, _, rfl, BLe.of_eq rfl⟩, ⟨rfl, _, rfl, BLe.rows rfl fun q c hq hc => ILe.of_eq (at1_step hc)⟩, trivial⟩ ?_
        show N0 - (i + 1) < N0 - i
        omega
    )
  · first
    | (exfalso; simp_all; done)
    | (
        refine AW_exit ?_
        refine AW_seq ?_
        refine AW_seq ?_
        have he : i = N0 := by
          have : ¬ i < N0 := by simpa using h1
          omega
        subst he
        refine AW_giveV 1 0 0 rfl rfl rfl rfl (by omega) ?_
        obtain ⟨P, hP⟩ : ∃ P : Prc, P = ⟨i, fun q => at1 (prog q), pat, r0, r1, r2, r3, done, took⟩ := ⟨_, rfl⟩
        refine AW_tell [(1, .cv (.one (iS no ex others))), (2, .cv (.one (iS np ex' picks))), (3, .cv (.one (.own 0 0 0 0)))] [(0, .var 54 [.imm (progI i fun q => at1 (prog q)), .imm (.val (.int .i64 pat)), .imm (.val (.int .u64 r0)), .imm (.val (.int .u64 r1)), .imm (.val (.int .u64 r2)), .imm (.val (.int .u64 r3)), .imm (.val (.bool done)), .imm (.val (.int .i64 took))])] [0] rfl rfl ⟨SLe.of_eq rfl, SLe.of_eq rfl, SLe.of_eq rfl, trivial⟩ ⟨⟨rfl, _, rfl, BLe.var ⟨CLe.imm (ILe.sl rfl (by simp) (.inr ⟨rfl, fun q c hq hc => ILe.of_eq ?_⟩)), CLe.of_eq rfl, CLe.of_eq rfl, CLe.of_eq rfl, CLe.of_eq rfl, CLe.of_eq rfl, CLe.of_eq rfl, CLe.of_eq rfl, trivial⟩⟩, trivial⟩ ?_
        · rw [Nat.zero_add]
          show insI (bif Nat.blt q i then at1 (prog q) else prog q) c = _
          rw [show Nat.blt q i = true from Nat.ble_eq_true_of_le hq]
          rfl
        refine AW_all good tabP tabP_ok rfl rfl ?_ ?_
        · repeat' (first | exact trivial | exact rfl | exact (fun _ _ => rfl) | refine And.intro ?_ ?_ | intro _)
          all_goals (first | omega | exact of_decide_eq_true (by assumption) | decide | exact hmay | exact hmay2 | exact hmay1 | exact hlm _ | exact h6.1 | exact h6.2 | exact hbytes | exact hmx | exact hmx1 | exact prog_lit _ _ | exact procs_lit _ _ | (rename_i hg; exact hg) | (rename_i hg; change (_ : Bool) = true; rw [hg]; rfl) | (change (_ : Bool) = true; simp_all; done) | trace_state)
        refine AW_cond rfl (fun h2 => ?_) (fun h2 => ?_)
        · first
          | (exfalso; simp_all; done)
          | (
              refine AW_seq ?_
              refine AW_all good tabP tabP_ok rfl rfl ?_ ?_
              · repeat' (first | exact trivial | exact rfl | exact (fun _ _ => rfl) | refine And.intro ?_ ?_ | intro _)
                all_goals (first | omega | exact of_decide_eq_true (by assumption) | decide | exact hmay | exact hmay2 | exact hmay1 | exact hlm _ | exact h6.1 | exact h6.2 | exact hbytes | exact hmx | exact hmx1 | exact prog_lit _ _ | exact procs_lit _ _ | (rename_i hg; exact hg) | (rename_i hg; change (_ : Bool) = true; rw [hg]; rfl) | (change (_ : Bool) = true; simp_all; done) | trace_state)
              refine AW_ret (bodyQ_ret rfl ?_ (Ends.intro rfl ?_ ?_))
              · repeat' (first | exact trivial | exact rfl | exact (fun _ _ => rfl) | refine And.intro ?_ ?_ | intro _)
                all_goals (first | omega | exact of_decide_eq_true (by assumption) | decide | exact hmay | exact hmay2 | exact hmay1 | exact hlm _ | exact h6.1 | exact h6.2 | exact hbytes | exact hmx | exact hmx1 | exact prog_lit _ _ | exact procs_lit _ _ | (rename_i hg; exact hg) | (rename_i hg; change (_ : Bool) = true; rw [hg]; rfl) | (change (_ : Bool) = true; simp_all; done) | trace_state)
              · repeat' (first | exact trivial | exact rfl | exact (fun _ _ => rfl) | refine And.intro ?_ ?_ | intro _)
                all_goals (first | omega | exact of_decide_eq_true (by assumption) | decide | exact hmay | exact hmay2 | exact hmay1 | exact hlm _ | exact h6.1 | exact h6.2 | exact hbytes | exact hmx | exact hmx1 | exact prog_lit _ _ | exact procs_lit _ _ | (rename_i hg; exact hg) | (rename_i hg; change (_ : Bool) = true; rw [hg]; rfl) | (change (_ : Bool) = true; simp_all; done) | trace_state)
              rfl
          )
        · first
          | (exfalso; simp_all; done)
          | (
              refine AW_skip ?_
              refine AW_seq ?_
              have hmay1 : mayP P = true := by
                have h : (!(mayP ⟨i, fun q => at1 (prog q), pat, r0, r1, r2, r3, done, took⟩)) = false := h2
                rw [hP]
                cases hq : mayP ⟨i, fun q => at1 (prog q), pat, r0, r1, r2, r3, done, took⟩ with
                | true => rfl
                | false => rw [hq] at h; cases h
              have hP0 : ∀ q, q < P.n → (P.prog q).at_ = 1 := fun q _ => by rw [hP]; rfl
              have hPn : P.n ≤ 66 := by rw [hP]; exact hn66
              
              refine AW_all good tabP tabP_ok rfl rfl ?_ ?_
              · repeat' (first | exact trivial | exact rfl | exact (fun _ _ => rfl) | refine And.intro ?_ ?_ | intro _)
                all_goals (first | omega | exact of_decide_eq_true (by assumption) | decide | exact hmay | exact hmay2 | exact hmay1 | exact hlm _ | exact h6.1 | exact h6.2 | exact hbytes | exact hmx | exact hmx1 | exact prog_lit _ _ | exact procs_lit _ _ | (rename_i hg; exact hg) | (rename_i hg; change (_ : Bool) = true; rw [hg]; rfl) | (change (_ : Bool) = true; simp_all; done) | trace_state)
              refine AW_seq ?_
              refine AW_seq ?_
              refine AW_all good tabP tabP_ok rfl rfl ?_ ?_
              · repeat' (first | exact trivial | exact rfl | exact (fun _ _ => rfl) | refine And.intro ?_ ?_ | intro _)
                all_goals (first | omega | exact of_decide_eq_true (by assumption) | decide | exact hmay | exact hmay2 | exact hmay1 | exact hlm _ | exact h6.1 | exact h6.2 | exact hbytes | exact hmx | exact hmx1 | exact prog_lit _ _ | exact procs_lit _ _ | (rename_i hg; exact hg) | (rename_i hg; change (_ : Bool) = true; rw [hg]; rfl) | (change (_ : Bool) = true; simp_all; done) | trace_state)
              refine AW_block ?_
              refine AW_loopH 1 (fun j : { j : Nat × Nat // j.1 ≤ no ∧ j.2 = 1 + min j.1 7 } => [(2, .cv (.one (iS np ex' picks))), (8, .cv (.one (.osl 0 8 0 0 j.1.2 true))), (45, .cv (.one (iS no ex others))), (46, .cv (iint no)), (47, .cv (iint j.1.1))]) (fun j => [(0, .rows 54 8 j.1.2 fun q c => prcI (lA P others q) c)]) (fun j => no - j.1.1) ⟨(0, 1), Nat.zero_le _, by simp⟩ [1] rfl rfl ?_ ?_ ?_
              · exact ⟨SLe.of_eq rfl, SLe.of_eq rfl, SLe.of_eq rfl, SLe.of_eq rfl, SLe.of_eq rfl, trivial⟩
              · refine ⟨⟨rfl, _, rfl, BLe.rows rfl fun q c hq hc => ILe.of_eq ?_⟩, trivial⟩
                obtain rfl : q = 0 := by omega
                rw [hP]
                match c, hc with
                | 0, _ => rfl
                | 1, _ => rfl
                | 2, _ => rfl
                | 3, _ => rfl
                | 4, _ => rfl
                | 5, _ => rfl
                | 6, _ => rfl
                | 7, _ => rfl
              clear h1 h2
              rintro ⟨⟨i, len⟩, hi, hlen⟩
              dsimp only at hi hlen ⊢
              refine AW_seq ?_
              refine AW_all good tabP tabP_ok rfl rfl ?_ ?_
              · repeat' (first | exact trivial | exact rfl | exact (fun _ _ => rfl) | refine And.intro ?_ ?_ | intro _)
                all_goals (first | omega | exact of_decide_eq_true (by assumption) | decide | exact hmay | exact hmay2 | exact hmay1 | exact hlm _ | exact h6.1 | exact h6.2 | exact hbytes | exact hmx | exact hmx1 | exact prog_lit _ _ | exact procs_lit _ _ | (rename_i hg; exact hg) | (rename_i hg; change (_ : Bool) = true; rw [hg]; rfl) | (change (_ : Bool) = true; simp_all; done) | trace_state)
              refine AW_seq ?_
              refine AW_cond rfl (fun h3 => ?_) (fun h3 => ?_)
              · first
                | (exfalso; simp_all; done)
                | (
                    refine AW_skip ?_
                    refine AW_seq ?_
                    refine AW_block ?_
                    refine AW_seq ?_
                    have hlt : i < no := by simpa using h3
                    refine AW_all good tabP tabP_ok rfl rfl ?_ ?_
                    · repeat' (first | exact trivial | exact rfl | exact (fun _ _ => rfl) | refine And.intro ?_ ?_ | intro _)
                      all_goals (first | omega | exact of_decide_eq_true (by assumption) | decide | exact hmay | exact hmay2 | exact hmay1 | exact hlm _ | exact h6.1 | exact h6.2 | exact hbytes | exact hmx | exact hmx1 | exact prog_lit _ _ | exact procs_lit _ _ | (rename_i hg; exact hg) | (rename_i hg; change (_ : Bool) = true; rw [hg]; rfl) | (change (_ : Bool) = true; simp_all; done) | trace_state)
                    refine AW_seq ?_
                    refine AW_all good tabP tabP_ok rfl rfl ?_ ?_
                    · repeat' (first | exact trivial | exact rfl | exact (fun _ _ => rfl) | refine And.intro ?_ ?_ | intro _)
                      all_goals (first | omega | exact of_decide_eq_true (by assumption) | decide | exact hmay | exact hmay2 | exact hmay1 | exact hlm _ | exact h6.1 | exact h6.2 | exact hbytes | exact hmx | exact hmx1 | exact prog_lit _ _ | exact procs_lit _ _ | (rename_i hg; exact hg) | (rename_i hg; change (_ : Bool) = true; rw [hg]; rfl) | (change (_ : Bool) = true; simp_all; done) | trace_state)
                    refine AW_cond rfl (fun h4 => ?_) (fun h4 => ?_)
                    · first
                      | (exfalso; simp_all; done)
                      | (
                          have h6 := six_le (others i)
                          have h8 : i < 7 := by
                            have h : decide (((i : Nat) : Int) < 7) = true := h4
                            have := of_decide_eq_true h
                            omega
                          have hbytes : (len + 1) * lay54.bytes ≤ 140737488355328 := by
                            show (len + 1) * 80 ≤ _
                            omega
                          have hmx : len + 1 ≤ maxLen := by simp only [maxLen]; omega
                          refine AW_all good tabP tabP_ok rfl rfl ?_ ?_
                          · repeat' (first | exact trivial | exact rfl | exact (fun _ _ => rfl) | refine And.intro ?_ ?_ | intro _)
                            all_goals (first | omega | exact of_decide_eq_true (by assumption) | decide | exact hmay | exact hmay2 | exact hmay1 | exact hlm _ | exact h6.1 | exact h6.2 | exact hbytes | exact hmx | exact hmx1 | exact prog_lit _ _ | exact procs_lit _ _ | (rename_i hg; exact hg) | (rename_i hg; change (_ : Bool) = true; rw [hg]; rfl) | (change (_ : Bool) = true; simp_all; done) | trace_state)
                          refine AW_all good tabP tabP_ok rfl rfl ?_ ?_
                          · repeat' (first | exact trivial | exact rfl | exact (fun _ _ => rfl) | refine And.intro ?_ ?_ | intro _)
                            all_goals (first | omega | exact of_decide_eq_true (by assumption) | decide | exact hmay | exact hmay2 | exact hmay1 | exact hlm _ | exact h6.1 | exact h6.2 | exact hbytes | exact hmx | exact hmx1 | exact prog_lit _ _ | exact procs_lit _ _ | (rename_i hg; exact hg) | (rename_i hg; change (_ : Bool) = true; rw [hg]; rfl) | (change (_ : Bool) = true; simp_all; done) | trace_state)
                          have hlt : i < no := by simpa using h3
                          have h8 : i < 7 := by
                            have h : decide (((i : Nat) : Int) < 7) = true := h4
                            have := of_decide_eq_true h
                            omega
                          refine loopH_next ⟨(i + 1, len + 1), hlt, by omega⟩ [2] rfl rfl ⟨SLe.of_eq rfl, SLe.of_eq rfl, SLe.of_eq rfl, SLe.of_eq rfl, SLe.of_eq (congrArg (fun z => SV.cv (iint z)) (next_int i no hlt hm)), trivial⟩ ⟨⟨rfl, _, rfl, BLe.rows rfl fun q c hq hc => ILe.of_eq (app_last (f := fun q c => prcI (lA P others q) c) hq fun hqi => ?_)⟩, trivial⟩ ?_
                          · have hli : len = i + 1 := by omega
                            subst hli
                            have e : addsP (IntKind.i64.wrap (2 + (i : Int))) (Int.tmod (IntKind.i64.wrap (Int.tmod (others i) 6 + 6)) 6).toNat = lA P others (i + 1) := by
                              rw [six_val, lA_succ, show IntKind.i64.wrap (2 + (i : Int)) = ((2 + i : Nat) : Int) from by rw [IntKind.wrap_i64]; omega]
                              rfl
                            match c, hc with
                            | 0, _ => exact congrArg (fun p => prcI p 0) e
                            | 1, _ => exact congrArg (fun p => prcI p 1) e
                            | 2, _ => exact congrArg (fun p => prcI p 2) e
                            | 3, _ => exact congrArg (fun p => prcI p 3) e
                            | 4, _ => exact congrArg (fun p => prcI p 4) e
                            | 5, _ => exact congrArg (fun p => prcI p 5) e
                            | 6, _ => exact congrArg (fun p => prcI p 6) e
                            | 7, _ => exact congrArg (fun p => prcI p 7) e
                          show no - (i + 1) < no - i
                          omega
                      )
                    · first
                      | (exfalso; simp_all; done)
                      | (
                          refine AW_skip ?_
                          refine AW_all good tabP tabP_ok rfl rfl ?_ ?_
                          · repeat' (first | exact trivial | exact rfl | exact (fun _ _ => rfl) | refine And.intro ?_ ?_ | intro _)
                            all_goals (first | omega | exact of_decide_eq_true (by assumption) | decide | exact hmay | exact hmay2 | exact hmay1 | exact hlm _ | exact h6.1 | exact h6.2 | exact hbytes | exact hmx | exact hmx1 | exact prog_lit _ _ | exact procs_lit _ _ | (rename_i hg; exact hg) | (rename_i hg; change (_ : Bool) = true; rw [hg]; rfl) | (change (_ : Bool) = true; simp_all; done) | trace_state)
                          have hlt : i < no := by simpa using h3
                          have h8 : ¬ i < 7 := by
                            have h : decide (((i : Nat) : Int) < 7) = false := h4
                            have := of_decide_eq_false h
                            omega
                          refine loopH_next ⟨(i + 1, len), hlt, by omega⟩ [0] rfl rfl ⟨SLe.of_eq rfl, SLe.of_eq rfl, SLe.of_eq rfl, SLe.of_eq rfl, SLe.of_eq (congrArg (fun z => SV.cv (iint z)) (next_int i no hlt hm)), trivial⟩ ⟨⟨rfl, _, rfl, BLe.of_eq rfl⟩, trivial⟩ ?_
                          show no - (i + 1) < no - i
                          omega
                      )
                )
              · first
                | (exfalso; simp_all; done)
                | (
                    refine AW_exit ?_
                    refine AW_seq ?_
                    refine AW_give 0 8 rfl (by omega) ?_
                    obtain ⟨l, hl⟩ : ∃ l : Nat → Prc, l = lA P others := ⟨_, rfl⟩
                    refine AW_slot 8 (y := .cv (.one (prcS len false l))) rfl (SLe.cv (CLe.imm (ILe.sl rfl (by simp) (.inr ⟨rfl, fun q c hq hc => ILe.of_eq (by rw [Nat.zero_add, hl])⟩)))) ?_
                    have hn8 : 1 ≤ len ∧ len ≤ 8 := by omega
                    have hl0 : l 0 = P := by rw [hl]; rfl
                    have hmq : ∀ q, q < 8 → mayP (l q) = true := fun q hq => by
                      rcases Nat.eq_zero_or_pos q with h | h
                      · rw [h, hl0]; exact hmay1
                      · obtain ⟨k, rfl⟩ : ∃ k, q = k + 1 := ⟨q - 1, by omega⟩
                        rw [hl, lA_succ]
                        have := (six (others k)).2.2
                        exact mayP_add (by omega) (by omega) (by omega)
                    have hln : ∀ q, (l q).n ≤ 66 := fun q => by
                      rcases Nat.eq_zero_or_pos q with h | h
                      · rw [h, hl0]; exact hPn
                      · obtain ⟨k, rfl⟩ : ∃ k, q = k + 1 := ⟨q - 1, by omega⟩
                        rw [hl, lA_succ]
                        have := (six (others k)).2.2
                        show offW (others k) 6 + 1 ≤ 66
                        omega
                    have hmay : mayL len l = true := mayL_mk (by omega) fun q hq => hmq q (by omega)
                    have hmay2 : mayL 1 l = true := mayL_mk (by omega) fun q hq => hmq q (by omega)
                    obtain ⟨NP, hNP⟩ : ∃ NP, NP = min np 300 := ⟨_, rfl⟩
                    have hNP300 : NP ≤ 300 := by omega
                    have hap := fun j => apart_run (n := len) (l := l) picks hn8.1 (by rw [hl0]; exact hmay1) (by rw [hl0]; exact hP0) (fun q h1 h2 => by
                      obtain ⟨k, rfl⟩ : ∃ k, q = k + 1 := ⟨q - 1, by omega⟩
                      rw [hl, lA_succ]
                      have := (six (others k)).2.2
                      exact ⟨_, _, 0, add_start _ _, by omega, by omega⟩) j
                    clear h3 hi hlen
                    refine AW_all good tabP tabP_ok rfl rfl ?_ ?_
                    · repeat' (first | exact trivial | exact rfl | exact (fun _ _ => rfl) | refine And.intro ?_ ?_ | intro _)
                      all_goals (first | omega | exact of_decide_eq_true (by assumption) | decide | exact hmay | exact hmay2 | exact hmay1 | exact hlm _ | exact h6.1 | exact h6.2 | exact hbytes | exact hmx | exact hmx1 | exact prog_lit _ _ | exact procs_lit _ _ | (rename_i hg; exact hg) | (rename_i hg; change (_ : Bool) = true; rw [hg]; rfl) | (change (_ : Bool) = true; simp_all; done) | trace_state)
                    refine AW_seq ?_
                    refine AW_all good tabP tabP_ok rfl rfl ?_ ?_
                    · repeat' (first | exact trivial | exact rfl | exact (fun _ _ => rfl) | refine And.intro ?_ ?_ | intro _)
                      all_goals (first | omega | exact of_decide_eq_true (by assumption) | decide | exact hmay | exact hmay2 | exact hmay1 | exact hlm _ | exact h6.1 | exact h6.2 | exact hbytes | exact hmx | exact hmx1 | exact prog_lit _ _ | exact procs_lit _ _ | (rename_i hg; exact hg) | (rename_i hg; change (_ : Bool) = true; rw [hg]; rfl) | (change (_ : Bool) = true; simp_all; done) | trace_state)
                    refine AW_seq ?_
                    refine AW_seq ?_
                    refine AW_slot 2 (y := .cv (.one (iS NP false picks))) rfl (SLe.cv (CLe.imm (ILe.sl ?_ (by simp) (.inr ⟨rfl, fun i j hi hj => ILe.of_eq ?_⟩)))) ?_
                    · rw [hNP]
                      split <;> omega
                    · show IV.val (.int .i64 (picks (0 + i))) = IV.val (.int .i64 (picks i))
                      rw [Nat.zero_add]
                    refine AW_all good tabP tabP_ok rfl rfl ?_ ?_
                    · repeat' (first | exact trivial | exact rfl | exact (fun _ _ => rfl) | refine And.intro ?_ ?_ | intro _)
                      all_goals (first | omega | exact of_decide_eq_true (by assumption) | decide | exact hmay | exact hmay2 | exact hmay1 | exact hlm _ | exact h6.1 | exact h6.2 | exact hbytes | exact hmx | exact hmx1 | exact prog_lit _ _ | exact procs_lit _ _ | (rename_i hg; exact hg) | (rename_i hg; change (_ : Bool) = true; rw [hg]; rfl) | (change (_ : Bool) = true; simp_all; done) | trace_state)
                    refine AW_block ?_
                    refine AW_absent 3 1 (fun _ _ => ivDef) ?_
                    refine AW_loopH 1 (fun j : { j : Nat // j ≤ NP } => [(2, .cv (.one (iS NP false picks))), (8, .cv (.one (prcS len false l))), (11, .cv (.one (.osl 0 1 0 0 (cnt picks 0 j.1) true))), (70, .cv (.one (iS NP false picks))), (71, .cv (iint NP)), (72, .cv (iint j.1))]) (fun j => [(0, .rows 3 1 (cnt picks 0 j.1) fun _ _ => IV.val (.int .i64 0))]) (fun j => NP - j.1) ⟨0, Nat.zero_le _⟩ [1] rfl rfl ?_ ?_ ?_
                    · exact ⟨SLe.of_eq rfl, SLe.of_eq rfl, SLe.cv CLe.empty, SLe.of_eq rfl, SLe.of_eq rfl, SLe.of_eq rfl, trivial⟩
                    · exact ⟨⟨rfl, _, rfl, BLe.rows rfl fun i j hi _ => absurd hi (Nat.not_lt_zero i)⟩, trivial⟩
                    rintro ⟨j, hj⟩
                    dsimp only at hj ⊢
                    refine AW_seq ?_
                    refine AW_all good tabP tabP_ok rfl rfl ?_ ?_
                    · repeat' (first | exact trivial | exact rfl | exact (fun _ _ => rfl) | refine And.intro ?_ ?_ | intro _)
                      all_goals (first | omega | exact of_decide_eq_true (by assumption) | decide | exact hmay | exact hmay2 | exact hmay1 | exact hlm _ | exact h6.1 | exact h6.2 | exact hbytes | exact hmx | exact hmx1 | exact prog_lit _ _ | exact procs_lit _ _ | (rename_i hg; exact hg) | (rename_i hg; change (_ : Bool) = true; rw [hg]; rfl) | (change (_ : Bool) = true; simp_all; done) | trace_state)
                    refine AW_seq ?_
                    refine AW_cond rfl (fun h5 => ?_) (fun h5 => ?_)
                    · first
                      | (exfalso; simp_all; done)
                      | (
                          refine AW_skip ?_
                          refine AW_seq ?_
                          refine AW_block ?_
                          refine AW_seq ?_
                          have hltj : j < NP := by simpa using h5
                          refine AW_all good tabP tabP_ok rfl rfl ?_ ?_
                          · repeat' (first | exact trivial | exact rfl | exact (fun _ _ => rfl) | refine And.intro ?_ ?_ | intro _)
                            all_goals (first | omega | exact of_decide_eq_true (by assumption) | decide | exact hmay | exact hmay2 | exact hmay1 | exact hlm _ | exact h6.1 | exact h6.2 | exact hbytes | exact hmx | exact hmx1 | exact prog_lit _ _ | exact procs_lit _ _ | (rename_i hg; exact hg) | (rename_i hg; change (_ : Bool) = true; rw [hg]; rfl) | (change (_ : Bool) = true; simp_all; done) | trace_state)
                          refine AW_seq ?_
                          refine AW_all good tabP tabP_ok rfl rfl ?_ ?_
                          · repeat' (first | exact trivial | exact rfl | exact (fun _ _ => rfl) | refine And.intro ?_ ?_ | intro _)
                            all_goals (first | omega | exact of_decide_eq_true (by assumption) | decide | exact hmay | exact hmay2 | exact hmay1 | exact hlm _ | exact h6.1 | exact h6.2 | exact hbytes | exact hmx | exact hmx1 | exact prog_lit _ _ | exact procs_lit _ _ | (rename_i hg; exact hg) | (rename_i hg; change (_ : Bool) = true; rw [hg]; rfl) | (change (_ : Bool) = true; simp_all; done) | trace_state)
                          refine AW_cond rfl (fun h6 => ?_) (fun h6 => ?_)
                          · first
                            | (exfalso; simp_all; done)
                            | (
                                have hcj := cnt_le picks 0 j
                                have hbytes : (cnt picks 0 j + 1) * lay3.bytes ≤ 140737488355328 := by
                                  show (cnt picks 0 j + 1) * 8 ≤ _
                                  omega
                                have hmx : cnt picks 0 j + 1 ≤ maxLen := by simp only [maxLen]; omega
                                refine AW_all good tabP tabP_ok rfl rfl ?_ ?_
                                · repeat' (first | exact trivial | exact rfl | exact (fun _ _ => rfl) | refine And.intro ?_ ?_ | intro _)
                                  all_goals (first | omega | exact of_decide_eq_true (by assumption) | decide | exact hmay | exact hmay2 | exact hmay1 | exact hlm _ | exact h6.1 | exact h6.2 | exact hbytes | exact hmx | exact hmx1 | exact prog_lit _ _ | exact procs_lit _ _ | (rename_i hg; exact hg) | (rename_i hg; change (_ : Bool) = true; rw [hg]; rfl) | (change (_ : Bool) = true; simp_all; done) | trace_state)
                                refine AW_all good tabP tabP_ok rfl rfl ?_ ?_
                                · repeat' (first | exact trivial | exact rfl | exact (fun _ _ => rfl) | refine And.intro ?_ ?_ | intro _)
                                  all_goals (first | omega | exact of_decide_eq_true (by assumption) | decide | exact hmay | exact hmay2 | exact hmay1 | exact hlm _ | exact h6.1 | exact h6.2 | exact hbytes | exact hmx | exact hmx1 | exact prog_lit _ _ | exact procs_lit _ _ | (rename_i hg; exact hg) | (rename_i hg; change (_ : Bool) = true; rw [hg]; rfl) | (change (_ : Bool) = true; simp_all; done) | trace_state)
                                have hltj : j < NP := by simpa using h5
                                have hc1 := cnt_in' picks 0 j h6
                                refine loopH_next ⟨j + 1, hltj⟩ [2] rfl rfl ⟨SLe.of_eq rfl, SLe.of_eq rfl, SLe.of_eq (congrArg (fun z : Nat => SV.cv (.one (.osl 2 1 0 0 z true))) hc1.symm), SLe.of_eq rfl, SLe.of_eq rfl, SLe.of_eq (congrArg (fun z => SV.cv (iint z)) (next_int j NP hltj (by simp only [maxLen]; omega))), trivial⟩ ⟨⟨rfl, _, rfl, BLe.rows hc1 fun q c hq hc => ILe.of_eq (app_last (f := fun _ _ => IV.val (.int .i64 0)) hq fun hqi => ?_)⟩, trivial⟩ ?_
                                · obtain rfl : c = 0 := by
                                    have : c < 1 := hc
                                    omega
                                  rfl
                                show NP - (j + 1) < NP - j
                                omega
                            )
                          · first
                            | (exfalso; simp_all; done)
                            | (
                                refine AW_skip ?_
                                refine AW_all good tabP tabP_ok rfl rfl ?_ ?_
                                · repeat' (first | exact trivial | exact rfl | exact (fun _ _ => rfl) | refine And.intro ?_ ?_ | intro _)
                                  all_goals (first | omega | exact of_decide_eq_true (by assumption) | decide | exact hmay | exact hmay2 | exact hmay1 | exact hlm _ | exact h6.1 | exact h6.2 | exact hbytes | exact hmx | exact hmx1 | exact prog_lit _ _ | exact procs_lit _ _ | (rename_i hg; exact hg) | (rename_i hg; change (_ : Bool) = true; rw [hg]; rfl) | (change (_ : Bool) = true; simp_all; done) | trace_state)
                                have hltj : j < NP := by simpa using h5
                                have hc1 := cnt_out' picks 0 j h6
                                refine loopH_next ⟨j + 1, hltj⟩ [0] rfl rfl ⟨SLe.of_eq rfl, SLe.of_eq rfl, SLe.of_eq (congrArg (fun z : Nat => SV.cv (.one (.osl 0 1 0 0 z true))) hc1.symm), SLe.of_eq rfl, SLe.of_eq rfl, SLe.of_eq (congrArg (fun z => SV.cv (iint z)) (next_int j NP hltj (by simp only [maxLen]; omega))), trivial⟩ ⟨⟨rfl, _, rfl, BLe.rows hc1 fun q c hq hc => ILe.refl _⟩, trivial⟩ ?_
                                show NP - (j + 1) < NP - j
                                omega
                            )
                      )
                    · first
                      | (exfalso; simp_all; done)
                      | (
                          refine AW_exit ?_
                          refine AW_seq ?_
                          have hj2 : j = NP := by
                            have : ¬ j < NP := by simpa using h5
                            omega
                          subst hj2
                          have hcl := cnt_le picks 0 j
                          refine AW_give 0 11 rfl (by omega) ?_
                          obtain ⟨M, hM⟩ : ∃ M, runM len ⟨fun _ => 0, l⟩ picks j = M := ⟨_, rfl⟩
                          obtain ⟨C, hC⟩ : ∃ C, C = cnt picks 0 j := ⟨_, rfl⟩
                          obtain ⟨M2, hM2⟩ : ∃ M2, runM 1 ⟨fun _ => 0, l⟩ (fun _ => 0) C = M2 := ⟨_, rfl⟩
                          refine AW_slot 11 (y := .cv (.one (iS C false fun _ => 0))) rfl (SLe.cv (CLe.imm (ILe.sl hC (by simp) (.inr ⟨rfl, fun q c hq hc => ILe.refl _⟩)))) ?_
                          have hap := hap j
                          rw [← hC, hM, hM2] at hap
                          obtain ⟨ha1, ha2, -⟩ := hap
                          have hC4 : C ≤ 4000 := by omega
                          have hlm : ∀ q, (M.l q).n ≤ maxLen := fun q => by
                            rw [← hM, run_n]
                            have := hln q
                            show (l q).n ≤ maxLen
                            simp only [maxLen]
                            omega
                          refine AW_eff good tabP tabP_ok et0 (et0_ok _) [0] rfl rfl ?_ ?_
                          · repeat' (first | exact trivial | exact rfl | exact (fun _ _ => rfl) | refine And.intro ?_ ?_ | intro _)
                            all_goals (first | omega | exact of_decide_eq_true (by assumption) | decide | exact hmay | exact hmay2 | exact hmay1 | exact hlm _ | exact h6.1 | exact h6.2 | exact hbytes | exact hmx | exact hmx1 | exact prog_lit _ _ | exact procs_lit _ _ | (rename_i hg; exact hg) | (rename_i hg; change (_ : Bool) = true; rw [hg]; rfl) | (change (_ : Bool) = true; simp_all; done) | trace_state)
                          refine AW_seq ?_
                          refine AW_slot 14 (y := .cv (.one (uS 64 false M.m))) rfl (SLe.of_eq (congrArg (fun s : MSt => SV.cv (CV.one (uS 64 false s.m))) hM)) ?_
                          refine AW_slot 15 (y := .cv (.one (prcS len false M.l))) rfl (SLe.of_eq (congrArg (fun s : MSt => SV.cv (CV.one (prcS len false s.l))) hM)) ?_
                          refine AW_slot 8 (y := .cv (.one (prcS len false l))) rfl (SLe.of_eq rfl) ?_
                          have hM2' : runM 1 ⟨fun _ => 0, fun i => l (0 + i)⟩ (fun _ => 0) C = M2 := by
                            rw [show (fun i => l (0 + i)) = l from funext fun i => by rw [Nat.zero_add]]
                            exact hM2
                          have hmay2 : mayL 1 (fun i => l (0 + i)) = true := by
                            rw [show (fun i => l (0 + i)) = l from funext fun i => by rw [Nat.zero_add]]
                            exact hmay2
                          refine AW_drwF good rfl tabP tabP_ok [0] rfl rfl rfl rfl ?_ ?_
                          · repeat' (first | exact trivial | exact rfl | exact (fun _ _ => rfl) | refine And.intro ?_ ?_ | intro _)
                            all_goals (first | omega | exact of_decide_eq_true (by assumption) | decide | exact hmay | exact hmay2 | exact hmay1 | exact hlm _ | exact h6.1 | exact h6.2 | exact hbytes | exact hmx | exact hmx1 | exact prog_lit _ _ | exact procs_lit _ _ | (rename_i hg; exact hg) | (rename_i hg; change (_ : Bool) = true; rw [hg]; rfl) | (change (_ : Bool) = true; simp_all; done) | trace_state)
                          refine AW_seq ?_
                          refine AW_slot 17 (y := .cv (.one (uS 64 false M2.m))) rfl (SLe.of_eq (congrArg (fun s : MSt => SV.cv (CV.one (uS 64 false s.m))) hM2')) ?_
                          refine AW_slot 18 (y := .cv (.one (prcS 1 false M2.l))) rfl (SLe.of_eq (congrArg (fun s : MSt => SV.cv (CV.one (prcS 1 false s.l))) hM2')) ?_
                          refine AW_drwE good rfl tabP tabP_ok rfl rfl rfl rfl ?_ ?_
                          · repeat' (first | exact trivial | exact rfl | exact (fun _ _ => rfl) | refine And.intro ?_ ?_ | intro _)
                            all_goals (first | omega | exact of_decide_eq_true (by assumption) | decide | exact hmay | exact hmay2 | exact hmay1 | exact hlm _ | exact h6.1 | exact h6.2 | exact hbytes | exact hmx | exact hmx1 | exact prog_lit _ _ | exact procs_lit _ _ | (rename_i hg; exact hg) | (rename_i hg; change (_ : Bool) = true; rw [hg]; rfl) | (change (_ : Bool) = true; simp_all; done) | trace_state)
                          refine AW_ret (bodyQ_ret rfl ?_ (Ends.intro rfl ?_ ?_))
                          · repeat' (first | exact trivial | exact rfl | exact (fun _ _ => rfl) | refine And.intro ?_ ?_ | intro _)
                            all_goals (first | omega | exact of_decide_eq_true (by assumption) | decide | exact hmay | exact hmay2 | exact hmay1 | exact hlm _ | exact h6.1 | exact h6.2 | exact hbytes | exact hmx | exact hmx1 | exact prog_lit _ _ | exact procs_lit _ _ | (rename_i hg; exact hg) | (rename_i hg; change (_ : Bool) = true; rw [hg]; rfl) | (change (_ : Bool) = true; simp_all; done) | trace_state)
                          · repeat' (first | exact trivial | exact rfl | exact (fun _ _ => rfl) | refine And.intro ?_ ?_ | intro _)
                            all_goals (first | omega | exact of_decide_eq_true (by assumption) | decide | exact hmay | exact hmay2 | exact hmay1 | exact hlm _ | exact h6.1 | exact h6.2 | exact hbytes | exact hmx | exact hmx1 | exact prog_lit _ _ | exact procs_lit _ _ | (rename_i hg; exact hg) | (rename_i hg; change (_ : Bool) = true; rw [hg]; rfl) | (change (_ : Bool) = true; simp_all; done) | trace_state)
                          refine ret_bool ?_
                          show (bif (bif (bif true then ((len : Int) == (len : Int)) else false) then (M.m 1 == M2.m 1) else false) then likeP (M.l 0) (M2.l 0) else false) = true
                          rw [ha1, ha2, like_self]
                          simp
                      )
                )
          )
    )
end Go.Proofs.Ytndfcbcmeeemfaa.Abs
