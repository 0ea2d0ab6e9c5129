/-
  THE LAW MachineRuns as a contract.
-/
import Derived.Test.YtndfcbcmeeemfaaM22
namespace Go.Proofs.Ytndfcbcmeeemfaa.Abs
open Go
set_option maxRecDepth 10000

def etR : ETab := etAdd 28 (fun args H => match args with
  | [.one (.imm (.sl 1 nm _ cm)), .one (.osl b 8 0 0 n _), .one (.imm (.sl 1 np _ cp))] => match H b with
    | some (.rows 54 8 n' cell) => some ⟨[b], runV (wordsAt cm) n (procsAt cell) np (wordsAt cp), [], 0, nm = 64 ∧ (cm = fun i _ => .val (.int .u64 (wordsAt cm i))) ∧ n' = n ∧ (cell = fun i c => prcI (procsAt cell i) c) ∧ (cp = fun i _ => .val (.int .i64 (wordsAt cp i))) ∧ n ≤ 9 ∧ np ≤ 4000⟩
    | _ => none
  | _ => none) et0
theorem etR_ok : ETabOk Try.prog etR := by
  refine etAdd_ok rfl (fun args H e h hv => ?_) (et0_ok _)
  split at h
  · rename_i nm ex cm b n app np ex'' cp
    split at h
    · rename_i n' cell hb
      simp only [Option.some.injEq] at h
      subst h
      obtain ⟨rfl, h1, rfl, h2, h3, h4, h5⟩ := hv
      have e1 : AV.imm (.sl 1 64 ex cm) = uS 64 ex (wordsAt cm) := congrArg (fun c => AV.imm (.sl 1 64 ex c)) h1
      have e3 : AV.imm (.sl 1 np ex'' cp) = iS np ex'' (wordsAt cp) := congrArg (fun c => AV.imm (.sl 1 np ex'' c)) h3
      refine ⟨rfl, [.one (uS 64 ex (wordsAt cm)), .one (.osl 0 8 0 0 n' app), .one (iS np ex'' (wordsAt cp))], [.rows 54 8 n' fun i c => prcI (procsAt cell i) c], rfl, fun nx => by rw [e1, e3]; rfl, fun nx j c hj => ?_, run28o ex (wordsAt cm) n' app (procsAt cell) np ex'' (wordsAt cp) h4 h5⟩
      match j, hj with
      | 0, hj =>
        simp only [List.getElem?_cons_zero, Option.some.injEq] at hj
        subst hj
        rw [← h2]
        exact hb
      | j + 1, hj => simp at hj
    · cases h
  · cases h

noncomputable def tabB2 : Tab := tabAdd 29 (fun args => match args with
  | [.one (.imm (.sl 8 n _ cell))] => some (.cv (ibool (mayL n (procsAt cell))), isProcs n cell ∧ ∀ i, (procsAt cell i).n ≤ maxLen)
  | _ => none) tabV
theorem tabB2_ok : TabOk Try.prog tabB2 := by
  refine tabAdd_ok rfl (fun args r p h hp => ?_) tabV_ok
  split at h
  · rename_i n ex cell
    simp only [Option.some.injEq, Prod.mk.injEq] at h; obtain ⟨rfl, rfl⟩ := h; exact (all29 n ex (procsAt cell) fun i _ => hp.2 i).args (TLe.cons (procs_le hp.1) TLe.nil)
  · cases h

theorem blt_same (i : Nat) : Nat.blt i i = false := by
  cases hb : Nat.blt i i with
  | false => rfl
  | true => have : i < i := Nat.le_of_ble_eq_true hb; omega
theorem few_step {l : Nat → Prc} {q i c : Nat} : prcI (bif Nat.beq q i then fewP (l i) else bif Nat.blt q i then fewP (l q) else l q) c = prcI (bif Nat.blt q (i + 1) then fewP (l q) else l q) c := by
  rcases Nat.lt_trichotomy q i with h | h | h
  · have h1 : Nat.blt q i = true := Nat.ble_eq_true_of_le h
    have h2 : Nat.blt q (i + 1) = true := Nat.ble_eq_true_of_le (by omega)
    have h3 : Nat.beq q i = false := by
      cases hb : Nat.beq q i with
      | false => rfl
      | true => have := Nat.eq_of_beq_eq_true hb; omega
    rw [h1, h2, h3]
    rfl
  · subst h
    have h2 : Nat.blt q (q + 1) = true := Nat.ble_eq_true_of_le (by omega)
    rw [h2, Nat.beq_refl]
    rfl
  · have h1 : Nat.blt q i = false := by
      cases hb : Nat.blt q i with
      | false => rfl
      | true => have : q < i := Nat.le_of_ble_eq_true hb; omega
    have h2 : Nat.blt q (i + 1) = false := by
      cases hb : Nat.blt q (i + 1) with
      | false => rfl
      | true => have : q < i + 1 := Nat.le_of_ble_eq_true hb; omega
    have h3 : Nat.beq q i = false := by
      cases hb : Nat.beq q i with
      | false => rfl
      | true => have := Nat.eq_of_beq_eq_true hb; omega
    rw [h1, h2, h3]
    rfl

theorem runs9 (nm : Nat) (ex : Bool) (m : Nat → Int) (nl : Nat) (ex' : Bool) (l : Nat → Prc) (np : Nat) (ex'' : Bool) (picks : Nat → Int) : PCall Try.prog 9 [.one (uS nm ex m), .one (prcS nl ex' l), .one (iS np ex'' picks)] (.cv (ibool true)) := by
  refine PCall_of (ACall_body good Try.func9 rfl 130 rfl (by simp) ?_)
  refine AW_seq ?_
  refine AW_all good tabB2 tabB2_ok rfl rfl ?_ ?_
  · repeat' (first | exact trivial | exact rfl | exact (fun _ _ => rfl) | refine And.intro ?_ ?_ | intro _)
    all_goals (first | omega | exact hk.1 | exact hk.2 | exact of_decide_eq_true (by assumption) | decide | exact hmx | exact hbytes | exact hN9 | exact hLm _ | exact hMm _ | (show 0 + (picks j).toNat < N; omega) | exact run_may hmay _ _ (show 0 + (picks j).toNat < N by omega) | exact prog_lit _ _ | exact procs_lit _ _ | exact procs_lit0 _ _ | (rename_i hg; exact hg) | (rename_i hg; change (_ : Bool) = true; rw [hg]; rfl) | (change (_ : Bool) = true; simp_all; done) | trace_state)
  refine AW_seq ?_
  refine AW_all good tabB2 tabB2_ok rfl rfl ?_ ?_
  · repeat' (first | exact trivial | exact rfl | exact (fun _ _ => rfl) | refine And.intro ?_ ?_ | intro _)
    all_goals (first | omega | exact hk.1 | exact hk.2 | exact of_decide_eq_true (by assumption) | decide | exact hmx | exact hbytes | exact hN9 | exact hLm _ | exact hMm _ | (show 0 + (picks j).toNat < N; omega) | exact run_may hmay _ _ (show 0 + (picks j).toNat < N by omega) | exact prog_lit _ _ | exact procs_lit _ _ | exact procs_lit0 _ _ | (rename_i hg; exact hg) | (rename_i hg; change (_ : Bool) = true; rw [hg]; rfl) | (change (_ : Bool) = true; simp_all; done) | trace_state)
  refine AW_seq ?_
  have hbytes : (0 + ((if (9 : Int) < (nl : Int) then (9 : Int) else (nl : Int)) - 0).toNat) * lay54.bytes ≤ 140737488355328 := by
    show _ * 80 ≤ _
    split <;> omega
  have hmx : 0 + ((if (9 : Int) < (nl : Int) then (9 : Int) else (nl : Int)) - 0).toNat ≤ maxLen := by
    simp only [maxLen]
    split <;> omega
  refine AW_all good tabB2 tabB2_ok rfl rfl ?_ ?_
  · repeat' (first | exact trivial | exact rfl | exact (fun _ _ => rfl) | refine And.intro ?_ ?_ | intro _)
    all_goals (first | omega | exact hk.1 | exact hk.2 | exact of_decide_eq_true (by assumption) | decide | exact hmx | exact hbytes | exact hN9 | exact hLm _ | exact hMm _ | (show 0 + (picks j).toNat < N; omega) | exact run_may hmay _ _ (show 0 + (picks j).toNat < N by omega) | exact prog_lit _ _ | exact procs_lit _ _ | exact procs_lit0 _ _ | (rename_i hg; exact hg) | (rename_i hg; change (_ : Bool) = true; rw [hg]; rfl) | (change (_ : Bool) = true; simp_all; done) | trace_state)
  refine AW_seq ?_
  refine AW_seq ?_
  obtain ⟨W, hW⟩ : ∃ W : Nat → Int, W = fun i => bif Nat.blt i nm then m i else 0 := ⟨_, rfl⟩
  obtain ⟨N, hN⟩ : ∃ N, N = min nl 9 := ⟨_, rfl⟩
  have hNe : 0 + ((if (9 : Int) < (nl : Int) then (9 : Int) else (nl : Int)) - 0).toNat = N := by rw [hN]; split <;> omega
  refine AW_tell [(0, .cv (.one (uS 64 false W))), (1, .cv (.one (.osl 0 8 0 0 N true))), (2, .cv (.one (iS np ex'' picks)))] [(0, .rows 54 8 N fun q c => prcI (l q) c)] [1] rfl rfl ⟨SLe.cv (uS_le rfl fun i => by rw [hW]; rfl), SLe.of_eq (congrArg (fun z => SV.cv (.one (.osl 1 8 0 0 z true))) hNe), SLe.of_eq rfl, trivial⟩ ⟨⟨rfl, _, rfl, BLe.rows hNe.symm fun q c hq hc => ILe.of_eq ?_⟩, trivial⟩ ?_
  · show (bif Nat.blt q 0 then _ else prcI (l (0 + (q - 0))) c) = prcI (l q) c
    have hb : Nat.blt q 0 = false := by cases q <;> rfl
    rw [hb, Nat.zero_add]
    rfl
  clear hbytes hmx hNe
  have hN9 : N ≤ 9 := by omega
  have hmx : N ≤ maxLen := by simp only [maxLen]; omega
  clear hW hN
  refine AW_all good tabB2 tabB2_ok rfl rfl ?_ ?_
  · repeat' (first | exact trivial | exact rfl | exact (fun _ _ => rfl) | refine And.intro ?_ ?_ | intro _)
    all_goals (first | omega | exact hk.1 | exact hk.2 | exact of_decide_eq_true (by assumption) | decide | exact hmx | exact hbytes | exact hN9 | exact hLm _ | exact hMm _ | (show 0 + (picks j).toNat < N; omega) | exact run_may hmay _ _ (show 0 + (picks j).toNat < N by omega) | exact prog_lit _ _ | exact procs_lit _ _ | exact procs_lit0 _ _ | (rename_i hg; exact hg) | (rename_i hg; change (_ : Bool) = true; rw [hg]; rfl) | (change (_ : Bool) = true; simp_all; done) | trace_state)
  refine AW_block ?_
  refine AW_loopH 1 (fun j : { j : Nat // j ≤ N } => [(0, .cv (.one (uS 64 false W))), (1, .cv (.one (.osl 0 8 0 0 N true))), (2, .cv (.one (iS np ex'' picks))), (25, .cv (.one (.osl 0 8 0 0 N true))), (26, .cv (iint N)), (27, .cv (iint j.1))]) (fun j => [(0, .rows 54 8 N fun q c => prcI (bif Nat.blt q j.1 then fewP (l q) else l q) c)]) (fun j => N - j.1) ⟨0, Nat.zero_le _⟩ [0] rfl rfl ?_ ?_ ?_
  · exact ⟨SLe.of_eq rfl, SLe.of_eq rfl, SLe.of_eq rfl, SLe.of_eq rfl, SLe.of_eq rfl, SLe.of_eq rfl, trivial⟩
  · refine ⟨⟨rfl, _, rfl, BLe.rows rfl fun q c hq hc => ILe.of_eq ?_⟩, trivial⟩
    have hb : Nat.blt q 0 = false := by cases q <;> rfl
    rw [hb]
    rfl
  rintro ⟨i, hi⟩
  dsimp only at hi ⊢
  refine AW_seq ?_
  refine AW_all good tabB2 tabB2_ok rfl rfl ?_ ?_
  · repeat' (first | exact trivial | exact rfl | exact (fun _ _ => rfl) | refine And.intro ?_ ?_ | intro _)
    all_goals (first | omega | exact hk.1 | exact hk.2 | exact of_decide_eq_true (by assumption) | decide | exact hmx | exact hbytes | exact hN9 | exact hLm _ | exact hMm _ | (show 0 + (picks j).toNat < N; omega) | exact run_may hmay _ _ (show 0 + (picks j).toNat < N by omega) | exact prog_lit _ _ | exact procs_lit _ _ | exact procs_lit0 _ _ | (rename_i hg; exact hg) | (rename_i hg; change (_ : Bool) = true; rw [hg]; rfl) | (change (_ : Bool) = true; simp_all; done) | trace_state)
  refine AW_seq ?_
  refine AW_cond rfl (fun h1 => ?_) (fun h1 => ?_)
  · first
    | (exfalso; simp_all; done)
    | (
        refine AW_skip ?_
        refine AW_seq ?_
        refine AW_block ?_
        refine AW_seq ?_
        have hlt : i < N := by simpa using h1
        refine AW_all good tabB2 tabB2_ok rfl rfl ?_ ?_
        · repeat' (first | exact trivial | exact rfl | exact (fun _ _ => rfl) | refine And.intro ?_ ?_ | intro _)
          all_goals (first | omega | exact hk.1 | exact hk.2 | exact of_decide_eq_true (by assumption) | decide | exact hmx | exact hbytes | exact hN9 | exact hLm _ | exact hMm _ | (show 0 + (picks j).toNat < N; omega) | exact run_may hmay _ _ (show 0 + (picks j).toNat < N by omega) | exact prog_lit _ _ | exact procs_lit _ _ | exact procs_lit0 _ _ | (rename_i hg; exact hg) | (rename_i hg; change (_ : Bool) = true; rw [hg]; rfl) | (change (_ : Bool) = true; simp_all; done) | trace_state)
        refine AW_all good tabB2 tabB2_ok rfl rfl ?_ ?_
        · repeat' (first | exact trivial | exact rfl | exact (fun _ _ => rfl) | refine And.intro ?_ ?_ | intro _)
          all_goals (first | omega | exact hk.1 | exact hk.2 | exact of_decide_eq_true (by assumption) | decide | exact hmx | exact hbytes | exact hN9 | exact hLm _ | exact hMm _ | (show 0 + (picks j).toNat < N; omega) | exact run_may hmay _ _ (show 0 + (picks j).toNat < N by omega) | exact prog_lit _ _ | exact procs_lit _ _ | exact procs_lit0 _ _ | (rename_i hg; exact hg) | (rename_i hg; change (_ : Bool) = true; rw [hg]; rfl) | (change (_ : Bool) = true; simp_all; done) | trace_state)
        refine AW_all good tabB2 tabB2_ok rfl rfl ?_ ?_
        · repeat' (first | exact trivial | exact rfl | exact (fun _ _ => rfl) | refine And.intro ?_ ?_ | intro _)
          all_goals (first | omega | exact hk.1 | exact hk.2 | exact of_decide_eq_true (by assumption) | decide | exact hmx | exact hbytes | exact hN9 | exact hLm _ | exact hMm _ | (show 0 + (picks j).toNat < N; omega) | exact run_may hmay _ _ (show 0 + (picks j).toNat < N by omega) | exact prog_lit _ _ | exact procs_lit _ _ | exact procs_lit0 _ _ | (rename_i hg; exact hg) | (rename_i hg; change (_ : Bool) = true; rw [hg]; rfl) | (change (_ : Bool) = true; simp_all; done) | trace_state)
        have hlt : i < N := by simpa using h1
        have hp : (bif Nat.blt (0 + (i : Int).toNat) i then fewP (l (0 + (i : Int).toNat)) else l (0 + (i : Int).toNat)) = l i := by
          show (bif Nat.blt (0 + i) i then fewP (l (0 + i)) else l (0 + i)) = l i
          rw [Nat.zero_add, blt_same]
          rfl
        refine loopH_next ⟨i + 1, hlt⟩ [0] rfl rfl ⟨SLe.of_eq rfl, SLe.of_eq rfl, SLe.of_eq rfl, SLe.of_eq rfl, SLe.of_eq rfl, SLe.of_eq (congrArg (fun z => SV.cv (iint z)) (next_int i N hlt hmx)), trivial⟩ ⟨⟨rfl, _, rfl, BLe.rows rfl fun q c hq hc => ILe.of_eq ?_⟩, trivial⟩ ?_
        · refine (row_put (p := fewP (bif Nat.blt (0 + (i : Int).toNat) i then fewP (l (0 + (i : Int).toNat)) else l (0 + (i : Int).toNat))) (l := fun q => bif Nat.blt q i then fewP (l q) else l q) q (0 + (i : Int).toNat) c hc).trans ?_
          rw [hp]
          show prcI (bif Nat.beq q (0 + i) then _ else _) c = _
          rw [Nat.zero_add]
          exact few_step
        show N - (i + 1) < N - i
        omega
    )
  · first
    | (exfalso; simp_all; done)
    | (
        refine AW_exit ?_
        refine AW_seq ?_
        have he : i = N := by
          have : ¬ i < N := by simpa using h1
          omega
        subst he
        obtain ⟨L, hL⟩ : ∃ L : Nat → Prc, L = fun q => fewP (l q) := ⟨_, rfl⟩
        obtain ⟨N, hNi⟩ : ∃ N, N = i := ⟨_, rfl⟩
        subst hNi
        refine AW_tell [(0, .cv (.one (uS 64 false W))), (1, .cv (.one (.osl 0 8 0 0 N true))), (2, .cv (.one (iS np ex'' picks)))] [(0, .rows 54 8 N fun q c => prcI (L q) c)] [0] rfl rfl ⟨SLe.of_eq rfl, SLe.of_eq rfl, SLe.of_eq rfl, trivial⟩ ⟨⟨rfl, _, rfl, BLe.rows rfl fun q c hq hc => ILe.of_eq ?_⟩, trivial⟩ ?_
        · show prcI (bif Nat.blt q N then fewP (l q) else l q) c = _
          rw [show Nat.blt q N = true from Nat.ble_eq_true_of_le hq, hL]
          rfl
        have hLm : ∀ q, (L q).n ≤ maxLen := fun q => by
          rw [hL]
          show min (l q).n 66 ≤ maxLen
          simp only [maxLen]
          omega
        clear hL
        obtain ⟨NP, hNP⟩ : ∃ NP, NP = min np 300 := ⟨_, rfl⟩
        have hNP300 : NP ≤ 300 := by omega
        refine AW_all good tabB2 tabB2_ok rfl rfl ?_ ?_
        · repeat' (first | exact trivial | exact rfl | exact (fun _ _ => rfl) | refine And.intro ?_ ?_ | intro _)
          all_goals (first | omega | exact hk.1 | exact hk.2 | exact of_decide_eq_true (by assumption) | decide | exact hmx | exact hbytes | exact hN9 | exact hLm _ | exact hMm _ | (show 0 + (picks j).toNat < N; omega) | exact run_may hmay _ _ (show 0 + (picks j).toNat < N by omega) | exact prog_lit _ _ | exact procs_lit _ _ | exact procs_lit0 _ _ | (rename_i hg; exact hg) | (rename_i hg; change (_ : Bool) = true; rw [hg]; rfl) | (change (_ : Bool) = true; simp_all; done) | trace_state)
        refine AW_seq ?_
        refine AW_slot 2 (y := .cv (.one (iS NP false picks))) rfl (SLe.cv (CLe.imm (ILe.sl ?_ (by simp) (.inr ⟨rfl, fun i j hi hj => ILe.of_eq ?_⟩)))) ?_
        · rw [hNP]
          split <;> omega
        · show IV.val (.int .i64 (picks (0 + i))) = IV.val (.int .i64 (picks i))
          rw [Nat.zero_add]
        have hNP4 : NP ≤ 4000 := by omega
        refine AW_eff good tabB2 tabB2_ok etR etR_ok [] rfl rfl ?_ ?_
        · repeat' (first | exact trivial | exact rfl | exact (fun _ _ => rfl) | refine And.intro ?_ ?_ | intro _)
          all_goals (first | omega | exact hk.1 | exact hk.2 | exact of_decide_eq_true (by assumption) | decide | exact hmx | exact hbytes | exact hN9 | exact hLm _ | exact hMm _ | (show 0 + (picks j).toNat < N; omega) | exact run_may hmay _ _ (show 0 + (picks j).toNat < N by omega) | exact prog_lit _ _ | exact procs_lit _ _ | exact procs_lit0 _ _ | (rename_i hg; exact hg) | (rename_i hg; change (_ : Bool) = true; rw [hg]; rfl) | (change (_ : Bool) = true; simp_all; done) | trace_state)
        refine AW_seq ?_
        refine AW_seq ?_
        refine AW_all good tabB2 tabB2_ok rfl rfl ?_ ?_
        · repeat' (first | exact trivial | exact rfl | exact (fun _ _ => rfl) | refine And.intro ?_ ?_ | intro _)
          all_goals (first | omega | exact hk.1 | exact hk.2 | exact of_decide_eq_true (by assumption) | decide | exact hmx | exact hbytes | exact hN9 | exact hLm _ | exact hMm _ | (show 0 + (picks j).toNat < N; omega) | exact run_may hmay _ _ (show 0 + (picks j).toNat < N by omega) | exact prog_lit _ _ | exact procs_lit _ _ | exact procs_lit0 _ _ | (rename_i hg; exact hg) | (rename_i hg; change (_ : Bool) = true; rw [hg]; rfl) | (change (_ : Bool) = true; simp_all; done) | trace_state)
        refine AW_cond rfl (fun h2 => ?_) (fun h2 => ?_)
        · first
          | (exfalso; simp_all; done)
          | (
              refine AW_seq ?_
              refine AW_all good tabB2 tabB2_ok rfl rfl ?_ ?_
              · repeat' (first | exact trivial | exact rfl | exact (fun _ _ => rfl) | refine And.intro ?_ ?_ | intro _)
                all_goals (first | omega | exact hk.1 | exact hk.2 | exact of_decide_eq_true (by assumption) | decide | exact hmx | exact hbytes | exact hN9 | exact hLm _ | exact hMm _ | (show 0 + (picks j).toNat < N; omega) | exact run_may hmay _ _ (show 0 + (picks j).toNat < N by omega) | exact prog_lit _ _ | exact procs_lit _ _ | exact procs_lit0 _ _ | (rename_i hg; exact hg) | (rename_i hg; change (_ : Bool) = true; rw [hg]; rfl) | (change (_ : Bool) = true; simp_all; done) | trace_state)
              refine AW_ret (bodyQ_ret rfl ?_ (Ends.intro rfl ?_ ?_))
              · repeat' (first | exact trivial | exact rfl | exact (fun _ _ => rfl) | refine And.intro ?_ ?_ | intro _)
                all_goals (first | omega | exact hk.1 | exact hk.2 | exact of_decide_eq_true (by assumption) | decide | exact hmx | exact hbytes | exact hN9 | exact hLm _ | exact hMm _ | (show 0 + (picks j).toNat < N; omega) | exact run_may hmay _ _ (show 0 + (picks j).toNat < N by omega) | exact prog_lit _ _ | exact procs_lit _ _ | exact procs_lit0 _ _ | (rename_i hg; exact hg) | (rename_i hg; change (_ : Bool) = true; rw [hg]; rfl) | (change (_ : Bool) = true; simp_all; done) | trace_state)
              · repeat' (first | exact trivial | exact rfl | exact (fun _ _ => rfl) | refine And.intro ?_ ?_ | intro _)
                all_goals (first | omega | exact hk.1 | exact hk.2 | exact of_decide_eq_true (by assumption) | decide | exact hmx | exact hbytes | exact hN9 | exact hLm _ | exact hMm _ | (show 0 + (picks j).toNat < N; omega) | exact run_may hmay _ _ (show 0 + (picks j).toNat < N by omega) | exact prog_lit _ _ | exact procs_lit _ _ | exact procs_lit0 _ _ | (rename_i hg; exact hg) | (rename_i hg; change (_ : Bool) = true; rw [hg]; rfl) | (change (_ : Bool) = true; simp_all; done) | trace_state)
              have hml : mayL N L = false := by
                have h : (!(mayL N (procsAt fun i q => prcI (L (0 + i)) q))) = true := h2
                rw [procs_0] at h
                cases hq : mayL N L with
                | false => rfl
                | true => rw [hq] at h; cases h
              refine ret_bool ?_
              show (bif (bif true then ((bif mayL N L then (0 : Int) else 1) == 1) else false) then (IntKind.i64.wrap (((bif mayL N L then 64 else 0 : Nat) : Int) + ((bif mayL N L then N else 0 : Nat) : Int)) == 0) else false) = true
              rw [hml]
              rfl
          )
        · first
          | (exfalso; simp_all; done)
          | (
              refine AW_skip ?_
              refine AW_seq ?_
              refine AW_seq ?_
              have hml : mayL N L = true := by
                have h : (!(mayL N (procsAt fun i q => prcI (L (0 + i)) q))) = false := h2
                rw [procs_0] at h
                cases hq : mayL N L with
                | true => rfl
                | false => rw [hq] at h; cases h
              obtain ⟨hn8, hmay⟩ := mayL_facts hml
              obtain ⟨M, hM⟩ : ∃ M, runM N ⟨W, L⟩ picks NP = M := ⟨_, rfl⟩
              refine AW_slot 9 (y := .cv (.one (uS 64 false M.m))) rfl (SLe.of_eq ?_) ?_
              · show SV.cv (CV.one (uS (bif mayL N L then 64 else 0) false (runM N ⟨W, L⟩ picks NP).m)) = _
                rw [hml, hM]
                rfl
              refine AW_slot 10 (y := .cv (.one (prcS N false M.l))) rfl (SLe.of_eq ?_) ?_
              · show SV.cv (CV.one (prcS (bif mayL N L then N else 0) false (runM N ⟨W, L⟩ picks NP).l)) = _
                rw [hml, hM]
                rfl
              refine AW_slot 11 (y := .cv (iint 0)) rfl (SLe.of_eq ?_) ?_
              · show SV.cv (iint (bif mayL N L then 0 else 1)) = _
                rw [hml]
                rfl
              have hMm : ∀ q, (M.l q).n ≤ maxLen := fun q => by
                rw [← hM, run_n]
                exact hLm q
              refine AW_all good tabB2 tabB2_ok rfl rfl ?_ ?_
              · repeat' (first | exact trivial | exact rfl | exact (fun _ _ => rfl) | refine And.intro ?_ ?_ | intro _)
                all_goals (first | omega | exact hk.1 | exact hk.2 | exact of_decide_eq_true (by assumption) | decide | exact hmx | exact hbytes | exact hN9 | exact hLm _ | exact hMm _ | (show 0 + (picks j).toNat < N; omega) | exact run_may hmay _ _ (show 0 + (picks j).toNat < N by omega) | exact prog_lit _ _ | exact procs_lit _ _ | exact procs_lit0 _ _ | (rename_i hg; exact hg) | (rename_i hg; change (_ : Bool) = true; rw [hg]; rfl) | (change (_ : Bool) = true; simp_all; done) | trace_state)
              refine AW_block ?_
              refine AW_loopH 1 (fun j : { j : Nat // j ≤ NP } => [(0, .cv (.one (uS 64 false (runM N ⟨W, L⟩ picks j.1).m))), (1, .cv (.one (.osl 0 8 0 0 N true))), (9, .cv (.one (uS 64 false M.m))), (10, .cv (.one (prcS N false M.l))), (11, .cv (iint 0)), (67, .cv (.one (iS NP false picks))), (68, .cv (iint NP)), (69, .cv (iint j.1))]) (fun j => [(0, .rows 54 8 N fun q c => prcI ((runM N ⟨W, L⟩ picks j.1).l q) c)]) (fun j => NP - j.1) ⟨0, Nat.zero_le _⟩ [0] rfl rfl ?_ ?_ ?_
              · exact ⟨SLe.of_eq rfl, SLe.of_eq rfl, SLe.of_eq rfl, SLe.of_eq rfl, SLe.of_eq rfl, SLe.of_eq rfl, SLe.of_eq rfl, SLe.of_eq rfl, trivial⟩
              · exact ⟨⟨rfl, _, rfl, BLe.of_eq rfl⟩, trivial⟩
              rintro ⟨j, hj⟩
              dsimp only at hj ⊢
              refine AW_seq ?_
              refine AW_all good tabB2 tabB2_ok rfl rfl ?_ ?_
              · repeat' (first | exact trivial | exact rfl | exact (fun _ _ => rfl) | refine And.intro ?_ ?_ | intro _)
                all_goals (first | omega | exact hk.1 | exact hk.2 | exact of_decide_eq_true (by assumption) | decide | exact hmx | exact hbytes | exact hN9 | exact hLm _ | exact hMm _ | (show 0 + (picks j).toNat < N; omega) | exact run_may hmay _ _ (show 0 + (picks j).toNat < N by omega) | exact prog_lit _ _ | exact procs_lit _ _ | exact procs_lit0 _ _ | (rename_i hg; exact hg) | (rename_i hg; change (_ : Bool) = true; rw [hg]; rfl) | (change (_ : Bool) = true; simp_all; done) | trace_state)
              refine AW_seq ?_
              refine AW_cond rfl (fun h3 => ?_) (fun h3 => ?_)
              · first
                | (exfalso; simp_all; done)
                | (
                    refine AW_skip ?_
                    refine AW_seq ?_
                    refine AW_block ?_
                    refine AW_seq ?_
                    have hltj : j < NP := by simpa using h3
                    refine AW_all good tabB2 tabB2_ok rfl rfl ?_ ?_
                    · repeat' (first | exact trivial | exact rfl | exact (fun _ _ => rfl) | refine And.intro ?_ ?_ | intro _)
                      all_goals (first | omega | exact hk.1 | exact hk.2 | exact of_decide_eq_true (by assumption) | decide | exact hmx | exact hbytes | exact hN9 | exact hLm _ | exact hMm _ | (show 0 + (picks j).toNat < N; omega) | exact run_may hmay _ _ (show 0 + (picks j).toNat < N by omega) | exact prog_lit _ _ | exact procs_lit _ _ | exact procs_lit0 _ _ | (rename_i hg; exact hg) | (rename_i hg; change (_ : Bool) = true; rw [hg]; rfl) | (change (_ : Bool) = true; simp_all; done) | trace_state)
                    refine AW_seq ?_
                    refine AW_all good tabB2 tabB2_ok rfl rfl ?_ ?_
                    · repeat' (first | exact trivial | exact rfl | exact (fun _ _ => rfl) | refine And.intro ?_ ?_ | intro _)
                      all_goals (first | omega | exact hk.1 | exact hk.2 | exact of_decide_eq_true (by assumption) | decide | exact hmx | exact hbytes | exact hN9 | exact hLm _ | exact hMm _ | (show 0 + (picks j).toNat < N; omega) | exact run_may hmay _ _ (show 0 + (picks j).toNat < N by omega) | exact prog_lit _ _ | exact procs_lit _ _ | exact procs_lit0 _ _ | (rename_i hg; exact hg) | (rename_i hg; change (_ : Bool) = true; rw [hg]; rfl) | (change (_ : Bool) = true; simp_all; done) | trace_state)
                    refine AW_cond rfl (fun h4 => ?_) (fun h4 => ?_)
                    · first
                      | (exfalso; simp_all; done)
                      | (
                          refine AW_seq ?_
                          have hk : 0 ≤ picks j ∧ picks j < N := by
                            have h : (bif decide (picks j ≥ 0) then decide (picks j < N) else false) = true := h4
                            cases hq : decide (picks j ≥ 0) with
                            | false => rw [hq] at h; cases h
                            | true => rw [hq] at h; exact ⟨of_decide_eq_true hq, of_decide_eq_true h⟩
                          refine AW_all good tabB2 tabB2_ok rfl rfl ?_ ?_
                          · repeat' (first | exact trivial | exact rfl | exact (fun _ _ => rfl) | refine And.intro ?_ ?_ | intro _)
                            all_goals (first | omega | exact hk.1 | exact hk.2 | exact of_decide_eq_true (by assumption) | decide | exact hmx | exact hbytes | exact hN9 | exact hLm _ | exact hMm _ | (show 0 + (picks j).toNat < N; omega) | exact run_may hmay _ _ (show 0 + (picks j).toNat < N by omega) | exact prog_lit _ _ | exact procs_lit _ _ | exact procs_lit0 _ _ | (rename_i hg; exact hg) | (rename_i hg; change (_ : Bool) = true; rw [hg]; rfl) | (change (_ : Bool) = true; simp_all; done) | trace_state)
                          refine AW_drwE good rfl tabB2 tabB2_ok rfl rfl rfl rfl ?_ ?_
                          · repeat' (first | exact trivial | exact rfl | exact (fun _ _ => rfl) | refine And.intro ?_ ?_ | intro _)
                            all_goals (first | omega | exact hk.1 | exact hk.2 | exact of_decide_eq_true (by assumption) | decide | exact hmx | exact hbytes | exact hN9 | exact hLm _ | exact hMm _ | (show 0 + (picks j).toNat < N; omega) | exact run_may hmay _ _ (show 0 + (picks j).toNat < N by omega) | exact prog_lit _ _ | exact procs_lit _ _ | exact procs_lit0 _ _ | (rename_i hg; exact hg) | (rename_i hg; change (_ : Bool) = true; rw [hg]; rfl) | (change (_ : Bool) = true; simp_all; done) | trace_state)
                          refine AW_all good tabB2 tabB2_ok rfl rfl ?_ ?_
                          · repeat' (first | exact trivial | exact rfl | exact (fun _ _ => rfl) | refine And.intro ?_ ?_ | intro _)
                            all_goals (first | omega | exact hk.1 | exact hk.2 | exact of_decide_eq_true (by assumption) | decide | exact hmx | exact hbytes | exact hN9 | exact hLm _ | exact hMm _ | (show 0 + (picks j).toNat < N; omega) | exact run_may hmay _ _ (show 0 + (picks j).toNat < N by omega) | exact prog_lit _ _ | exact procs_lit _ _ | exact procs_lit0 _ _ | (rename_i hg; exact hg) | (rename_i hg; change (_ : Bool) = true; rw [hg]; rfl) | (change (_ : Bool) = true; simp_all; done) | trace_state)
                          have hltj : j < NP := by simpa using h3
                          have e : runM N ⟨W, L⟩ picks (j + 1) = ⟨stepW (runM N ⟨W, L⟩ picks j).m ((runM N ⟨W, L⟩ picks j).l (0 + (picks j).toNat)), fun q => bif Nat.beq q (0 + (picks j).toNat) then stepP (runM N ⟨W, L⟩ picks j).m ((runM N ⟨W, L⟩ picks j).l (0 + (picks j).toNat)) else (runM N ⟨W, L⟩ picks j).l q⟩ := by
                            rw [Nat.zero_add]
                            exact pick_in hk
                          refine loopH_next ⟨j + 1, hltj⟩ [0] rfl rfl ⟨SLe.of_eq (congrArg (fun s : MSt => SV.cv (CV.one (uS 64 false s.m))) e.symm), SLe.of_eq rfl, SLe.of_eq rfl, SLe.of_eq rfl, SLe.of_eq rfl, SLe.of_eq rfl, SLe.of_eq rfl, SLe.of_eq (congrArg (fun z => SV.cv (iint z)) (next_int j NP hltj (by simp only [maxLen]; omega))), trivial⟩ ⟨⟨rfl, _, rfl, BLe.rows rfl (fun q c hq hc => ILe.of_eq ?_)⟩, trivial⟩ ?_
                          · rw [e]
                            exact row_put q (0 + (picks j).toNat) c hc
                          show NP - (j + 1) < NP - j
                          omega
                      )
                    · first
                      | (exfalso; simp_all; done)
                      | (
                          refine AW_skip ?_
                          refine AW_all good tabB2 tabB2_ok rfl rfl ?_ ?_
                          · repeat' (first | exact trivial | exact rfl | exact (fun _ _ => rfl) | refine And.intro ?_ ?_ | intro _)
                            all_goals (first | omega | exact hk.1 | exact hk.2 | exact of_decide_eq_true (by assumption) | decide | exact hmx | exact hbytes | exact hN9 | exact hLm _ | exact hMm _ | (show 0 + (picks j).toNat < N; omega) | exact run_may hmay _ _ (show 0 + (picks j).toNat < N by omega) | exact prog_lit _ _ | exact procs_lit _ _ | exact procs_lit0 _ _ | (rename_i hg; exact hg) | (rename_i hg; change (_ : Bool) = true; rw [hg]; rfl) | (change (_ : Bool) = true; simp_all; done) | trace_state)
                          have hltj : j < NP := by simpa using h3
                          have e : runM N ⟨W, L⟩ picks (j + 1) = runM N ⟨W, L⟩ picks j := pick_out h4
                          refine loopH_next ⟨j + 1, hltj⟩ [0] rfl rfl ⟨SLe.of_eq (congrArg (fun s : MSt => SV.cv (CV.one (uS 64 false s.m))) e.symm), SLe.of_eq rfl, SLe.of_eq rfl, SLe.of_eq rfl, SLe.of_eq rfl, SLe.of_eq rfl, SLe.of_eq rfl, SLe.of_eq (congrArg (fun z => SV.cv (iint z)) (next_int j NP hltj (by simp only [maxLen]; omega))), trivial⟩ ⟨⟨rfl, _, rfl, BLe.of_eq (congrArg (fun s : MSt => ABlk.rows 54 8 N fun i q => prcI (s.l i) q) e.symm)⟩, trivial⟩ ?_
                          show NP - (j + 1) < NP - j
                          omega
                      )
                )
              · first
                | (exfalso; simp_all; done)
                | (
                    refine AW_exit ?_
                    refine AW_seq ?_
                    refine AW_seq ?_
                    have hj2 : j = NP := by
                      have : ¬ j < NP := by simpa using h3
                      omega
                    subst hj2
                    refine AW_tell [(0, .cv (.one (uS 64 false M.m))), (1, .cv (.one (.osl 0 8 0 0 N true))), (9, .cv (.one (uS 64 false M.m))), (10, .cv (.one (prcS N false M.l))), (11, .cv (iint 0))] [(0, .rows 54 8 N fun q c => prcI (M.l q) c)] [0] rfl rfl ⟨SLe.of_eq (congrArg (fun s : MSt => SV.cv (CV.one (uS 64 false s.m))) hM), SLe.of_eq rfl, SLe.of_eq rfl, SLe.of_eq rfl, SLe.of_eq rfl, trivial⟩ ⟨⟨rfl, _, rfl, BLe.of_eq (congrArg (fun s : MSt => ABlk.rows 54 8 N fun i q => prcI (s.l i) q) hM)⟩, trivial⟩ ?_
                    clear hM
                    refine AW_all good tabB2 tabB2_ok rfl rfl ?_ ?_
                    · repeat' (first | exact trivial | exact rfl | exact (fun _ _ => rfl) | refine And.intro ?_ ?_ | intro _)
                      all_goals (first | omega | exact hk.1 | exact hk.2 | exact of_decide_eq_true (by assumption) | decide | exact hmx | exact hbytes | exact hN9 | exact hLm _ | exact hMm _ | (show 0 + (picks j).toNat < N; omega) | exact run_may hmay _ _ (show 0 + (picks j).toNat < N by omega) | exact prog_lit _ _ | exact procs_lit _ _ | exact procs_lit0 _ _ | (rename_i hg; exact hg) | (rename_i hg; change (_ : Bool) = true; rw [hg]; rfl) | (change (_ : Bool) = true; simp_all; done) | trace_state)
                    refine AW_cond rfl (fun h5 => ?_) (fun h5 => ?_)
                    · first
                      | (exfalso; simp_all; done)
                      | (
                          refine AW_seq ?_
                          refine AW_all good tabB2 tabB2_ok rfl rfl ?_ ?_
                          · repeat' (first | exact trivial | exact rfl | exact (fun _ _ => rfl) | refine And.intro ?_ ?_ | intro _)
                            all_goals (first | omega | exact hk.1 | exact hk.2 | exact of_decide_eq_true (by assumption) | decide | exact hmx | exact hbytes | exact hN9 | exact hLm _ | exact hMm _ | (show 0 + (picks j).toNat < N; omega) | exact run_may hmay _ _ (show 0 + (picks j).toNat < N by omega) | exact prog_lit _ _ | exact procs_lit _ _ | exact procs_lit0 _ _ | (rename_i hg; exact hg) | (rename_i hg; change (_ : Bool) = true; rw [hg]; rfl) | (change (_ : Bool) = true; simp_all; done) | trace_state)
                          refine AW_ret (bodyQ_ret rfl ?_ (Ends.intro rfl ?_ ?_))
                          · repeat' (first | exact trivial | exact rfl | exact (fun _ _ => rfl) | refine And.intro ?_ ?_ | intro _)
                            all_goals (first | omega | exact hk.1 | exact hk.2 | exact of_decide_eq_true (by assumption) | decide | exact hmx | exact hbytes | exact hN9 | exact hLm _ | exact hMm _ | (show 0 + (picks j).toNat < N; omega) | exact run_may hmay _ _ (show 0 + (picks j).toNat < N by omega) | exact prog_lit _ _ | exact procs_lit _ _ | exact procs_lit0 _ _ | (rename_i hg; exact hg) | (rename_i hg; change (_ : Bool) = true; rw [hg]; rfl) | (change (_ : Bool) = true; simp_all; done) | trace_state)
                          · repeat' (first | exact trivial | exact rfl | exact (fun _ _ => rfl) | refine And.intro ?_ ?_ | intro _)
                            all_goals (first | omega | exact hk.1 | exact hk.2 | exact of_decide_eq_true (by assumption) | decide | exact hmx | exact hbytes | exact hN9 | exact hLm _ | exact hMm _ | (show 0 + (picks j).toNat < N; omega) | exact run_may hmay _ _ (show 0 + (picks j).toNat < N by omega) | exact prog_lit _ _ | exact procs_lit _ _ | exact procs_lit0 _ _ | (rename_i hg; exact hg) | (rename_i hg; change (_ : Bool) = true; rw [hg]; rfl) | (change (_ : Bool) = true; simp_all; done) | trace_state)
                          exfalso
                          have h : (bif (bif (bif false then true else !(sameW 64 M.m 64 M.m)) then true else ((N : Int) != (N : Int))) then true else false) = true := h5
                          rw [sameW_self] at h
                          simp at h
                      )
                    · first
                      | (exfalso; simp_all; done)
                      | (
                          refine AW_skip ?_
                          refine AW_seq ?_
                          refine AW_seq ?_
                          refine AW_all good tabB2 tabB2_ok rfl rfl ?_ ?_
                          · repeat' (first | exact trivial | exact rfl | exact (fun _ _ => rfl) | refine And.intro ?_ ?_ | intro _)
                            all_goals (first | omega | exact hk.1 | exact hk.2 | exact of_decide_eq_true (by assumption) | decide | exact hmx | exact hbytes | exact hN9 | exact hLm _ | exact hMm _ | (show 0 + (picks j).toNat < N; omega) | exact run_may hmay _ _ (show 0 + (picks j).toNat < N by omega) | exact prog_lit _ _ | exact procs_lit _ _ | exact procs_lit0 _ _ | (rename_i hg; exact hg) | (rename_i hg; change (_ : Bool) = true; rw [hg]; rfl) | (change (_ : Bool) = true; simp_all; done) | trace_state)
                          refine AW_block ?_
                          refine AW_loopH 1 (fun j : { i : Nat // i ≤ N } => [(1, .cv (.one (.osl 0 8 0 0 N true))), (10, .cv (.one (prcS N false M.l))), (115, .cv (iint N)), (116, .cv (iint j.1))]) (fun _ => [(0, .rows 54 8 N fun q c => prcI (M.l q) c)]) (fun j => N - j.1) ⟨0, Nat.zero_le _⟩ [0] rfl rfl ?_ ?_ ?_
                          · exact ⟨SLe.of_eq rfl, SLe.of_eq rfl, SLe.of_eq rfl, SLe.of_eq rfl, trivial⟩
                          · exact ⟨⟨rfl, _, rfl, BLe.of_eq rfl⟩, trivial⟩
                          rintro ⟨i, hi⟩
                          dsimp only
                          refine AW_seq ?_
                          refine AW_all good tabB2 tabB2_ok rfl rfl ?_ ?_
                          · repeat' (first | exact trivial | exact rfl | exact (fun _ _ => rfl) | refine And.intro ?_ ?_ | intro _)
                            all_goals (first | omega | exact hk.1 | exact hk.2 | exact of_decide_eq_true (by assumption) | decide | exact hmx | exact hbytes | exact hN9 | exact hLm _ | exact hMm _ | (show 0 + (picks j).toNat < N; omega) | exact run_may hmay _ _ (show 0 + (picks j).toNat < N by omega) | exact prog_lit _ _ | exact procs_lit _ _ | exact procs_lit0 _ _ | (rename_i hg; exact hg) | (rename_i hg; change (_ : Bool) = true; rw [hg]; rfl) | (change (_ : Bool) = true; simp_all; done) | trace_state)
                          refine AW_seq ?_
                          refine AW_cond rfl (fun h6 => ?_) (fun h6 => ?_)
                          · first
                            | (exfalso; simp_all; done)
                            | (
                                refine AW_skip ?_
                                refine AW_seq ?_
                                refine AW_block ?_
                                refine AW_seq ?_
                                refine AW_all good tabB2 tabB2_ok rfl rfl ?_ ?_
                                · repeat' (first | exact trivial | exact rfl | exact (fun _ _ => rfl) | refine And.intro ?_ ?_ | intro _)
                                  all_goals (first | omega | exact hk.1 | exact hk.2 | exact of_decide_eq_true (by assumption) | decide | exact hmx | exact hbytes | exact hN9 | exact hLm _ | exact hMm _ | (show 0 + (picks j).toNat < N; omega) | exact run_may hmay _ _ (show 0 + (picks j).toNat < N by omega) | exact prog_lit _ _ | exact procs_lit _ _ | exact procs_lit0 _ _ | (rename_i hg; exact hg) | (rename_i hg; change (_ : Bool) = true; rw [hg]; rfl) | (change (_ : Bool) = true; simp_all; done) | trace_state)
                                refine AW_seq ?_
                                have hlt : i < N := by simpa using h6
                                refine AW_drwE good rfl tabB2 tabB2_ok rfl rfl rfl rfl ?_ ?_
                                · repeat' (first | exact trivial | exact rfl | exact (fun _ _ => rfl) | refine And.intro ?_ ?_ | intro _)
                                  all_goals (first | omega | exact hk.1 | exact hk.2 | exact of_decide_eq_true (by assumption) | decide | exact hmx | exact hbytes | exact hN9 | exact hLm _ | exact hMm _ | (show 0 + (picks j).toNat < N; omega) | exact run_may hmay _ _ (show 0 + (picks j).toNat < N by omega) | exact prog_lit _ _ | exact procs_lit _ _ | exact procs_lit0 _ _ | (rename_i hg; exact hg) | (rename_i hg; change (_ : Bool) = true; rw [hg]; rfl) | (change (_ : Bool) = true; simp_all; done) | trace_state)
                                refine AW_cond rfl (fun h7 => ?_) (fun h7 => ?_)
                                · first
                                  | (exfalso; simp_all; done)
                                  | (
                                      refine AW_seq ?_
                                      refine AW_all good tabB2 tabB2_ok rfl rfl ?_ ?_
                                      · repeat' (first | exact trivial | exact rfl | exact (fun _ _ => rfl) | refine And.intro ?_ ?_ | intro _)
                                        all_goals (first | omega | exact hk.1 | exact hk.2 | exact of_decide_eq_true (by assumption) | decide | exact hmx | exact hbytes | exact hN9 | exact hLm _ | exact hMm _ | (show 0 + (picks j).toNat < N; omega) | exact run_may hmay _ _ (show 0 + (picks j).toNat < N by omega) | exact prog_lit _ _ | exact procs_lit _ _ | exact procs_lit0 _ _ | (rename_i hg; exact hg) | (rename_i hg; change (_ : Bool) = true; rw [hg]; rfl) | (change (_ : Bool) = true; simp_all; done) | trace_state)
                                      refine AW_ret (bodyQ_ret rfl ?_ (Ends.intro rfl ?_ ?_))
                                      · repeat' (first | exact trivial | exact rfl | exact (fun _ _ => rfl) | refine And.intro ?_ ?_ | intro _)
                                        all_goals (first | omega | exact hk.1 | exact hk.2 | exact of_decide_eq_true (by assumption) | decide | exact hmx | exact hbytes | exact hN9 | exact hLm _ | exact hMm _ | (show 0 + (picks j).toNat < N; omega) | exact run_may hmay _ _ (show 0 + (picks j).toNat < N by omega) | exact prog_lit _ _ | exact procs_lit _ _ | exact procs_lit0 _ _ | (rename_i hg; exact hg) | (rename_i hg; change (_ : Bool) = true; rw [hg]; rfl) | (change (_ : Bool) = true; simp_all; done) | trace_state)
                                      · repeat' (first | exact trivial | exact rfl | exact (fun _ _ => rfl) | refine And.intro ?_ ?_ | intro _)
                                        all_goals (first | omega | exact hk.1 | exact hk.2 | exact of_decide_eq_true (by assumption) | decide | exact hmx | exact hbytes | exact hN9 | exact hLm _ | exact hMm _ | (show 0 + (picks j).toNat < N; omega) | exact run_may hmay _ _ (show 0 + (picks j).toNat < N by omega) | exact prog_lit _ _ | exact procs_lit _ _ | exact procs_lit0 _ _ | (rename_i hg; exact hg) | (rename_i hg; change (_ : Bool) = true; rw [hg]; rfl) | (change (_ : Bool) = true; simp_all; done) | trace_state)
                                      exfalso
                                      have h : (!(likeP (M.l (i : Int).toNat) (M.l (0 + (i : Int).toNat)))) = true := h7
                                      rw [Nat.zero_add, like_self] at h
                                      cases h
                                  )
                                · first
                                  | (exfalso; simp_all; done)
                                  | (
                                      refine AW_skip ?_
                                      refine AW_all good tabB2 tabB2_ok rfl rfl ?_ ?_
                                      · repeat' (first | exact trivial | exact rfl | exact (fun _ _ => rfl) | refine And.intro ?_ ?_ | intro _)
                                        all_goals (first | omega | exact hk.1 | exact hk.2 | exact of_decide_eq_true (by assumption) | decide | exact hmx | exact hbytes | exact hN9 | exact hLm _ | exact hMm _ | (show 0 + (picks j).toNat < N; omega) | exact run_may hmay _ _ (show 0 + (picks j).toNat < N by omega) | exact prog_lit _ _ | exact procs_lit _ _ | exact procs_lit0 _ _ | (rename_i hg; exact hg) | (rename_i hg; change (_ : Bool) = true; rw [hg]; rfl) | (change (_ : Bool) = true; simp_all; done) | trace_state)
                                      have hlt : i < N := by simpa using h6
                                      refine loopH_next ⟨i + 1, hlt⟩ [0] rfl rfl ⟨SLe.of_eq rfl, SLe.of_eq rfl, SLe.of_eq rfl, SLe.of_eq (congrArg (fun z => SV.cv (iint z)) (next_int i N hlt hmx)), trivial⟩ ⟨⟨rfl, _, rfl, BLe.of_eq rfl⟩, trivial⟩ ?_
                                      show N - (i + 1) < N - i
                                      omega
                                  )
                            )
                          · first
                            | (exfalso; simp_all; done)
                            | (
                                refine AW_exit ?_
                                refine AW_seq ?_
                                refine AW_all good tabB2 tabB2_ok rfl rfl ?_ ?_
                                · repeat' (first | exact trivial | exact rfl | exact (fun _ _ => rfl) | refine And.intro ?_ ?_ | intro _)
                                  all_goals (first | omega | exact hk.1 | exact hk.2 | exact of_decide_eq_true (by assumption) | decide | exact hmx | exact hbytes | exact hN9 | exact hLm _ | exact hMm _ | (show 0 + (picks j).toNat < N; omega) | exact run_may hmay _ _ (show 0 + (picks j).toNat < N by omega) | exact prog_lit _ _ | exact procs_lit _ _ | exact procs_lit0 _ _ | (rename_i hg; exact hg) | (rename_i hg; change (_ : Bool) = true; rw [hg]; rfl) | (change (_ : Bool) = true; simp_all; done) | trace_state)
                                refine AW_ret (bodyQ_ret rfl ?_ (Ends.intro rfl ?_ ?_))
                                · repeat' (first | exact trivial | exact rfl | exact (fun _ _ => rfl) | refine And.intro ?_ ?_ | intro _)
                                  all_goals (first | omega | exact hk.1 | exact hk.2 | exact of_decide_eq_true (by assumption) | decide | exact hmx | exact hbytes | exact hN9 | exact hLm _ | exact hMm _ | (show 0 + (picks j).toNat < N; omega) | exact run_may hmay _ _ (show 0 + (picks j).toNat < N by omega) | exact prog_lit _ _ | exact procs_lit _ _ | exact procs_lit0 _ _ | (rename_i hg; exact hg) | (rename_i hg; change (_ : Bool) = true; rw [hg]; rfl) | (change (_ : Bool) = true; simp_all; done) | trace_state)
                                · repeat' (first | exact trivial | exact rfl | exact (fun _ _ => rfl) | refine And.intro ?_ ?_ | intro _)
                                  all_goals (first | omega | exact hk.1 | exact hk.2 | exact of_decide_eq_true (by assumption) | decide | exact hmx | exact hbytes | exact hN9 | exact hLm _ | exact hMm _ | (show 0 + (picks j).toNat < N; omega) | exact run_may hmay _ _ (show 0 + (picks j).toNat < N by omega) | exact prog_lit _ _ | exact procs_lit _ _ | exact procs_lit0 _ _ | (rename_i hg; exact hg) | (rename_i hg; change (_ : Bool) = true; rw [hg]; rfl) | (change (_ : Bool) = true; simp_all; done) | trace_state)
                                rfl
                            )
                      )
                )
          )
    )
end Go.Proofs.Ytndfcbcmeeemfaa.Abs
