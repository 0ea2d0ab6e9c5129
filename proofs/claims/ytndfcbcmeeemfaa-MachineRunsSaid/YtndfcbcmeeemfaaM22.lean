/-
  RUNS OF PROCESSES THAT ARE THE CALLER'S OWN.
-/
import Derived.Test.YtndfcbcmeeemfaaM21
namespace Go.Proofs.Ytndfcbcmeeemfaa.Abs
open Go
set_option maxRecDepth 10000

section
variable {K : Nat} {P : Program} {T : Lays} {S : St} {Q : Exit → St → Prop}
theorem AL_isnilO (G : Good P T) {ops : Array Oper} {o : Oper} {rest : List Oper} {t t' e : TypeId} {x : Operand} {s b : Nat} {z : List Value} {b0 es r j n k nx : Nat} {app : Bool} {E : Nat → SV} {H : Nat → Option ABlk} (hg : o.guard = none) (ho : o.op = .binOp .eql t x (.const (.slice none 0 0)) t') (hL : T t = some ⟨.sl e, s, b, z⟩)
    (hx : rd E x = .cv (.one (.osl b0 es r j n app))) (hn : need E x) (hd : dstOk o.dst k = true) (h : ∀ q : Bool, (q = true → n = 0) → AL K P ops rest Q ⟨k, putE E o.dst (.cv (ibool q)), H, nx⟩) : AL K P ops (o :: rest) Q ⟨k, E, H, nx⟩ := by
  intro C μ a w hR
  have hu := under_sl (G.lay t _ hL)
  have hv : ARel w (Own C.F H μ) μ (.osl b0 es r j n app) (a.eval x) := rd_one hR.env hx hn
  unfold wpList
  rw [if_pos (by simp [Region.wanted, hg])]
  refine .inl ?_
  have go : ∀ (ad : Option Addr) (c : Nat), a.eval x = .slice ad n c → (ad.isNone = true → n = 0) → o.wp P a w (wpList P ops (Lift C Q) rest) (Lift C Q) := by
    intro ad c hval hz
    have hrun : (execOp a.eval o).run P w = .ok (.value (.bool ad.isNone)) w := by
      have hgd : (eqGuard .eql t x (.const (.slice none 0 0)) (.slice ad n c) (.slice none 0 0)).run P w = .ok () w := by simp [eqGuard]
      have hc : a.eval (.const (.slice none 0 0)) = .slice none 0 0 := rfl
      simp only [execOp, ho, hval, hc, Sem.run_bind, hgd, Result.andThen_ok, run_isnil hu, Sem.run_pure]
    unfold Oper.wp
    rw [hrun]
    exact h ad.isNone hz C μ _ w (hR.put (d := o.dst) (x := .cv (ibool ad.isNone)) (v := .bool ad.isNone) ⟨rfl, rfl⟩ hd)
  rcases hv with ⟨hn0, ad, hval⟩ | ⟨m, cap, hm, hval, _⟩
  · exact go ad 0 (by rw [hval, hn0]) fun _ => hn0
  · exact go _ cap hval fun h => by cases h
end

theorem EndsE.two {b n' : Nat} {res x : SV} {H' : Nat → Option ABlk} {A A0 B B0 : ABlk} (hb : (nodupB [0, b] && Nat.blt b n') = true) (hx : SLe x (renS (rho [0, b] n') res)) (hA : H' 0 = some A0) (hAle : BLe A0 (renB (rho [0, b] n') A)) (hB : H' b = some B0) (hle : BLe B0 (renB (rho [0, b] n') B)) : EndsE [A] [0, b] res (updH (heapOf [A]) [(1, some B)]) x H' n' := by
  rw [Bool.and_eq_true] at hb
  have hbl : b < n' := Nat.le_of_ble_eq_true hb.2
  refine ⟨hb.1, fun c hc => ?_, fun j hj => ?_, hx, fun j c hj B' hB' => ?_, fun j hj => ?_⟩
  · simp only [List.mem_cons, List.not_mem_nil, or_false] at hc
    omega
  · obtain rfl : j = 0 := by
      have : j < 1 := hj
      omega
    rfl
  · rw [updH_one] at hB'
    match j, hj with
    | 0, hj =>
      simp only [List.getElem?_cons_zero, Option.some.injEq] at hj
      subst hj
      rw [if_neg (by omega)] at hB'
      simp only [heapOf, List.getElem?_cons_zero, Option.some.injEq] at hB'
      subst hB'
      exact ⟨A0, hA, hAle⟩
    | 1, hj =>
      simp only [List.getElem?_cons_succ, List.getElem?_cons_zero, Option.some.injEq] at hj
      subst hj
      rw [if_pos rfl, Option.some.injEq] at hB'
      subst hB'
      exact ⟨B0, hB, hle⟩
    | j + 2, hj => simp at hj
  · have h2 : 2 ≤ j := hj
    rw [updH_one, if_neg (by omega)]
    show ([A] : List ABlk)[j]? = none
    exact List.getElem?_eq_none (by show 1 ≤ j; omega)
theorem EndsE.kept {n' : Nat} {res x : SV} {H' : Nat → Option ABlk} {A A0 : ABlk} (hb : Nat.blt 0 n' = true) (hx : SLe x (renS (rho [0] n') res)) (hA : H' 0 = some A0) (hAle : BLe A0 (renB (rho [0] n') A)) : EndsE [A] [0] res (updH (heapOf [A]) []) x H' n' := by
  have hbl : 0 < n' := Nat.le_of_ble_eq_true hb
  refine ⟨rfl, fun c hc => ?_, fun j hj => ?_, hx, fun j c hj B' hB' => ?_, fun j hj => ?_⟩
  · simp only [List.mem_cons, List.not_mem_nil, or_false] at hc
    omega
  · obtain rfl : j = 0 := by
      have : j < 1 := hj
      omega
    rfl
  · match j, hj with
    | 0, hj =>
      simp only [List.getElem?_cons_zero, Option.some.injEq] at hj
      subst hj
      have hB' : some A = some B' := hB'
      simp only [Option.some.injEq] at hB'
      subst hB'
      exact ⟨A0, hA, hAle⟩
    | j + 1, hj => simp at hj
  · show ([A] : List ABlk)[j]? = none
    exact List.getElem?_eq_none hj

theorem clone45o (n : Nat) (app : Bool) (cell : Nat → Nat → IV) (h1 : n * 80 ≤ 140737488355328) (h2 : n ≤ maxLen) :
    ACall Try.prog 45 [.one (.osl 0 8 0 0 n app)] (heapOf [.rows 54 8 n cell]) 1 fun x H' n' => x = .cv (.one (.osl 1 8 0 0 n true)) ∧ H' = updH (heapOf [.rows 54 8 n cell]) [(1, some (.rows 54 8 n cell))] ∧ n' = 1 + 1 := by
  refine ACall_norm (Bs := [.rows 54 8 n cell]) (cnt := 1) ?_
  refine ACall_body good Try.func45 rfl 8 rfl (by simp) ?_
  refine AW_seq (AW_all good tab0 (tab0_ok _) rfl rfl ?_ ?_)
  · repeat' (first | exact trivial | apply And.intro | intro _)
  refine AW_seq (AW_seq (AW_part good tab0 (tab0_ok _) et0 (et0_ok _) [] rfl rfl ?_ ?_))
  · repeat' (first | exact trivial | apply And.intro | intro _)
  refine AL_isnilO good rfl rfl rfl rfl trivial rfl (fun q hq => AL_nil ?_)
  refine AW_cond rfl (fun h => ?_) (fun h => ?_)
  · refine AW_seq (AW_all good tab0 (tab0_ok _) rfl rfl ?_ ?_)
    · repeat' (first | exact trivial | apply And.intro | intro _)
    obtain rfl := hq h
    refine AW_own_empty 2 54 8 cell rfl rfl rfl ?_
    refine AW_ret ?_
    refine ⟨_, _, rfl, ?_, [0, 1], rfl, EndsE.two rfl ?_ rfl ?_ rfl ?_⟩
    · repeat' (first | exact trivial | apply And.intro | intro _)
    · exact SLe.of_eq rfl
    · exact BLe.of_eq rfl
    · exact BLe.of_eq rfl
  · refine AW_skip ?_
    refine AW_seq (AW_all good tab0 (tab0_ok _) rfl rfl ?_ ?_)
    · repeat' (first | exact trivial | apply And.intro | intro _)
      all_goals (first | omega | (show (0 + n) * 80 ≤ _; omega))
    refine AW_ret ?_
    refine ⟨_, _, rfl, ?_, [0, 2], rfl, EndsE.two rfl ?_ rfl ?_ rfl ?_⟩
    · repeat' (first | exact trivial | apply And.intro | intro _)
    · exact SLe.of_eq (by rw [Nat.zero_add]; rfl)
    · exact BLe.of_eq rfl
    · refine BLe.rows (by omega) fun i j hi hj => ILe.of_eq ?_
      show (bif Nat.blt i 0 then _ else cell (0 + (i - 0)) j) = cell i j
      have : Nat.blt i 0 = false := by cases i <;> rfl
      rw [this, Nat.zero_add]
      rfl

def etO : ETab := etAdd 45 (fun args H => match args with
  | [.one (.osl b 8 0 0 n _)] => match H b with
    | some (.rows 54 8 n' cell) => some ⟨[b], .cv (.one (.osl 1 8 0 0 n true)), [(1, some (.rows 54 8 n cell))], 1, n' = n ∧ n * 80 ≤ 140737488355328 ∧ n ≤ maxLen⟩
    | _ => none
  | _ => none) et0
theorem etO_ok : ETabOk Try.prog etO := by
  refine etAdd_ok rfl (fun args H e h hv => ?_) (et0_ok _)
  split at h
  · rename_i b n app
    split at h
    · rename_i n' cell hb
      simp only [Option.some.injEq] at h
      subst h
      obtain ⟨rfl, h1, h2⟩ := hv
      refine ⟨rfl, [.one (.osl 0 8 0 0 n' app)], [.rows 54 8 n' cell], rfl, fun nx => rfl, fun nx j c hj => ?_, clone45o n' app cell h1 h2⟩
      match j, hj with
      | 0, hj =>
        simp only [List.getElem?_cons_zero, Option.some.injEq] at hj
        subst hj
        exact hb
      | j + 1, hj => simp at hj
    · cases h
  · cases h

theorem procs_0 (l : Nat → Prc) : (procsAt fun i q => prcI (l (0 + i)) q) = l := funext fun i => by
  show l (0 + i) = l i
  rw [Nat.zero_add]
def runV (m : Nat → Int) (n : Nat) (l : Nat → Prc) (np : Nat) (picks : Nat → Int) : SV := .tup [.one (uS (bif mayL n l then 64 else 0) false (runM n ⟨m, l⟩ picks np).m), .one (prcS (bif mayL n l then n else 0) false (runM n ⟨m, l⟩ picks np).l), iint (bif mayL n l then 0 else 1)]

theorem run28o (ex : Bool) (m : Nat → Int) (n : Nat) (app : Bool) (l : Nat → Prc) (np : Nat) (ex'' : Bool) (picks : Nat → Int) (hn9 : n ≤ 9) (hp : np ≤ 4000) :
    ACall Try.prog 28 [.one (uS 64 ex m), .one (.osl 0 8 0 0 n app), .one (iS np ex'' picks)] (heapOf [.rows 54 8 n fun i c => prcI (l i) c]) 1 fun x H' n' => x = runV m n l np picks ∧ H' = updH (heapOf [.rows 54 8 n fun i c => prcI (l i) c]) [] ∧ n' = 1 + 0 := by
  refine ACall_norm (Bs := [.rows 54 8 n fun i c => prcI (l i) c]) (cnt := 0) ?_
  have hmx : n ≤ maxLen := by simp only [maxLen]; omega
  have h80 : n * 80 ≤ 140737488355328 := by omega
  refine ACall_body good Try.func28 rfl 55 rfl (by simp) ?_
  refine AW_seq ?_
  refine AW_all good tabV tabV_ok rfl rfl ?_ ?_
  · repeat' (first | exact trivial | exact rfl | exact (fun _ _ => rfl) | refine And.intro ?_ ?_ | intro _)
    all_goals (first | exact hmx | exact h80 | omega | exact of_decide_eq_true (by assumption) | exact hk.1 | exact hk.2 | (show 0 + (picks i).toNat < n; omega) | exact run_may hmay _ _ (by omega) | exact run_may hmay i _ (show 0 + (picks i).toNat < n by omega) | exact prog_lit _ _ | exact procs_lit _ _ | exact procs_lit0 _ _ | (rename_i hg; exact hg) | (rename_i hg; change (_ : Bool) = true; rw [hg]; rfl) | (change (_ : Bool) = true; simp_all; done) | trace_state)
  refine AW_seq ?_
  refine AW_seq ?_
  refine AW_all good tabV tabV_ok rfl rfl ?_ ?_
  · repeat' (first | exact trivial | exact rfl | exact (fun _ _ => rfl) | refine And.intro ?_ ?_ | intro _)
    all_goals (first | exact hmx | exact h80 | omega | exact of_decide_eq_true (by assumption) | exact hk.1 | exact hk.2 | (show 0 + (picks i).toNat < n; omega) | exact run_may hmay _ _ (by omega) | exact run_may hmay i _ (show 0 + (picks i).toNat < n by omega) | exact prog_lit _ _ | exact procs_lit _ _ | exact procs_lit0 _ _ | (rename_i hg; exact hg) | (rename_i hg; change (_ : Bool) = true; rw [hg]; rfl) | (change (_ : Bool) = true; simp_all; done) | trace_state)
  refine AW_cond rfl (fun h1 => ?_) (fun h1 => ?_)
  · first
    | (exfalso; simp_all; done)
    | (
        refine AW_seq ?_
        refine AW_all good tabV tabV_ok rfl rfl ?_ ?_
        · repeat' (first | exact trivial | exact rfl | exact (fun _ _ => rfl) | refine And.intro ?_ ?_ | intro _)
          all_goals (first | exact hmx | exact h80 | omega | exact of_decide_eq_true (by assumption) | exact hk.1 | exact hk.2 | (show 0 + (picks i).toNat < n; omega) | exact run_may hmay _ _ (by omega) | exact run_may hmay i _ (show 0 + (picks i).toNat < n by omega) | exact prog_lit _ _ | exact procs_lit _ _ | exact procs_lit0 _ _ | (rename_i hg; exact hg) | (rename_i hg; change (_ : Bool) = true; rw [hg]; rfl) | (change (_ : Bool) = true; simp_all; done) | trace_state)
        have hml : mayL n l = false := by
          have h : (bif bif !mayL n (procsAt fun i q => prcI (l (0 + i)) q) then true else false then true else decide ((np : Int) > 4000)) = true := h1
          rw [procs_0] at h
          cases hq : mayL n l with
          | false => rfl
          | true =>
            rw [hq] at h
            have h : decide ((np : Int) > 4000) = true := h
            have := of_decide_eq_true h
            omega
        refine AW_ret ⟨_, _, rfl, ?_, [0], rfl, EndsE.kept rfl ?_ rfl (BLe.of_eq rfl)⟩
        · repeat' (first | exact trivial | exact rfl | exact (fun _ _ => rfl) | refine And.intro ?_ ?_ | intro _)
        unfold runV
        rw [hml]
        exact SLe.triple (CLe.imm (ILe.sl rfl (by simp) (.inl rfl))) (CLe.imm (ILe.sl rfl (by simp) (.inl rfl))) (CLe.of_eq rfl)
    )
  · first
    | (exfalso; simp_all; done)
    | (
        refine AW_skip ?_
        refine AW_seq ?_
        have hl : mayL n l = true := by
          have h : (bif bif !mayL n (procsAt fun i q => prcI (l (0 + i)) q) then true else false then true else decide ((np : Int) > 4000)) = false := h1
          rw [procs_0] at h
          cases hq : mayL n l with
          | true => rfl
          | false => rw [hq] at h; cases h
        obtain ⟨hn8, hmay⟩ := mayL_facts hl
        refine AW_eff good tabV tabV_ok etO etO_ok [] rfl rfl ?_ ?_
        · repeat' (first | exact trivial | exact rfl | exact (fun _ _ => rfl) | refine And.intro ?_ ?_ | intro _)
          all_goals (first | exact hmx | exact h80 | omega | exact of_decide_eq_true (by assumption) | exact hk.1 | exact hk.2 | (show 0 + (picks i).toNat < n; omega) | exact run_may hmay _ _ (by omega) | exact run_may hmay i _ (show 0 + (picks i).toNat < n by omega) | exact prog_lit _ _ | exact procs_lit _ _ | exact procs_lit0 _ _ | (rename_i hg; exact hg) | (rename_i hg; change (_ : Bool) = true; rw [hg]; rfl) | (change (_ : Bool) = true; simp_all; done) | trace_state)
        refine AW_seq ?_
        refine AW_seq ?_
        refine AW_all good tabV tabV_ok rfl rfl ?_ ?_
        · repeat' (first | exact trivial | exact rfl | exact (fun _ _ => rfl) | refine And.intro ?_ ?_ | intro _)
          all_goals (first | exact hmx | exact h80 | omega | exact of_decide_eq_true (by assumption) | exact hk.1 | exact hk.2 | (show 0 + (picks i).toNat < n; omega) | exact run_may hmay _ _ (by omega) | exact run_may hmay i _ (show 0 + (picks i).toNat < n by omega) | exact prog_lit _ _ | exact procs_lit _ _ | exact procs_lit0 _ _ | (rename_i hg; exact hg) | (rename_i hg; change (_ : Bool) = true; rw [hg]; rfl) | (change (_ : Bool) = true; simp_all; done) | trace_state)
        refine AW_block ?_
        refine AW_loopH 2 (fun j : { i : Nat // i ≤ np } => [(0, .cv (.one (uS 64 false (runM n ⟨m, l⟩ picks j.1).m))), (1, .cv (.one (.osl 1 8 0 0 n true))), (26, .cv (.one (iS np ex'' picks))), (27, .cv (iint np)), (28, .cv (iint j.1))]) (fun j => [(0, .rows 54 8 n fun i c => prcI (l i) c), (1, .rows 54 8 n fun i q => prcI ((runM n ⟨m, l⟩ picks j.1).l i) q)]) (fun j => np - j.1) ⟨0, Nat.zero_le _⟩ [0, 1] rfl rfl ?_ ?_ ?_
        · exact ⟨SLe.cv (uS_le rfl fun _ => rfl), SLe.of_eq rfl, SLe.of_eq rfl, SLe.of_eq rfl, SLe.of_eq rfl, trivial⟩
        · exact ⟨⟨rfl, _, rfl, BLe.of_eq rfl⟩, ⟨rfl, _, rfl, BLe.of_eq rfl⟩, trivial⟩
        rintro ⟨i, hi⟩
        dsimp only
        refine AW_seq ?_
        refine AW_all good tabV tabV_ok rfl rfl ?_ ?_
        · repeat' (first | exact trivial | exact rfl | exact (fun _ _ => rfl) | refine And.intro ?_ ?_ | intro _)
          all_goals (first | exact hmx | exact h80 | omega | exact of_decide_eq_true (by assumption) | exact hk.1 | exact hk.2 | (show 0 + (picks i).toNat < n; omega) | exact run_may hmay _ _ (by omega) | exact run_may hmay i _ (show 0 + (picks i).toNat < n by omega) | exact prog_lit _ _ | exact procs_lit _ _ | exact procs_lit0 _ _ | (rename_i hg; exact hg) | (rename_i hg; change (_ : Bool) = true; rw [hg]; rfl) | (change (_ : Bool) = true; simp_all; done) | trace_state)
        refine AW_seq ?_
        refine AW_cond rfl (fun h2 => ?_) (fun h2 => ?_)
        · first
          | (exfalso; simp_all; done)
          | (
              refine AW_skip ?_
              refine AW_seq ?_
              refine AW_block ?_
              refine AW_seq ?_
              have hlt : i < np := by simpa using h2
              refine AW_all good tabV tabV_ok rfl rfl ?_ ?_
              · repeat' (first | exact trivial | exact rfl | exact (fun _ _ => rfl) | refine And.intro ?_ ?_ | intro _)
                all_goals (first | exact hmx | exact h80 | omega | exact of_decide_eq_true (by assumption) | exact hk.1 | exact hk.2 | (show 0 + (picks i).toNat < n; omega) | exact run_may hmay _ _ (by omega) | exact run_may hmay i _ (show 0 + (picks i).toNat < n by omega) | exact prog_lit _ _ | exact procs_lit _ _ | exact procs_lit0 _ _ | (rename_i hg; exact hg) | (rename_i hg; change (_ : Bool) = true; rw [hg]; rfl) | (change (_ : Bool) = true; simp_all; done) | trace_state)
              refine AW_seq ?_
              refine AW_all good tabV tabV_ok rfl rfl ?_ ?_
              · repeat' (first | exact trivial | exact rfl | exact (fun _ _ => rfl) | refine And.intro ?_ ?_ | intro _)
                all_goals (first | exact hmx | exact h80 | omega | exact of_decide_eq_true (by assumption) | exact hk.1 | exact hk.2 | (show 0 + (picks i).toNat < n; omega) | exact run_may hmay _ _ (by omega) | exact run_may hmay i _ (show 0 + (picks i).toNat < n by omega) | exact prog_lit _ _ | exact procs_lit _ _ | exact procs_lit0 _ _ | (rename_i hg; exact hg) | (rename_i hg; change (_ : Bool) = true; rw [hg]; rfl) | (change (_ : Bool) = true; simp_all; done) | trace_state)
              refine AW_cond rfl (fun h3 => ?_) (fun h3 => ?_)
              · first
                | (exfalso; simp_all; done)
                | (
                    have hk : 0 ≤ picks i ∧ picks i < n := by
                      have h : (bif decide (picks i ≥ 0) then decide (picks i < n) else false) = true := h3
                      cases hq : decide (picks i ≥ 0) with
                      | false => rw [hq] at h; cases h
                      | true => rw [hq] at h; exact ⟨of_decide_eq_true hq, of_decide_eq_true h⟩
                    have hki : ((i : Nat) : Int).toNat = i := by omega
                    refine AW_all good tabV tabV_ok rfl rfl ?_ ?_
                    · repeat' (first | exact trivial | exact rfl | exact (fun _ _ => rfl) | refine And.intro ?_ ?_ | intro _)
                      all_goals (first | exact hmx | exact h80 | omega | exact of_decide_eq_true (by assumption) | exact hk.1 | exact hk.2 | (show 0 + (picks i).toNat < n; omega) | exact run_may hmay _ _ (by omega) | exact run_may hmay i _ (show 0 + (picks i).toNat < n by omega) | exact prog_lit _ _ | exact procs_lit _ _ | exact procs_lit0 _ _ | (rename_i hg; exact hg) | (rename_i hg; change (_ : Bool) = true; rw [hg]; rfl) | (change (_ : Bool) = true; simp_all; done) | trace_state)
                    refine AW_all good tabV tabV_ok rfl rfl ?_ ?_
                    · repeat' (first | exact trivial | exact rfl | exact (fun _ _ => rfl) | refine And.intro ?_ ?_ | intro _)
                      all_goals (first | exact hmx | exact h80 | omega | exact of_decide_eq_true (by assumption) | exact hk.1 | exact hk.2 | (show 0 + (picks i).toNat < n; omega) | exact run_may hmay _ _ (by omega) | exact run_may hmay i _ (show 0 + (picks i).toNat < n by omega) | exact prog_lit _ _ | exact procs_lit _ _ | exact procs_lit0 _ _ | (rename_i hg; exact hg) | (rename_i hg; change (_ : Bool) = true; rw [hg]; rfl) | (change (_ : Bool) = true; simp_all; done) | trace_state)
                    have e : runM n ⟨m, l⟩ picks (i + 1) = ⟨stepW (runM n ⟨m, l⟩ picks i).m ((runM n ⟨m, l⟩ picks i).l (0 + (picks i).toNat)), fun q => bif Nat.beq q (0 + (picks i).toNat) then stepP (runM n ⟨m, l⟩ picks i).m ((runM n ⟨m, l⟩ picks i).l (0 + (picks i).toNat)) else (runM n ⟨m, l⟩ picks i).l q⟩ := by
                      rw [Nat.zero_add]
                      exact pick_in hk
                    refine loopH_next ⟨i + 1, hlt⟩ [0, 1] rfl rfl ⟨SLe.of_eq (congrArg (fun s : MSt => SV.cv (CV.one (uS 64 false s.m))) e.symm), SLe.of_eq rfl, SLe.of_eq rfl, SLe.of_eq rfl, SLe.of_eq (congrArg (fun z => SV.cv (iint z)) (next_int i np hlt (by simp only [maxLen]; omega))), trivial⟩ ⟨⟨rfl, _, rfl, BLe.of_eq rfl⟩, ⟨rfl, _, rfl, BLe.rows rfl (fun q j hq hj => ILe.of_eq ?_)⟩, trivial⟩ ?_
                    · rw [e]
                      exact row_put q (0 + (picks i).toNat) j hj
                    show np - (i + 1) < np - i
                    omega
                )
              · first
                | (exfalso; simp_all; done)
                | (
                    refine AW_skip ?_
                    refine AW_all good tabV tabV_ok rfl rfl ?_ ?_
                    · repeat' (first | exact trivial | exact rfl | exact (fun _ _ => rfl) | refine And.intro ?_ ?_ | intro _)
                      all_goals (first | exact hmx | exact h80 | omega | exact of_decide_eq_true (by assumption) | exact hk.1 | exact hk.2 | (show 0 + (picks i).toNat < n; omega) | exact run_may hmay _ _ (by omega) | exact run_may hmay i _ (show 0 + (picks i).toNat < n by omega) | exact prog_lit _ _ | exact procs_lit _ _ | exact procs_lit0 _ _ | (rename_i hg; exact hg) | (rename_i hg; change (_ : Bool) = true; rw [hg]; rfl) | (change (_ : Bool) = true; simp_all; done) | trace_state)
                    have e : runM n ⟨m, l⟩ picks (i + 1) = runM n ⟨m, l⟩ picks i := pick_out h3
                    refine loopH_next ⟨i + 1, hlt⟩ [0, 1] rfl rfl ⟨SLe.of_eq (congrArg (fun s : MSt => SV.cv (CV.one (uS 64 false s.m))) e.symm), SLe.of_eq rfl, SLe.of_eq rfl, SLe.of_eq rfl, SLe.of_eq (congrArg (fun z => SV.cv (iint z)) (next_int i np hlt (by simp only [maxLen]; omega))), trivial⟩ ⟨⟨rfl, _, rfl, BLe.of_eq rfl⟩, ⟨rfl, _, rfl, BLe.of_eq (congrArg (fun s : MSt => ABlk.rows 54 8 n fun i q => prcI (s.l i) q) e.symm)⟩, trivial⟩ ?_
                    show np - (i + 1) < np - i
                    omega
                )
          )
        · first
          | (exfalso; simp_all; done)
          | (
              refine AW_exit ?_
              refine AW_seq ?_
              refine AW_all good tabV tabV_ok rfl rfl ?_ ?_
              · repeat' (first | exact trivial | exact rfl | exact (fun _ _ => rfl) | refine And.intro ?_ ?_ | intro _)
                all_goals (first | exact hmx | exact h80 | omega | exact of_decide_eq_true (by assumption) | exact hk.1 | exact hk.2 | (show 0 + (picks i).toNat < n; omega) | exact run_may hmay _ _ (by omega) | exact run_may hmay i _ (show 0 + (picks i).toNat < n by omega) | exact prog_lit _ _ | exact procs_lit _ _ | exact procs_lit0 _ _ | (rename_i hg; exact hg) | (rename_i hg; change (_ : Bool) = true; rw [hg]; rfl) | (change (_ : Bool) = true; simp_all; done) | trace_state)
              have he : i = np := by
                have : ¬ i < np := by simpa using h2
                omega
              subst he
              refine AW_give 1 7 rfl (by omega) ?_
              refine AW_ret ⟨_, _, rfl, ?_, [0], rfl, EndsE.kept rfl ?_ rfl (BLe.of_eq rfl)⟩
              · repeat' (first | exact trivial | exact rfl | exact (fun _ _ => rfl) | refine And.intro ?_ ?_ | intro _)
              unfold runV
              rw [hl]
              exact SLe.triple (CLe.of_eq rfl) (CLe.imm (ILe.sl (by simp) (by simp) (.inr ⟨rfl, fun i j _ _ => ILe.of_eq (by rw [Nat.zero_add])⟩))) (CLe.of_eq rfl)
          )
    )
end Go.Proofs.Ytndfcbcmeeemfaa.Abs
