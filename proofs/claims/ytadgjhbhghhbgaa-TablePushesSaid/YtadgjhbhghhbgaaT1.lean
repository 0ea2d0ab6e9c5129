/-
  ROWS OF INTEGERS: the first place of one, copies, repeats.
-/
import Derived.Test.YtadgjhbhghhbgaaLay
import Derived.Test.YtadgjhbhghhbgaaX8
namespace Go.Proofs.Ytadgjhbhghhbgaa.Abs
open Go
set_option maxRecDepth 10000

theorem index37 (n : Nat) (ex : Bool) (g : Nat → Int) (v : Int) : PCall Try.prog 37 [.one (iS n ex g), iint v] (.cv (iint (idxOf (fun i => v == g i) n))) := by
  refine PCall_of (ACall_body good Try.func37 rfl 19 rfl (by simp) ?_)
  refine AW_lenle 0 rfl (fun hm => ?_)
  refine AW_seq ?_
  refine AW_all good tab0 (tab0_ok _) rfl rfl ?_ ?_
  · repeat' (first | exact trivial | exact rfl | exact (fun _ _ => rfl) | refine And.intro ?_ ?_ | intro _)
    all_goals (first | omega | exact of_decide_eq_true (by assumption) | decide | exact hmx | exact hbytes | (rw [IntKind.wrap_u64]; omega) | (rename_i hg; exact hg) | (rename_i hg; change (_ : Bool) = true; rw [hg]; rfl) | (change (_ : Bool) = true; simp_all; done) | trace_state)
  refine AW_seq ?_
  refine AW_seq ?_
  refine AW_all good tab0 (tab0_ok _) rfl rfl ?_ ?_
  · repeat' (first | exact trivial | exact rfl | exact (fun _ _ => rfl) | refine And.intro ?_ ?_ | intro _)
    all_goals (first | omega | exact of_decide_eq_true (by assumption) | decide | exact hmx | exact hbytes | (rw [IntKind.wrap_u64]; omega) | (rename_i hg; exact hg) | (rename_i hg; change (_ : Bool) = true; rw [hg]; rfl) | (change (_ : Bool) = true; simp_all; done) | trace_state)
  refine AW_block ?_
  refine AW_loopH 0 (fun j : { i : Nat // i ≤ n ∧ ∀ k, k < i → (v == g k) = false } => [(0, .cv (.one (iS n ex g))), (1, .cv (iint v)), (7, .cv (iint n)), (8, .cv (iint j.1))]) (fun _ => []) (fun j => n - j.1) ⟨0, Nat.zero_le _, fun k hk => absurd hk (Nat.not_lt_zero k)⟩ [] rfl rfl ?_ trivial ?_
  · exact ⟨SLe.of_eq rfl, SLe.of_eq rfl, SLe.of_eq rfl, SLe.of_eq rfl, trivial⟩
  rintro ⟨i, hin, hb⟩
  dsimp only
  refine AW_seq ?_
  refine AW_all good tab0 (tab0_ok _) rfl rfl ?_ ?_
  · repeat' (first | exact trivial | exact rfl | exact (fun _ _ => rfl) | refine And.intro ?_ ?_ | intro _)
    all_goals (first | omega | exact of_decide_eq_true (by assumption) | decide | exact hmx | exact hbytes | (rw [IntKind.wrap_u64]; omega) | (rename_i hg; exact hg) | (rename_i hg; change (_ : Bool) = true; rw [hg]; rfl) | (change (_ : Bool) = true; simp_all; done) | trace_state)
  refine AW_seq ?_
  refine AW_cond rfl (fun h1 => ?_) (fun h1 => ?_)
  · first
    | (exfalso; simp_all; done)
    | (
        refine AW_skip ?_
        refine AW_seq ?_
        refine AW_block ?_
        refine AW_seq ?_
        refine AW_all good tab0 (tab0_ok _) rfl rfl ?_ ?_
        · repeat' (first | exact trivial | exact rfl | exact (fun _ _ => rfl) | refine And.intro ?_ ?_ | intro _)
          all_goals (first | omega | exact of_decide_eq_true (by assumption) | decide | exact hmx | exact hbytes | (rw [IntKind.wrap_u64]; omega) | (rename_i hg; exact hg) | (rename_i hg; change (_ : Bool) = true; rw [hg]; rfl) | (change (_ : Bool) = true; simp_all; done) | trace_state)
        refine AW_seq ?_
        have hlt : i < n := by simpa using h1
        refine AW_all good tab0 (tab0_ok _) rfl rfl ?_ ?_
        · repeat' (first | exact trivial | exact rfl | exact (fun _ _ => rfl) | refine And.intro ?_ ?_ | intro _)
          all_goals (first | omega | exact of_decide_eq_true (by assumption) | decide | exact hmx | exact hbytes | (rw [IntKind.wrap_u64]; omega) | (rename_i hg; exact hg) | (rename_i hg; change (_ : Bool) = true; rw [hg]; rfl) | (change (_ : Bool) = true; simp_all; done) | trace_state)
        refine AW_cond rfl (fun h2 => ?_) (fun h2 => ?_)
        · first
          | (exfalso; simp_all; done)
          | (
              refine AW_seq ?_
              refine AW_all good tab0 (tab0_ok _) rfl rfl ?_ ?_
              · repeat' (first | exact trivial | exact rfl | exact (fun _ _ => rfl) | refine And.intro ?_ ?_ | intro _)
                all_goals (first | omega | exact of_decide_eq_true (by assumption) | decide | exact hmx | exact hbytes | (rw [IntKind.wrap_u64]; omega) | (rename_i hg; exact hg) | (rename_i hg; change (_ : Bool) = true; rw [hg]; rfl) | (change (_ : Bool) = true; simp_all; done) | trace_state)
              refine AW_ret (bodyQ_ret rfl ?_ (Ends.intro rfl ?_ ?_))
              · repeat' (first | exact trivial | exact rfl | exact (fun _ _ => rfl) | refine And.intro ?_ ?_ | intro _)
                all_goals (first | omega | exact of_decide_eq_true (by assumption) | decide | exact hmx | exact hbytes | (rw [IntKind.wrap_u64]; omega) | (rename_i hg; exact hg) | (rename_i hg; change (_ : Bool) = true; rw [hg]; rfl) | (change (_ : Bool) = true; simp_all; done) | trace_state)
              · repeat' (first | exact trivial | exact rfl | exact (fun _ _ => rfl) | refine And.intro ?_ ?_ | intro _)
                all_goals (first | omega | exact of_decide_eq_true (by assumption) | decide | exact hmx | exact hbytes | (rw [IntKind.wrap_u64]; omega) | (rename_i hg; exact hg) | (rename_i hg; change (_ : Bool) = true; rw [hg]; rfl) | (change (_ : Bool) = true; simp_all; done) | trace_state)
              exact congrArg (fun z => SV.cv (iint z)) (idx_found hlt h2 hb).symm
          )
        · first
          | (exfalso; simp_all; done)
          | (
              refine AW_skip ?_
              refine AW_all good tab0 (tab0_ok _) rfl rfl ?_ ?_
              · repeat' (first | exact trivial | exact rfl | exact (fun _ _ => rfl) | refine And.intro ?_ ?_ | intro _)
                all_goals (first | omega | exact of_decide_eq_true (by assumption) | decide | exact hmx | exact hbytes | (rw [IntKind.wrap_u64]; omega) | (rename_i hg; exact hg) | (rename_i hg; change (_ : Bool) = true; rw [hg]; rfl) | (change (_ : Bool) = true; simp_all; done) | trace_state)
              have hlt : i < n := by simpa using h1
              refine loopH_next ⟨i + 1, hlt, fun k hk => ?_⟩ [] rfl rfl ⟨SLe.of_eq rfl, SLe.of_eq rfl, SLe.of_eq rfl, SLe.of_eq (congrArg (fun z => SV.cv (iint z)) (next_int i n hlt hm)), trivial⟩ trivial ?_
              · rcases Nat.lt_succ_iff_lt_or_eq.1 hk with h | h
                · exact hb k h
                · rw [h]; exact h2
              · show n - (i + 1) < n - i
                omega
          )
    )
  · first
    | (exfalso; simp_all; done)
    | (
        refine AW_exit ?_
        refine AW_seq ?_
        refine AW_all good tab0 (tab0_ok _) rfl rfl ?_ ?_
        · repeat' (first | exact trivial | exact rfl | exact (fun _ _ => rfl) | refine And.intro ?_ ?_ | intro _)
          all_goals (first | omega | exact of_decide_eq_true (by assumption) | decide | exact hmx | exact hbytes | (rw [IntKind.wrap_u64]; omega) | (rename_i hg; exact hg) | (rename_i hg; change (_ : Bool) = true; rw [hg]; rfl) | (change (_ : Bool) = true; simp_all; done) | trace_state)
        refine AW_ret (bodyQ_ret rfl ?_ (Ends.intro rfl ?_ ?_))
        · repeat' (first | exact trivial | exact rfl | exact (fun _ _ => rfl) | refine And.intro ?_ ?_ | intro _)
          all_goals (first | omega | exact of_decide_eq_true (by assumption) | decide | exact hmx | exact hbytes | (rw [IntKind.wrap_u64]; omega) | (rename_i hg; exact hg) | (rename_i hg; change (_ : Bool) = true; rw [hg]; rfl) | (change (_ : Bool) = true; simp_all; done) | trace_state)
        · repeat' (first | exact trivial | exact rfl | exact (fun _ _ => rfl) | refine And.intro ?_ ?_ | intro _)
          all_goals (first | omega | exact of_decide_eq_true (by assumption) | decide | exact hmx | exact hbytes | (rw [IntKind.wrap_u64]; omega) | (rename_i hg; exact hg) | (rename_i hg; change (_ : Bool) = true; rw [hg]; rfl) | (change (_ : Bool) = true; simp_all; done) | trace_state)
        have he : i = n := by
          have : ¬ i < n := by simpa using h1
          omega
        subst he
        exact congrArg (fun z => SV.cv (iint z)) (idx_none hb).symm
    )

theorem clone38 (n : Nat) (ex : Bool) (cell : Nat → Nat → IV) (h1 : n * 8 ≤ 140737488355328) (h2 : n ≤ maxLen) :
    ACall Try.prog 38 [.one (.imm (.sl 1 n ex cell))] (heapOf []) 0 fun x H' n' => x = .cv (.one (.osl 0 1 0 0 n true)) ∧ H' = updH (heapOf []) [(0, some (.rows 3 1 n cell))] ∧ n' = 0 + 1 := by
  refine ACall_norm (Bs := []) (cnt := 1) ?_
  rw [heapOf_nil]
  refine ACall_body good Try.func38 rfl 8 rfl (by simp) ?_
  refine AW_seq (AW_all good tab0 (tab0_ok _) rfl rfl ?_ ?_)
  · repeat' (first | exact trivial | apply And.intro | intro _)
  refine AW_seq (AW_seq (AW_part good tab0 (tab0_ok _) et0 (et0_ok _) [] rfl rfl ?_ ?_))
  · repeat' (first | exact trivial | apply And.intro | intro _)
  refine AL_isnil good rfl rfl rfl rfl trivial rfl (fun q hq => AL_nil ?_)
  refine AW_cond rfl (fun h => ?_) (fun h => ?_)
  · refine AW_seq (AW_all good tab0 (tab0_ok _) rfl rfl ?_ ?_)
    · repeat' (first | exact trivial | apply And.intro | intro _)
    obtain rfl := hq h
    refine AW_own_empty 2 3 1 cell rfl rfl rfl ?_
    refine AW_ret ?_
    refine ⟨_, _, rfl, ?_, [0], rfl, EndsE.one rfl ?_ rfl ?_⟩
    · repeat' (first | exact trivial | apply And.intro | intro _)
    · exact SLe.of_eq rfl
    · exact BLe.of_eq rfl
  · refine AW_skip ?_
    refine AW_seq (AW_all good tab0 (tab0_ok _) rfl rfl ?_ ?_)
    · repeat' (first | exact trivial | apply And.intro | intro _)
      all_goals (first | omega | (show (0 + n) * 8 ≤ _; omega))
    refine AW_ret ?_
    refine ⟨_, _, rfl, ?_, [1], rfl, EndsE.one rfl ?_ rfl ?_⟩
    · repeat' (first | exact trivial | apply And.intro | intro _)
    · exact SLe.of_eq (by rw [Nat.zero_add]; rfl)
    · refine BLe.rows (by omega) fun i j hi hj => ILe.of_eq ?_
      show (bif Nat.blt i 0 then _ else cell (i - 0) j) = cell i j
      have : Nat.blt i 0 = false := by cases i <;> rfl
      rw [this]
      rfl
def etC : ETab := etAdd 38 (fun args _ => match args with
  | [.one (.imm (.sl 1 n _ cell))] => some ⟨[], .cv (.one (.osl 0 1 0 0 n true)), [(0, some (.rows 3 1 n cell))], 1, n * 8 ≤ 140737488355328 ∧ n ≤ maxLen⟩
  | _ => none) et0
theorem etC_ok : ETabOk Try.prog etC := by
  refine etAdd_ok rfl (fun args H e h hv => ?_) (et0_ok _)
  split at h
  · rename_i n ex cell
    simp only [Option.some.injEq] at h
    subst h
    exact ⟨rfl, _, [], rfl, fun nx => rfl, fun nx j b hb => by simp at hb, clone38 n ex cell hv.1 hv.2⟩
  · cases h

theorem mul79 (n : Int) (h1 : 1 ≤ n) (h2 : n ≤ 8) : PCall Try.prog 79 [u64 1, u64 n] (.tup [u64 0, u64 n]) := by
  have hn : n = 1 ∨ n = 2 ∨ n = 3 ∨ n = 4 ∨ n = 5 ∨ n = 6 ∨ n = 7 ∨ n = 8 := by omega
  rcases hn with rfl | rfl | rfl | rfl | rfl | rfl | rfl | rfl
  all_goals (
    refine PCall_of (ACall_body good Try.func79 rfl 51 rfl (by simp) ?_)
    refine AW_seq ?_
    refine AW_all good tab0 (tab0_ok _) rfl rfl ?_ ?_
    · repeat' (first | exact trivial | exact rfl | exact (fun _ _ => rfl) | refine And.intro ?_ ?_ | intro _)
      all_goals (first | omega | exact of_decide_eq_true (by assumption) | decide | exact hmx | exact hbytes | (rw [IntKind.wrap_u64]; omega) | (rename_i hg; exact hg) | (rename_i hg; change (_ : Bool) = true; rw [hg]; rfl) | (change (_ : Bool) = true; simp_all; done) | trace_state)
    refine AW_seq ?_
    refine AW_all good tab0 (tab0_ok _) rfl rfl ?_ ?_
    · repeat' (first | exact trivial | exact rfl | exact (fun _ _ => rfl) | refine And.intro ?_ ?_ | intro _)
      all_goals (first | omega | exact of_decide_eq_true (by assumption) | decide | exact hmx | exact hbytes | (rw [IntKind.wrap_u64]; omega) | (rename_i hg; exact hg) | (rename_i hg; change (_ : Bool) = true; rw [hg]; rfl) | (change (_ : Bool) = true; simp_all; done) | trace_state)
    refine AW_seq ?_
    refine AW_all good tab0 (tab0_ok _) rfl rfl ?_ ?_
    · repeat' (first | exact trivial | exact rfl | exact (fun _ _ => rfl) | refine And.intro ?_ ?_ | intro _)
      all_goals (first | omega | exact of_decide_eq_true (by assumption) | decide | exact hmx | exact hbytes | (rw [IntKind.wrap_u64]; omega) | (rename_i hg; exact hg) | (rename_i hg; change (_ : Bool) = true; rw [hg]; rfl) | (change (_ : Bool) = true; simp_all; done) | trace_state)
    refine AW_seq ?_
    refine AW_all good tab0 (tab0_ok _) rfl rfl ?_ ?_
    · repeat' (first | exact trivial | exact rfl | exact (fun _ _ => rfl) | refine And.intro ?_ ?_ | intro _)
      all_goals (first | omega | exact of_decide_eq_true (by assumption) | decide | exact hmx | exact hbytes | (rw [IntKind.wrap_u64]; omega) | (rename_i hg; exact hg) | (rename_i hg; change (_ : Bool) = true; rw [hg]; rfl) | (change (_ : Bool) = true; simp_all; done) | trace_state)
    refine AW_seq ?_
    refine AW_all good tab0 (tab0_ok _) rfl rfl ?_ ?_
    · repeat' (first | exact trivial | exact rfl | exact (fun _ _ => rfl) | refine And.intro ?_ ?_ | intro _)
      all_goals (first | omega | exact of_decide_eq_true (by assumption) | decide | exact hmx | exact hbytes | (rw [IntKind.wrap_u64]; omega) | (rename_i hg; exact hg) | (rename_i hg; change (_ : Bool) = true; rw [hg]; rfl) | (change (_ : Bool) = true; simp_all; done) | trace_state)
    refine AW_seq ?_
    refine AW_all good tab0 (tab0_ok _) rfl rfl ?_ ?_
    · repeat' (first | exact trivial | exact rfl | exact (fun _ _ => rfl) | refine And.intro ?_ ?_ | intro _)
      all_goals (first | omega | exact of_decide_eq_true (by assumption) | decide | exact hmx | exact hbytes | (rw [IntKind.wrap_u64]; omega) | (rename_i hg; exact hg) | (rename_i hg; change (_ : Bool) = true; rw [hg]; rfl) | (change (_ : Bool) = true; simp_all; done) | trace_state)
    refine AW_seq ?_
    refine AW_all good tab0 (tab0_ok _) rfl rfl ?_ ?_
    · repeat' (first | exact trivial | exact rfl | exact (fun _ _ => rfl) | refine And.intro ?_ ?_ | intro _)
      all_goals (first | omega | exact of_decide_eq_true (by assumption) | decide | exact hmx | exact hbytes | (rw [IntKind.wrap_u64]; omega) | (rename_i hg; exact hg) | (rename_i hg; change (_ : Bool) = true; rw [hg]; rfl) | (change (_ : Bool) = true; simp_all; done) | trace_state)
    refine AW_seq ?_
    refine AW_all good tab0 (tab0_ok _) rfl rfl ?_ ?_
    · repeat' (first | exact trivial | exact rfl | exact (fun _ _ => rfl) | refine And.intro ?_ ?_ | intro _)
      all_goals (first | omega | exact of_decide_eq_true (by assumption) | decide | exact hmx | exact hbytes | (rw [IntKind.wrap_u64]; omega) | (rename_i hg; exact hg) | (rename_i hg; change (_ : Bool) = true; rw [hg]; rfl) | (change (_ : Bool) = true; simp_all; done) | trace_state)
    refine AW_seq ?_
    refine AW_all good tab0 (tab0_ok _) rfl rfl ?_ ?_
    · repeat' (first | exact trivial | exact rfl | exact (fun _ _ => rfl) | refine And.intro ?_ ?_ | intro _)
      all_goals (first | omega | exact of_decide_eq_true (by assumption) | decide | exact hmx | exact hbytes | (rw [IntKind.wrap_u64]; omega) | (rename_i hg; exact hg) | (rename_i hg; change (_ : Bool) = true; rw [hg]; rfl) | (change (_ : Bool) = true; simp_all; done) | trace_state)
    refine AW_seq ?_
    refine AW_all good tab0 (tab0_ok _) rfl rfl ?_ ?_
    · repeat' (first | exact trivial | exact rfl | exact (fun _ _ => rfl) | refine And.intro ?_ ?_ | intro _)
      all_goals (first | omega | exact of_decide_eq_true (by assumption) | decide | exact hmx | exact hbytes | (rw [IntKind.wrap_u64]; omega) | (rename_i hg; exact hg) | (rename_i hg; change (_ : Bool) = true; rw [hg]; rfl) | (change (_ : Bool) = true; simp_all; done) | trace_state)
    refine AW_seq ?_
    refine AW_all good tab0 (tab0_ok _) rfl rfl ?_ ?_
    · repeat' (first | exact trivial | exact rfl | exact (fun _ _ => rfl) | refine And.intro ?_ ?_ | intro _)
      all_goals (first | omega | exact of_decide_eq_true (by assumption) | decide | exact hmx | exact hbytes | (rw [IntKind.wrap_u64]; omega) | (rename_i hg; exact hg) | (rename_i hg; change (_ : Bool) = true; rw [hg]; rfl) | (change (_ : Bool) = true; simp_all; done) | trace_state)
    refine AW_seq ?_
    refine AW_all good tab0 (tab0_ok _) rfl rfl ?_ ?_
    · repeat' (first | exact trivial | exact rfl | exact (fun _ _ => rfl) | refine And.intro ?_ ?_ | intro _)
      all_goals (first | omega | exact of_decide_eq_true (by assumption) | decide | exact hmx | exact hbytes | (rw [IntKind.wrap_u64]; omega) | (rename_i hg; exact hg) | (rename_i hg; change (_ : Bool) = true; rw [hg]; rfl) | (change (_ : Bool) = true; simp_all; done) | trace_state)
    refine AW_ret (bodyQ_ret rfl ?_ (Ends.intro rfl ?_ ?_))
    · repeat' (first | exact trivial | exact rfl | exact (fun _ _ => rfl) | refine And.intro ?_ ?_ | intro _)
      all_goals (first | omega | exact of_decide_eq_true (by assumption) | decide | exact hmx | exact hbytes | (rw [IntKind.wrap_u64]; omega) | (rename_i hg; exact hg) | (rename_i hg; change (_ : Bool) = true; rw [hg]; rfl) | (change (_ : Bool) = true; simp_all; done) | trace_state)
    · repeat' (first | exact trivial | exact rfl | exact (fun _ _ => rfl) | refine And.intro ?_ ?_ | intro _)
      all_goals (first | omega | exact of_decide_eq_true (by assumption) | decide | exact hmx | exact hbytes | (rw [IntKind.wrap_u64]; omega) | (rename_i hg; exact hg) | (rename_i hg; change (_ : Bool) = true; rw [hg]; rfl) | (change (_ : Bool) = true; simp_all; done) | trace_state)
    rfl)

def tabM1 : Tab := tabAdd 79 (fun args => match args with
  | [.one (.imm (.val (.int .u64 a))), .one (.imm (.val (.int .u64 n)))] => some (.tup [u64 0, u64 n], a = 1 ∧ 1 ≤ n ∧ n ≤ 8)
  | _ => none) tab0
theorem tabM1_ok : TabOk Try.prog tabM1 := by
  refine tabAdd_ok rfl (fun args r p h hp => ?_) (tab0_ok _)
  split at h
  · rename_i a n
    simp only [Option.some.injEq, Prod.mk.injEq] at h; obtain ⟨rfl, rfl⟩ := h
    obtain ⟨rfl, h1, h2⟩ := hp
    exact mul79 n h1 h2
  · cases h
theorem mul59 (n : Int) (h1 : 1 ≤ n) (h2 : n ≤ 8) : PCall Try.prog 59 [u64 1, u64 n] (.tup [u64 0, u64 n]) := by
  refine PCall_of (ACall_body good Try.func59 rfl 30 rfl (by simp) ?_)
  refine AW_seq ?_
  refine AW_all good tabM1 tabM1_ok rfl rfl ?_ ?_
  · repeat' (first | exact trivial | exact rfl | exact (fun _ _ => rfl) | refine And.intro ?_ ?_ | intro _)
    all_goals (first | omega | exact of_decide_eq_true (by assumption) | decide | exact hmx | exact hbytes | (rw [IntKind.wrap_u64]; omega) | (rename_i hg; exact hg) | (rename_i hg; change (_ : Bool) = true; rw [hg]; rfl) | (change (_ : Bool) = true; simp_all; done) | trace_state)
  refine AW_seq ?_
  refine AW_cond (b := false) rfl (fun h1 => ?_) (fun h1 => ?_)
  · first
    | (exfalso; cases h1; done)
    | (
        refine AW_seq ?_
        refine AW_all good tabM1 tabM1_ok rfl rfl ?_ ?_
        · repeat' (first | exact trivial | exact rfl | exact (fun _ _ => rfl) | refine And.intro ?_ ?_ | intro _)
          all_goals (first | omega | exact of_decide_eq_true (by assumption) | decide | exact hmx | exact hbytes | (rw [IntKind.wrap_u64]; omega) | (rename_i hg; exact hg) | (rename_i hg; change (_ : Bool) = true; rw [hg]; rfl) | (change (_ : Bool) = true; simp_all; done) | trace_state)
        refine AW_seq ?_
        refine AW_all good tabM1 tabM1_ok rfl rfl ?_ ?_
        · repeat' (first | exact trivial | exact rfl | exact (fun _ _ => rfl) | refine And.intro ?_ ?_ | intro _)
          all_goals (first | omega | exact of_decide_eq_true (by assumption) | decide | exact hmx | exact hbytes | (rw [IntKind.wrap_u64]; omega) | (rename_i hg; exact hg) | (rename_i hg; change (_ : Bool) = true; rw [hg]; rfl) | (change (_ : Bool) = true; simp_all; done) | trace_state)
        refine AW_ret (bodyQ_ret rfl ?_ (Ends.intro rfl ?_ ?_))
        · repeat' (first | exact trivial | exact rfl | exact (fun _ _ => rfl) | refine And.intro ?_ ?_ | intro _)
          all_goals (first | omega | exact of_decide_eq_true (by assumption) | decide | exact hmx | exact hbytes | (rw [IntKind.wrap_u64]; omega) | (rename_i hg; exact hg) | (rename_i hg; change (_ : Bool) = true; rw [hg]; rfl) | (change (_ : Bool) = true; simp_all; done) | trace_state)
        · repeat' (first | exact trivial | exact rfl | exact (fun _ _ => rfl) | refine And.intro ?_ ?_ | intro _)
          all_goals (first | omega | exact of_decide_eq_true (by assumption) | decide | exact hmx | exact hbytes | (rw [IntKind.wrap_u64]; omega) | (rename_i hg; exact hg) | (rename_i hg; change (_ : Bool) = true; rw [hg]; rfl) | (change (_ : Bool) = true; simp_all; done) | trace_state)
        rfl
    )
  · first
    | (exfalso; cases h1; done)
    | (
        refine AW_skip ?_
        refine AW_seq ?_
        refine AW_all good tabM1 tabM1_ok rfl rfl ?_ ?_
        · repeat' (first | exact trivial | exact rfl | exact (fun _ _ => rfl) | refine And.intro ?_ ?_ | intro _)
          all_goals (first | omega | exact of_decide_eq_true (by assumption) | decide | exact hmx | exact hbytes | (rw [IntKind.wrap_u64]; omega) | (rename_i hg; exact hg) | (rename_i hg; change (_ : Bool) = true; rw [hg]; rfl) | (change (_ : Bool) = true; simp_all; done) | trace_state)
        refine AW_seq ?_
        refine AW_all good tabM1 tabM1_ok rfl rfl ?_ ?_
        · repeat' (first | exact trivial | exact rfl | exact (fun _ _ => rfl) | refine And.intro ?_ ?_ | intro _)
          all_goals (first | omega | exact of_decide_eq_true (by assumption) | decide | exact hmx | exact hbytes | (rw [IntKind.wrap_u64]; omega) | (rename_i hg; exact hg) | (rename_i hg; change (_ : Bool) = true; rw [hg]; rfl) | (change (_ : Bool) = true; simp_all; done) | trace_state)
        refine AW_ret (bodyQ_ret rfl ?_ (Ends.intro rfl ?_ ?_))
        · repeat' (first | exact trivial | exact rfl | exact (fun _ _ => rfl) | refine And.intro ?_ ?_ | intro _)
          all_goals (first | omega | exact of_decide_eq_true (by assumption) | decide | exact hmx | exact hbytes | (rw [IntKind.wrap_u64]; omega) | (rename_i hg; exact hg) | (rename_i hg; change (_ : Bool) = true; rw [hg]; rfl) | (change (_ : Bool) = true; simp_all; done) | trace_state)
        · repeat' (first | exact trivial | exact rfl | exact (fun _ _ => rfl) | refine And.intro ?_ ?_ | intro _)
          all_goals (first | omega | exact of_decide_eq_true (by assumption) | decide | exact hmx | exact hbytes | (rw [IntKind.wrap_u64]; omega) | (rename_i hg; exact hg) | (rename_i hg; change (_ : Bool) = true; rw [hg]; rfl) | (change (_ : Bool) = true; simp_all; done) | trace_state)
        rfl
    )
end Go.Proofs.Ytadgjhbhghhbgaa.Abs
