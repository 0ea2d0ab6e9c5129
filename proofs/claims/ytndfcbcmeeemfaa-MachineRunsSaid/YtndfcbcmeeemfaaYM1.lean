/-
  THE CONTRACTS OF PACKAGE machine (1): data; which instructions, which processes may be.
-/
import Derived.Test.YtndfcbcmeeemfaaYW3
namespace Go.Proofs.Ytndfcbcmeeemfaa.Abs
open Go
set_option maxRecDepth 10000

structure Ins where
  kd : Int
  rg : Int
  at_ : Int
  a : Int
  b : Int
def insI (p : Ins) : Nat → IV
  | 0 => .val (.int .i64 p.kd)
  | 1 => .val (.int .i64 p.rg)
  | 2 => .val (.int .i64 p.at_)
  | 3 => .val (.int .u64 p.a)
  | _ => .val (.int .i64 p.b)
def progI (n : Nat) (p : Nat → Ins) : IV := .sl 5 n false fun i j => insI (p i) j
def insC (p : Ins) : CV := .agg [.imm (insI p 0), .imm (insI p 1), .imm (insI p 2), .imm (insI p 3), .imm (insI p 4)]

structure Prc where
  n : Nat
  prog : Nat → Ins
  at_ : Int
  r0 : Int
  r1 : Int
  r2 : Int
  r3 : Int
  done : Bool
  took : Int
def prcI (p : Prc) : Nat → IV
  | 0 => progI p.n p.prog
  | 1 => .val (.int .i64 p.at_)
  | 2 => .val (.int .u64 p.r0)
  | 3 => .val (.int .u64 p.r1)
  | 4 => .val (.int .u64 p.r2)
  | 5 => .val (.int .u64 p.r3)
  | 6 => .val (.bool p.done)
  | _ => .val (.int .i64 p.took)
def prcC (p : Prc) : CV := .agg [.imm (prcI p 0), .imm (prcI p 1), .imm (prcI p 2), .imm (prcI p 3), .imm (prcI p 4), .imm (prcI p 5), .imm (prcI p 6), .imm (prcI p 7)]
def prcS (n : Nat) (ex : Bool) (l : Nat → Prc) : AV := .imm (.sl 8 n ex fun i j => prcI (l i) j)

def ivLen : IV → Nat
  | .sl _ n _ _ => n
  | _ => 0
def ivCell : IV → Nat → Nat → IV
  | .sl _ _ _ c => c
  | _ => fun _ _ => ivDef
def insAt (c : Nat → IV) : Ins := ⟨ivInt (c 0), ivInt (c 1), ivInt (c 2), ivInt (c 3), ivInt (c 4)⟩
def progAt (cell : Nat → Nat → IV) (i : Nat) : Ins := insAt (cell i)
def prcAt (c : Nat → IV) : Prc := ⟨ivLen (c 0), progAt (ivCell (c 0)), ivInt (c 1), ivInt (c 2), ivInt (c 3), ivInt (c 4), ivInt (c 5), ivBool (c 6), ivInt (c 7)⟩
def procsAt (cell : Nat → Nat → IV) (i : Nat) : Prc := prcAt (cell i)
/-- Whatever these cells are, they are those of the data read off them. -/
def isProg (n : Nat) (cell : Nat → Nat → IV) : Prop := ∀ i, i < n → ∀ j, j < 5 → cell i j = insI (progAt cell i) j
def isProcs (n : Nat) (cell : Nat → Nat → IV) : Prop := ∀ i, i < n → ∀ j, j < 8 → ILe (cell i j) (prcI (procsAt cell i) j)
theorem prog_le {n : Nat} {ex : Bool} {cell : Nat → Nat → IV} (h : isProg n cell) : ILe (.sl 5 n ex cell) (progI n (progAt cell)) :=
  ILe.sl rfl (by simp) (.inr ⟨rfl, fun i j hi hj => ILe.of_eq (h i hi j hj)⟩)
theorem procs_le {n : Nat} {ex : Bool} {cell : Nat → Nat → IV} (h : isProcs n cell) : CLe (.one (.imm (.sl 8 n ex cell))) (.one (prcS n ex (procsAt cell))) :=
  CLe.imm (ILe.sl rfl id (.inr ⟨rfl, fun i j hi hj => h i hi j hj⟩))
theorem prog_lit (n : Nat) (p : Nat → Ins) : isProg n fun i j => insI (p i) j := fun i _ j hj => by
  match j, hj with
  | 0, _ => rfl
  | 1, _ => rfl
  | 2, _ => rfl
  | 3, _ => rfl
  | 4, _ => rfl
theorem procs_lit (n : Nat) (l : Nat → Prc) : isProcs n fun i j => prcI (l i) j := fun i _ j hj => ILe.of_eq (by
  match j, hj with
  | 0, _ => rfl
  | 1, _ => rfl
  | 2, _ => rfl
  | 3, _ => rfl
  | 4, _ => rfl
  | 5, _ => rfl
  | 6, _ => rfl
  | 7, _ => rfl)

/-- Which instructions of a program of so many may be. -/
def badIns (p : Ins) : Bool := decide (p.kd < 1) || (decide (p.kd > 8) || (decide (p.rg < 0) || (decide (p.rg ≥ 4) || (decide (p.at_ < 0) || decide (p.at_ ≥ 64)))))
def mayI (p : Ins) (many : Int) : Bool := bif badIns p then false else bif p.kd == 6 then decide (p.b ≥ 0) && decide (p.b < 4) else bif p.kd == 7 then decide (p.b ≥ 0) && decide (p.b < many) else true

theorem bad_ins (p : Ins) : (bif bif bif bif bif decide (p.kd < 1) then true else decide (p.kd > 8) then true else decide (p.rg < 0) then true else decide (p.rg ≥ 4) then true else decide (p.at_ < 0) then true else decide (p.at_ ≥ 64)) = badIns p := by
  unfold badIns
  cases decide (p.kd < 1) <;> cases decide (p.kd > 8) <;> cases decide (p.rg < 0) <;> cases decide (p.rg ≥ 4) <;> cases decide (p.at_ < 0) <;> rfl

theorem may52 (p : Ins) (many : Int) : PCall Try.prog 52 [insC p, iint many] (.cv (ibool (mayI p many))) := by
  refine PCall_of (ACall_body good Try.func52 rfl 56 rfl (by simp) ?_)
  refine AW_seq ?_
  refine AW_all good tabC tabC_ok rfl rfl ?_ ?_
  · repeat' (first | exact trivial | exact rfl | exact (fun _ _ => rfl) | apply And.intro | intro _)
    all_goals (first | omega | (rename_i hg; exact hg) | (rename_i hg; change (_ : Bool) = true; rw [hg]; rfl) | (change (_ : Bool) = true; simp_all; done) | (simp_all; done))
  refine AW_seq ?_
  refine AW_seq ?_
  refine AW_all good tabC tabC_ok rfl rfl ?_ ?_
  · repeat' (first | exact trivial | exact rfl | exact (fun _ _ => rfl) | apply And.intro | intro _)
    all_goals (first | omega | (rename_i hg; exact hg) | (rename_i hg; change (_ : Bool) = true; rw [hg]; rfl) | (change (_ : Bool) = true; simp_all; done) | (simp_all; done))
  refine AW_cond rfl (fun h1 => ?_) (fun h1 => ?_)
  · first
    | (exfalso; simp_all; done)
    | (
        refine AW_seq ?_
        refine AW_all good tabC tabC_ok rfl rfl ?_ ?_
        · repeat' (first | exact trivial | exact rfl | exact (fun _ _ => rfl) | apply And.intro | intro _)
          all_goals (first | omega | (rename_i hg; exact hg) | (rename_i hg; change (_ : Bool) = true; rw [hg]; rfl) | (change (_ : Bool) = true; simp_all; done) | (simp_all; done))
        refine AW_ret (bodyQ_ret rfl ?_ (Ends.intro rfl ?_ ?_))
        · repeat' (first | exact trivial | exact rfl | exact (fun _ _ => rfl) | apply And.intro | intro _)
          all_goals (first | omega | (rename_i hg; exact hg) | (rename_i hg; change (_ : Bool) = true; rw [hg]; rfl) | (change (_ : Bool) = true; simp_all; done) | (simp_all; done))
        · repeat' (first | exact trivial | exact rfl | exact (fun _ _ => rfl) | apply And.intro | intro _)
          all_goals (first | omega | (rename_i hg; exact hg) | (rename_i hg; change (_ : Bool) = true; rw [hg]; rfl) | (change (_ : Bool) = true; simp_all; done) | (simp_all; done))
        have hb : badIns p = true := by
          rw [← bad_ins p]
          exact h1
        refine ret_bool ?_
        simp only [mayI, hb, cond_true]
        
    )
  · first
    | (exfalso; simp_all; done)
    | (
        refine AW_skip ?_
        refine AW_seq ?_
        refine AW_seq ?_
        refine AW_all good tabC tabC_ok rfl rfl ?_ ?_
        · repeat' (first | exact trivial | exact rfl | exact (fun _ _ => rfl) | apply And.intro | intro _)
          all_goals (first | omega | (rename_i hg; exact hg) | (rename_i hg; change (_ : Bool) = true; rw [hg]; rfl) | (change (_ : Bool) = true; simp_all; done) | (simp_all; done))
        refine AW_block ?_
        refine AW_seq ?_
        refine AW_all good tabC tabC_ok rfl rfl ?_ ?_
        · repeat' (first | exact trivial | exact rfl | exact (fun _ _ => rfl) | apply And.intro | intro _)
          all_goals (first | omega | (rename_i hg; exact hg) | (rename_i hg; change (_ : Bool) = true; rw [hg]; rfl) | (change (_ : Bool) = true; simp_all; done) | (simp_all; done))
        refine AW_cond rfl (fun h2 => ?_) (fun h2 => ?_)
        · first
          | (exfalso; simp_all; done)
          | (
              refine AW_seq ?_
              refine AW_all good tabC tabC_ok rfl rfl ?_ ?_
              · repeat' (first | exact trivial | exact rfl | exact (fun _ _ => rfl) | apply And.intro | intro _)
                all_goals (first | omega | (rename_i hg; exact hg) | (rename_i hg; change (_ : Bool) = true; rw [hg]; rfl) | (change (_ : Bool) = true; simp_all; done) | (simp_all; done))
              refine AW_ret (bodyQ_ret rfl ?_ (Ends.intro rfl ?_ ?_))
              · repeat' (first | exact trivial | exact rfl | exact (fun _ _ => rfl) | apply And.intro | intro _)
                all_goals (first | omega | (rename_i hg; exact hg) | (rename_i hg; change (_ : Bool) = true; rw [hg]; rfl) | (change (_ : Bool) = true; simp_all; done) | (simp_all; done))
              · repeat' (first | exact trivial | exact rfl | exact (fun _ _ => rfl) | apply And.intro | intro _)
                all_goals (first | omega | (rename_i hg; exact hg) | (rename_i hg; change (_ : Bool) = true; rw [hg]; rfl) | (change (_ : Bool) = true; simp_all; done) | (simp_all; done))
              have hb : badIns p = false := by
                rw [← bad_ins p]
                exact h1
              refine ret_bool ?_
              simp only [mayI, hb, cond_false]
              rw [show (p.kd == 6) = true from h2]
              cases decide (p.b ≥ 0) <;> rfl
          )
        · first
          | (exfalso; simp_all; done)
          | (
              refine AW_seq ?_
              refine AW_all good tabC tabC_ok rfl rfl ?_ ?_
              · repeat' (first | exact trivial | exact rfl | exact (fun _ _ => rfl) | apply And.intro | intro _)
                all_goals (first | omega | (rename_i hg; exact hg) | (rename_i hg; change (_ : Bool) = true; rw [hg]; rfl) | (change (_ : Bool) = true; simp_all; done) | (simp_all; done))
              refine AW_cond rfl (fun h3 => ?_) (fun h3 => ?_)
              · first
                | (exfalso; simp_all; done)
                | (
                    refine AW_seq ?_
                    refine AW_all good tabC tabC_ok rfl rfl ?_ ?_
                    · repeat' (first | exact trivial | exact rfl | exact (fun _ _ => rfl) | apply And.intro | intro _)
                      all_goals (first | omega | (rename_i hg; exact hg) | (rename_i hg; change (_ : Bool) = true; rw [hg]; rfl) | (change (_ : Bool) = true; simp_all; done) | (simp_all; done))
                    refine AW_ret (bodyQ_ret rfl ?_ (Ends.intro rfl ?_ ?_))
                    · repeat' (first | exact trivial | exact rfl | exact (fun _ _ => rfl) | apply And.intro | intro _)
                      all_goals (first | omega | (rename_i hg; exact hg) | (rename_i hg; change (_ : Bool) = true; rw [hg]; rfl) | (change (_ : Bool) = true; simp_all; done) | (simp_all; done))
                    · repeat' (first | exact trivial | exact rfl | exact (fun _ _ => rfl) | apply And.intro | intro _)
                      all_goals (first | omega | (rename_i hg; exact hg) | (rename_i hg; change (_ : Bool) = true; rw [hg]; rfl) | (change (_ : Bool) = true; simp_all; done) | (simp_all; done))
                    have hb : badIns p = false := by
                      rw [← bad_ins p]
                      exact h1
                    refine ret_bool ?_
                    simp only [mayI, hb, cond_false]
                    rw [show (p.kd == 6) = false from h2, show (p.kd == 7) = true from h3]
                    cases decide (p.b ≥ 0) <;> rfl
                )
              · first
                | (exfalso; simp_all; done)
                | (
                    refine AW_skip ?_
                    refine AW_seq ?_
                    refine AW_all good tabC tabC_ok rfl rfl ?_ ?_
                    · repeat' (first | exact trivial | exact rfl | exact (fun _ _ => rfl) | apply And.intro | intro _)
                      all_goals (first | omega | (rename_i hg; exact hg) | (rename_i hg; change (_ : Bool) = true; rw [hg]; rfl) | (change (_ : Bool) = true; simp_all; done) | (simp_all; done))
                    refine AW_ret (bodyQ_ret rfl ?_ (Ends.intro rfl ?_ ?_))
                    · repeat' (first | exact trivial | exact rfl | exact (fun _ _ => rfl) | apply And.intro | intro _)
                      all_goals (first | omega | (rename_i hg; exact hg) | (rename_i hg; change (_ : Bool) = true; rw [hg]; rfl) | (change (_ : Bool) = true; simp_all; done) | (simp_all; done))
                    · repeat' (first | exact trivial | exact rfl | exact (fun _ _ => rfl) | apply And.intro | intro _)
                      all_goals (first | omega | (rename_i hg; exact hg) | (rename_i hg; change (_ : Bool) = true; rw [hg]; rfl) | (change (_ : Bool) = true; simp_all; done) | (simp_all; done))
                    have hb : badIns p = false := by
                      rw [← bad_ins p]
                      exact h1
                    refine ret_bool ?_
                    simp only [mayI, hb, cond_false]
                    rw [show (p.kd == 6) = false from h2, show (p.kd == 7) = false from h3]
                    rfl
                )
          )
    )
end Go.Proofs.Ytndfcbcmeeemfaa.Abs

/-
  THE CONTRACTS OF PACKAGE machine (2): IndexFunc and ContainsFunc of whatever a function literal does; which processes may be.
-/
namespace Go.Proofs.Ytndfcbcmeeemfaa.Abs
open Go
set_option maxRecDepth 10000

def tabE : Tab := tab0
theorem tabE_ok : TabOk Try.prog tabE := tab0_ok _
theorem imm_clos1 (f nc : Nat) (first caps : Nat → AV) {c : CV} (hc : immCV c = true) (h : immAV (.fn (.func f) 0 first nc caps) = true) : (fnList 0 first ++ ([c] ++ fnList nc caps)).all immCV = true := by
  simp only [immAV, Bool.and_eq_true, List.all_eq_true, List.mem_range] at h
  simp only [fnList, List.range_zero, List.map_nil, List.nil_append, List.singleton_append, List.all_cons, List.all_map, Bool.and_eq_true, List.all_eq_true, List.mem_range, Function.comp_apply]
  exact ⟨hc, h.2⟩

/-- The first place that is so; -1: there is none. -/
def idxOf (g : Nat → Bool) (n : Nat) : Int := match (List.range n).find? g with
  | some i => i
  | none => -1
theorem idx_found {g : Nat → Bool} {n i : Nat} (hi : i < n) (hg : g i = true) (hb : ∀ k, k < i → g k = false) : idxOf g n = i := by
  have : (List.range n).find? g = some i := by
    rw [List.find?_range_eq_some]
    exact ⟨hg, List.mem_range.2 hi, fun j hj => by simp [hb j hj]⟩
  unfold idxOf
  rw [this]
theorem idx_none {g : Nat → Bool} {n : Nat} (hb : ∀ k, k < n → g k = false) : idxOf g n = -1 := by
  have : (List.range n).find? g = none := by
    rw [List.find?_eq_none]
    intro x hx
    simp [hb x (List.mem_range.1 hx)]
  unfold idxOf
  rw [this]
def anyB (g : Nat → Bool) (n : Nat) : Bool := (List.range n).any g
theorem idx_any (g : Nat → Bool) (n : Nat) : decide (idxOf g n ≥ 0) = anyB g n := by
  unfold anyB idxOf
  cases h : (List.range n).find? g with
  | none =>
    rw [List.find?_eq_none] at h
    have : (List.range n).any g = false := by
      rw [List.any_eq_false]
      exact h
    rw [this]
    rfl
  | some i =>
    have h1 := List.find?_some h
    have h2 := List.mem_of_find?_eq_some h
    have : (List.range n).any g = true := List.any_eq_true.2 ⟨i, h2, h1⟩
    rw [this]
    simp

theorem index55 (n : Nat) (ex : Bool) (l : Nat → Ins) (f nc : Nat) (first caps : Nat → AV) (hi : immAV (.fn (.func f) 0 first nc caps) = true) (hok : CallOk Try.prog f) (g : Nat → Bool)
    (hg : ∀ i, i < n → PCall Try.prog f (fnList 0 first ++ ([insC (l i)] ++ fnList nc caps)) (.cv (ibool (g i)))) :
    PCall Try.prog 55 [.one (.imm (.sl 5 n ex fun i j => insI (l i) j)), .one (.fn (.func f) 0 first nc caps)] (.cv (iint (idxOf g n))) := by
  refine PCall_of (ACall_body good Try.func55 rfl 19 rfl (by simp) ?_)
  refine AW_lenle 0 rfl (fun hm => ?_)
  refine AW_seq ?_
  refine AW_all good tabE tabE_ok rfl rfl ?_ ?_
  · repeat' (first | exact trivial | exact rfl | exact (fun _ _ => rfl) | apply And.intro | intro _)
    all_goals (first | omega | (rename_i hg; exact hg) | (rename_i hg; change (_ : Bool) = true; rw [hg]; rfl) | (change (_ : Bool) = true; simp_all; done) | (simp_all; done))
  refine AW_seq ?_
  refine AW_seq ?_
  refine AW_all good tabE tabE_ok rfl rfl ?_ ?_
  · repeat' (first | exact trivial | exact rfl | exact (fun _ _ => rfl) | apply And.intro | intro _)
    all_goals (first | omega | (rename_i hg; exact hg) | (rename_i hg; change (_ : Bool) = true; rw [hg]; rfl) | (change (_ : Bool) = true; simp_all; done) | (simp_all; done))
  refine AW_block ?_
  refine AW_loopL (fun j : { i : Nat // i ≤ n ∧ ∀ k, k < i → g k = false } => [(0, .cv (.one (.imm (.sl 5 n ex fun i j => insI (l i) j)))), (1, .cv (.one (.fn (.func f) 0 first nc caps))), (7, .cv (iint n)), (8, .cv (iint j.1))]) (fun j => n - j.1) ⟨0, Nat.zero_le _, fun k hk => absurd hk (Nat.not_lt_zero k)⟩ ?_ ?_
  · exact ⟨rfl, rfl, rfl, rfl, trivial⟩
  rintro ⟨i, hin, hb⟩
  dsimp only
  refine AW_seq ?_
  refine AW_all good tabE tabE_ok rfl rfl ?_ ?_
  · repeat' (first | exact trivial | exact rfl | exact (fun _ _ => rfl) | apply And.intro | intro _)
    all_goals (first | omega | (rename_i hg; exact hg) | (rename_i hg; change (_ : Bool) = true; rw [hg]; rfl) | (change (_ : Bool) = true; simp_all; done) | (simp_all; done))
  refine AW_seq ?_
  refine AW_cond rfl (fun h1 => ?_) (fun h1 => ?_)
  · first
    | (exfalso; simp_all; done)
    | (
        refine AW_skip ?_
        refine AW_seq ?_
        refine AW_block ?_
        refine AW_seq ?_
        refine AW_all good tabE tabE_ok rfl rfl ?_ ?_
        · repeat' (first | exact trivial | exact rfl | exact (fun _ _ => rfl) | apply And.intro | intro _)
          all_goals (first | omega | (rename_i hg; exact hg) | (rename_i hg; change (_ : Bool) = true; rw [hg]; rfl) | (change (_ : Bool) = true; simp_all; done) | (simp_all; done))
        refine AW_seq ?_
        have hlt : i < n := by simpa using h1
        refine AW_part good tab0 (tab0_ok _) et0 (et0_ok _) [] rfl rfl ?_ ?_
        · repeat' (first | exact trivial | exact rfl | exact (fun _ _ => rfl) | apply And.intro | intro _)
          all_goals omega
        refine AL_pcallv rfl rfl rfl ?_ hok ?_ (hg i hlt) rfl rfl (AL_nil ?_)
        rotate_left
        · exact imm_clos1 _ _ _ _ rfl hi
        rotate_left
        · repeat' (first | exact trivial | exact rfl | exact (fun _ _ => rfl) | apply And.intro | intro _)
          all_goals (first | omega | (rename_i hg; exact hg) | (rename_i hg; change (_ : Bool) = true; rw [hg]; rfl) | (change (_ : Bool) = true; simp_all; done) | (simp_all; done))
        refine AW_cond rfl (fun h2 => ?_) (fun h2 => ?_)
        · first
          | (exfalso; simp_all; done)
          | (
              refine AW_seq ?_
              refine AW_all good tabE tabE_ok rfl rfl ?_ ?_
              · repeat' (first | exact trivial | exact rfl | exact (fun _ _ => rfl) | apply And.intro | intro _)
                all_goals (first | omega | (rename_i hg; exact hg) | (rename_i hg; change (_ : Bool) = true; rw [hg]; rfl) | (change (_ : Bool) = true; simp_all; done) | (simp_all; done))
              refine AW_ret (bodyQ_ret rfl ?_ (Ends.intro rfl ?_ ?_))
              · repeat' (first | exact trivial | exact rfl | exact (fun _ _ => rfl) | apply And.intro | intro _)
                all_goals (first | omega | (rename_i hg; exact hg) | (rename_i hg; change (_ : Bool) = true; rw [hg]; rfl) | (change (_ : Bool) = true; simp_all; done) | (simp_all; done))
              · repeat' (first | exact trivial | exact rfl | exact (fun _ _ => rfl) | apply And.intro | intro _)
                all_goals (first | omega | (rename_i hg; exact hg) | (rename_i hg; change (_ : Bool) = true; rw [hg]; rfl) | (change (_ : Bool) = true; simp_all; done) | (simp_all; done))
              have hlt : i < n := by simpa using h1
              exact congrArg (fun z => SV.cv (iint z)) (idx_found hlt h2 hb).symm
          )
        · first
          | (exfalso; simp_all; done)
          | (
              refine AW_skip ?_
              refine AW_all good tabE tabE_ok rfl rfl ?_ ?_
              · repeat' (first | exact trivial | exact rfl | exact (fun _ _ => rfl) | apply And.intro | intro _)
                all_goals (first | omega | (rename_i hg; exact hg) | (rename_i hg; change (_ : Bool) = true; rw [hg]; rfl) | (change (_ : Bool) = true; simp_all; done) | (simp_all; done))
              have hlt : i < n := by simpa using h1
              refine loop_next ⟨i + 1, hlt, fun k hk => ?_⟩ ⟨rfl, rfl, rfl, congrArg (fun z => SV.cv (iint z)) (next_int i n hlt hm), trivial⟩ ?_
              · rcases Nat.lt_succ_iff_lt_or_eq.1 hk with h | h
                · exact hb k h
                · rw [h]; exact h2
              · show n - (i + 1) < n - i
                omega
          )
    )
  · first
    | (exfalso; simp_all; done)
    | (
        refine AW_exit ?_
        refine AW_seq ?_
        refine AW_all good tabE tabE_ok rfl rfl ?_ ?_
        · repeat' (first | exact trivial | exact rfl | exact (fun _ _ => rfl) | apply And.intro | intro _)
          all_goals (first | omega | (rename_i hg; exact hg) | (rename_i hg; change (_ : Bool) = true; rw [hg]; rfl) | (change (_ : Bool) = true; simp_all; done) | (simp_all; done))
        refine AW_ret (bodyQ_ret rfl ?_ (Ends.intro rfl ?_ ?_))
        · repeat' (first | exact trivial | exact rfl | exact (fun _ _ => rfl) | apply And.intro | intro _)
          all_goals (first | omega | (rename_i hg; exact hg) | (rename_i hg; change (_ : Bool) = true; rw [hg]; rfl) | (change (_ : Bool) = true; simp_all; done) | (simp_all; done))
        · repeat' (first | exact trivial | exact rfl | exact (fun _ _ => rfl) | apply And.intro | intro _)
          all_goals (first | omega | (rename_i hg; exact hg) | (rename_i hg; change (_ : Bool) = true; rw [hg]; rfl) | (change (_ : Bool) = true; simp_all; done) | (simp_all; done))
        have he : i = n := by
          have : ¬ i < n := by simpa using h1
          omega
        subst he
        exact congrArg (fun z => SV.cv (iint z)) (idx_none hb).symm
    )
theorem index54 (n : Nat) (ex : Bool) (l : Nat → Prc) (f nc : Nat) (first caps : Nat → AV) (hi : immAV (.fn (.func f) 0 first nc caps) = true) (hok : CallOk Try.prog f) (g : Nat → Bool)
    (hg : ∀ i, i < n → PCall Try.prog f (fnList 0 first ++ ([prcC (l i)] ++ fnList nc caps)) (.cv (ibool (g i)))) :
    PCall Try.prog 54 [.one (prcS n ex l), .one (.fn (.func f) 0 first nc caps)] (.cv (iint (idxOf g n))) := by
  refine PCall_of (ACall_body good Try.func54 rfl 19 rfl (by simp) ?_)
  refine AW_lenle 0 rfl (fun hm => ?_)
  refine AW_seq ?_
  refine AW_all good tabE tabE_ok rfl rfl ?_ ?_
  · repeat' (first | exact trivial | exact rfl | exact (fun _ _ => rfl) | apply And.intro | intro _)
    all_goals (first | omega | (rename_i hg; exact hg) | (rename_i hg; change (_ : Bool) = true; rw [hg]; rfl) | (change (_ : Bool) = true; simp_all; done) | (simp_all; done))
  refine AW_seq ?_
  refine AW_seq ?_
  refine AW_all good tabE tabE_ok rfl rfl ?_ ?_
  · repeat' (first | exact trivial | exact rfl | exact (fun _ _ => rfl) | apply And.intro | intro _)
    all_goals (first | omega | (rename_i hg; exact hg) | (rename_i hg; change (_ : Bool) = true; rw [hg]; rfl) | (change (_ : Bool) = true; simp_all; done) | (simp_all; done))
  refine AW_block ?_
  refine AW_loopL (fun j : { i : Nat // i ≤ n ∧ ∀ k, k < i → g k = false } => [(0, .cv (.one (prcS n ex l))), (1, .cv (.one (.fn (.func f) 0 first nc caps))), (7, .cv (iint n)), (8, .cv (iint j.1))]) (fun j => n - j.1) ⟨0, Nat.zero_le _, fun k hk => absurd hk (Nat.not_lt_zero k)⟩ ?_ ?_
  · exact ⟨rfl, rfl, rfl, rfl, trivial⟩
  rintro ⟨i, hin, hb⟩
  dsimp only
  refine AW_seq ?_
  refine AW_all good tabE tabE_ok rfl rfl ?_ ?_
  · repeat' (first | exact trivial | exact rfl | exact (fun _ _ => rfl) | apply And.intro | intro _)
    all_goals (first | omega | (rename_i hg; exact hg) | (rename_i hg; change (_ : Bool) = true; rw [hg]; rfl) | (change (_ : Bool) = true; simp_all; done) | (simp_all; done))
  refine AW_seq ?_
  refine AW_cond rfl (fun h1 => ?_) (fun h1 => ?_)
  · first
    | (exfalso; simp_all; done)
    | (
        refine AW_skip ?_
        refine AW_seq ?_
        refine AW_block ?_
        refine AW_seq ?_
        refine AW_all good tabE tabE_ok rfl rfl ?_ ?_
        · repeat' (first | exact trivial | exact rfl | exact (fun _ _ => rfl) | apply And.intro | intro _)
          all_goals (first | omega | (rename_i hg; exact hg) | (rename_i hg; change (_ : Bool) = true; rw [hg]; rfl) | (change (_ : Bool) = true; simp_all; done) | (simp_all; done))
        refine AW_seq ?_
        have hlt : i < n := by simpa using h1
        refine AW_part good tab0 (tab0_ok _) et0 (et0_ok _) [] rfl rfl ?_ ?_
        · repeat' (first | exact trivial | exact rfl | exact (fun _ _ => rfl) | apply And.intro | intro _)
          all_goals omega
        refine AL_pcallv rfl rfl rfl ?_ hok ?_ (hg i hlt) rfl rfl (AL_nil ?_)
        rotate_left
        · exact imm_clos1 _ _ _ _ rfl hi
        rotate_left
        · repeat' (first | exact trivial | exact rfl | exact (fun _ _ => rfl) | apply And.intro | intro _)
          all_goals (first | omega | (rename_i hg; exact hg) | (rename_i hg; change (_ : Bool) = true; rw [hg]; rfl) | (change (_ : Bool) = true; simp_all; done) | (simp_all; done))
        refine AW_cond rfl (fun h2 => ?_) (fun h2 => ?_)
        · first
          | (exfalso; simp_all; done)
          | (
              refine AW_seq ?_
              refine AW_all good tabE tabE_ok rfl rfl ?_ ?_
              · repeat' (first | exact trivial | exact rfl | exact (fun _ _ => rfl) | apply And.intro | intro _)
                all_goals (first | omega | (rename_i hg; exact hg) | (rename_i hg; change (_ : Bool) = true; rw [hg]; rfl) | (change (_ : Bool) = true; simp_all; done) | (simp_all; done))
              refine AW_ret (bodyQ_ret rfl ?_ (Ends.intro rfl ?_ ?_))
              · repeat' (first | exact trivial | exact rfl | exact (fun _ _ => rfl) | apply And.intro | intro _)
                all_goals (first | omega | (rename_i hg; exact hg) | (rename_i hg; change (_ : Bool) = true; rw [hg]; rfl) | (change (_ : Bool) = true; simp_all; done) | (simp_all; done))
              · repeat' (first | exact trivial | exact rfl | exact (fun _ _ => rfl) | apply And.intro | intro _)
                all_goals (first | omega | (rename_i hg; exact hg) | (rename_i hg; change (_ : Bool) = true; rw [hg]; rfl) | (change (_ : Bool) = true; simp_all; done) | (simp_all; done))
              have hlt : i < n := by simpa using h1
              exact congrArg (fun z => SV.cv (iint z)) (idx_found hlt h2 hb).symm
          )
        · first
          | (exfalso; simp_all; done)
          | (
              refine AW_skip ?_
              refine AW_all good tabE tabE_ok rfl rfl ?_ ?_
              · repeat' (first | exact trivial | exact rfl | exact (fun _ _ => rfl) | apply And.intro | intro _)
                all_goals (first | omega | (rename_i hg; exact hg) | (rename_i hg; change (_ : Bool) = true; rw [hg]; rfl) | (change (_ : Bool) = true; simp_all; done) | (simp_all; done))
              have hlt : i < n := by simpa using h1
              refine loop_next ⟨i + 1, hlt, fun k hk => ?_⟩ ⟨rfl, rfl, rfl, congrArg (fun z => SV.cv (iint z)) (next_int i n hlt hm), trivial⟩ ?_
              · rcases Nat.lt_succ_iff_lt_or_eq.1 hk with h | h
                · exact hb k h
                · rw [h]; exact h2
              · show n - (i + 1) < n - i
                omega
          )
    )
  · first
    | (exfalso; simp_all; done)
    | (
        refine AW_exit ?_
        refine AW_seq ?_
        refine AW_all good tabE tabE_ok rfl rfl ?_ ?_
        · repeat' (first | exact trivial | exact rfl | exact (fun _ _ => rfl) | apply And.intro | intro _)
          all_goals (first | omega | (rename_i hg; exact hg) | (rename_i hg; change (_ : Bool) = true; rw [hg]; rfl) | (change (_ : Bool) = true; simp_all; done) | (simp_all; done))
        refine AW_ret (bodyQ_ret rfl ?_ (Ends.intro rfl ?_ ?_))
        · repeat' (first | exact trivial | exact rfl | exact (fun _ _ => rfl) | apply And.intro | intro _)
          all_goals (first | omega | (rename_i hg; exact hg) | (rename_i hg; change (_ : Bool) = true; rw [hg]; rfl) | (change (_ : Bool) = true; simp_all; done) | (simp_all; done))
        · repeat' (first | exact trivial | exact rfl | exact (fun _ _ => rfl) | apply And.intro | intro _)
          all_goals (first | omega | (rename_i hg; exact hg) | (rename_i hg; change (_ : Bool) = true; rw [hg]; rfl) | (change (_ : Bool) = true; simp_all; done) | (simp_all; done))
        have he : i = n := by
          have : ¬ i < n := by simpa using h1
          omega
        subst he
        exact congrArg (fun z => SV.cv (iint z)) (idx_none hb).symm
    )
end Go.Proofs.Ytndfcbcmeeemfaa.Abs

/-
  THE CONTRACTS OF PACKAGE machine (3): which processes may be.
-/
namespace Go.Proofs.Ytndfcbcmeeemfaa.Abs
open Go
set_option maxRecDepth 10000

theorem contains53 (n : Nat) (ex : Bool) (l : Nat → Ins) (f nc : Nat) (first caps : Nat → AV) (hi : immAV (.fn (.func f) 0 first nc caps) = true) (hok : CallOk Try.prog f) (g : Nat → Bool)
    (hg : ∀ i, i < n → PCall Try.prog f (fnList 0 first ++ ([insC (l i)] ++ fnList nc caps)) (.cv (ibool (g i)))) :
    PCall Try.prog 53 [.one (.imm (.sl 5 n ex fun i j => insI (l i) j)), .one (.fn (.func f) 0 first nc caps)] (.cv (ibool (anyB g n))) := by
  refine PCall_of (ACall_body good Try.func53 rfl 9 rfl (by simp) ?_)
  refine AW_seq ?_
  refine AW_all good tabE tabE_ok rfl rfl ?_ ?_
  · repeat' (first | exact trivial | exact rfl | exact (fun _ _ => rfl) | apply And.intro | intro _)
    all_goals (first | omega | (rename_i hg; exact hg) | (rename_i hg; change (_ : Bool) = true; rw [hg]; rfl) | (change (_ : Bool) = true; simp_all; done) | (simp_all; done))
  refine AW_seq ?_
  refine AW_part good tabE tabE_ok et0 (et0_ok _) [] rfl rfl ?_ ?_
  · repeat' (first | exact trivial | exact rfl | exact (fun _ _ => rfl) | apply And.intro | intro _)
  refine AL_pcallv rfl rfl rfl ?_ rfl ?_ (index55 n ex l f nc first caps hi hok g hg) rfl rfl (AL_part good tabE tabE_ok et0 (et0_ok _) [] rfl rfl ?_ (AL_nil ?_))
  · repeat' (first | exact trivial | exact rfl | exact (fun _ _ => rfl) | apply And.intro | intro _)
  · show (immCV (.one (.imm (.sl 5 n ex fun i j => insI (l i) j))) && ([CV.one (AV.fn (.func f) 0 first nc caps)].all immCV)) = true
    simp only [List.all_cons, List.all_nil, Bool.and_true]
    exact hi
  · repeat' (first | exact trivial | exact rfl | exact (fun _ _ => rfl) | apply And.intro | intro _)
    all_goals (first | omega | (rename_i hg; exact hg) | (rename_i hg; change (_ : Bool) = true; rw [hg]; rfl) | (change (_ : Bool) = true; simp_all; done) | (simp_all; done))
  refine AW_ret (bodyQ_ret rfl ?_ (Ends.intro rfl ?_ ?_))
  · repeat' (first | exact trivial | exact rfl | exact (fun _ _ => rfl) | apply And.intro | intro _)
    all_goals (first | omega | (rename_i hg; exact hg) | (rename_i hg; change (_ : Bool) = true; rw [hg]; rfl) | (change (_ : Bool) = true; simp_all; done) | (simp_all; done))
  · repeat' (first | exact trivial | exact rfl | exact (fun _ _ => rfl) | apply And.intro | intro _)
    all_goals (first | omega | (rename_i hg; exact hg) | (rename_i hg; change (_ : Bool) = true; rw [hg]; rfl) | (change (_ : Bool) = true; simp_all; done) | (simp_all; done))
  exact ret_bool (idx_any g n)
theorem contains48 (n : Nat) (ex : Bool) (l : Nat → Prc) (f nc : Nat) (first caps : Nat → AV) (hi : immAV (.fn (.func f) 0 first nc caps) = true) (hok : CallOk Try.prog f) (g : Nat → Bool)
    (hg : ∀ i, i < n → PCall Try.prog f (fnList 0 first ++ ([prcC (l i)] ++ fnList nc caps)) (.cv (ibool (g i)))) :
    PCall Try.prog 48 [.one (prcS n ex l), .one (.fn (.func f) 0 first nc caps)] (.cv (ibool (anyB g n))) := by
  refine PCall_of (ACall_body good Try.func48 rfl 9 rfl (by simp) ?_)
  refine AW_seq ?_
  refine AW_all good tabE tabE_ok rfl rfl ?_ ?_
  · repeat' (first | exact trivial | exact rfl | exact (fun _ _ => rfl) | apply And.intro | intro _)
    all_goals (first | omega | (rename_i hg; exact hg) | (rename_i hg; change (_ : Bool) = true; rw [hg]; rfl) | (change (_ : Bool) = true; simp_all; done) | (simp_all; done))
  refine AW_seq ?_
  refine AW_part good tabE tabE_ok et0 (et0_ok _) [] rfl rfl ?_ ?_
  · repeat' (first | exact trivial | exact rfl | exact (fun _ _ => rfl) | apply And.intro | intro _)
  refine AL_pcallv rfl rfl rfl ?_ rfl ?_ (index54 n ex l f nc first caps hi hok g hg) rfl rfl (AL_part good tabE tabE_ok et0 (et0_ok _) [] rfl rfl ?_ (AL_nil ?_))
  · repeat' (first | exact trivial | exact rfl | exact (fun _ _ => rfl) | apply And.intro | intro _)
  · show (immCV (.one (prcS n ex l)) && ([CV.one (AV.fn (.func f) 0 first nc caps)].all immCV)) = true
    simp only [List.all_cons, List.all_nil, Bool.and_true]
    exact hi
  · repeat' (first | exact trivial | exact rfl | exact (fun _ _ => rfl) | apply And.intro | intro _)
    all_goals (first | omega | (rename_i hg; exact hg) | (rename_i hg; change (_ : Bool) = true; rw [hg]; rfl) | (change (_ : Bool) = true; simp_all; done) | (simp_all; done))
  refine AW_ret (bodyQ_ret rfl ?_ (Ends.intro rfl ?_ ?_))
  · repeat' (first | exact trivial | exact rfl | exact (fun _ _ => rfl) | apply And.intro | intro _)
    all_goals (first | omega | (rename_i hg; exact hg) | (rename_i hg; change (_ : Bool) = true; rw [hg]; rfl) | (change (_ : Bool) = true; simp_all; done) | (simp_all; done))
  · repeat' (first | exact trivial | exact rfl | exact (fun _ _ => rfl) | apply And.intro | intro _)
    all_goals (first | omega | (rename_i hg; exact hg) | (rename_i hg; change (_ : Bool) = true; rw [hg]; rfl) | (change (_ : Bool) = true; simp_all; done) | (simp_all; done))
  exact ret_bool (idx_any g n)

def tabG : Tab := tabAdd 52 (fun args => match args with
  | [.agg [.imm (.val (.int .i64 kd)), .imm (.val (.int .i64 rg)), .imm (.val (.int .i64 at_)), .imm (.val (.int .u64 a)), .imm (.val (.int .i64 b))], .one (.imm (.val (.int .i64 many)))] => some (.cv (ibool (mayI ⟨kd, rg, at_, a, b⟩ many)), True)
  | _ => none) tabE
theorem tabG_ok : TabOk Try.prog tabG := by
  refine tabAdd_ok rfl (fun args r p h hp => ?_) tabE_ok
  split at h
  · rename_i kd rg at_ a b many
    simp only [Option.some.injEq, Prod.mk.injEq] at h; obtain ⟨rfl, rfl⟩ := h; exact may52 ⟨kd, rg, at_, a, b⟩ many
  · cases h

theorem lit51 (p : Ins) (many : Int) : PCall Try.prog 51 [insC p, .one (.vptr 1 fun q => [IV.val (.int .i64 many)].getD q ivDef)] (.cv (ibool (!mayI p many))) := by
  refine PCall_of (ACall_body good Try.func51 rfl 8 rfl (by simp) ?_)
  refine AW_seq ?_
  refine AW_eff good tabG tabG_ok et0 (et0_ok _) [0] rfl rfl ?_ ?_
  · repeat' (first | exact trivial | exact rfl | exact (fun _ _ => rfl) | apply And.intro | intro _)
    all_goals (first | omega | (rename_i hg; exact hg) | (rename_i hg; change (_ : Bool) = true; rw [hg]; rfl) | (change (_ : Bool) = true; simp_all; done) | (simp_all; done))
  refine AW_seq ?_
  refine AW_all good tabG tabG_ok rfl rfl ?_ ?_
  · repeat' (first | exact trivial | exact rfl | exact (fun _ _ => rfl) | apply And.intro | intro _)
    all_goals (first | omega | (rename_i hg; exact hg) | (rename_i hg; change (_ : Bool) = true; rw [hg]; rfl) | (change (_ : Bool) = true; simp_all; done) | (simp_all; done))
  refine AW_ret (bodyQ_ret rfl ?_ (Ends.intro rfl ?_ ?_))
  · repeat' (first | exact trivial | exact rfl | exact (fun _ _ => rfl) | apply And.intro | intro _)
    all_goals (first | omega | (rename_i hg; exact hg) | (rename_i hg; change (_ : Bool) = true; rw [hg]; rfl) | (change (_ : Bool) = true; simp_all; done) | (simp_all; done))
  · repeat' (first | exact trivial | exact rfl | exact (fun _ _ => rfl) | apply And.intro | intro _)
    all_goals (first | omega | (rename_i hg; exact hg) | (rename_i hg; change (_ : Bool) = true; rw [hg]; rfl) | (change (_ : Bool) = true; simp_all; done) | (simp_all; done))
  rfl

def boundI (x : AV) : Option Int := match x with
  | .vptr 1 c => match c 0 with
    | .val (.int .i64 many) => some many
    | _ => none
  | _ => none
theorem bound_le {x : AV} {many : Int} (h : boundI x = some many) : CLe (.one x) (.one (.vptr 1 fun q => [IV.val (.int .i64 many)].getD q ivDef)) ∧ immAV x = true := by
  unfold boundI at h
  split at h
  · rename_i c
    split at h
    · rename_i q hc
      simp only [Option.some.injEq] at h
      subst h
      refine ⟨?_, rfl⟩
      rintro w O μ v ⟨b, o, hv, h1, h2, h3⟩
      refine ⟨b, o, hv, h1, h2, fun j hj => ?_⟩
      obtain rfl : j = 0 := by omega
      obtain ⟨u, hu, hr⟩ := h3 0 hj
      rw [hc] at hr
      exact ⟨u, hu, hr⟩
    · cases h
  · cases h

/-- Which processes may be. -/
def mayP (p : Prc) : Bool := decide ((p.n : Int) ≥ 1) && (decide ((p.n : Int) ≤ 64) && (decide (p.at_ ≥ 0) && (decide (p.at_ < p.n) && (decide (p.took ≥ 0) && (decide (p.took ≤ 1099511627776) && !anyB (fun i => !mayI (p.prog i) p.n) p.n)))))

def tabH : Tab := tabAdd 53 (fun args => match args with
  | [.one (.imm (.sl 5 n _ cell)), .one (.fn (.func 51) 0 _ 1 caps)] => match boundI (caps 0) with
    | some many => some (.cv (ibool (anyB (fun i => !mayI (progAt cell i) many) n)), isProg n cell)
    | none => none
  | _ => none) tabG
theorem tabH_ok : TabOk Try.prog tabH := by
  refine tabAdd_ok rfl (fun args r p h hp => ?_) tabG_ok
  split at h
  · rename_i n ex cell first caps
    split at h
    · rename_i many hb
      simp only [Option.some.injEq, Prod.mk.injEq] at h; obtain ⟨rfl, rfl⟩ := h
      obtain ⟨h1, h2⟩ := bound_le hb
      refine (contains53 n ex (progAt cell) 51 1 first caps ?_ rfl _ fun i hi => ?_).args (TLe.cons (CLe.imm (ILe.sl rfl id (.inr ⟨rfl, fun i j hi hj => ILe.of_eq (hp i hi j hj)⟩))) (TLe.refl _))
      · simp [immAV, h2]
      · exact (lit51 (progAt cell i) many).args (TLe.cons (CLe.refl _) (TLe.cons h1 TLe.nil))
    · cases h
  · cases h

theorem right47 (p : Prc) : PCall Try.prog 47 [prcC p] (.cv (ibool (mayP p))) := by
  refine PCall_of (ACall_body good Try.func47 rfl 43 rfl (by simp) ?_)
  refine AW_seq ?_
  refine AW_eff good tabH tabH_ok et0 (et0_ok _) [0] rfl rfl ?_ ?_
  · repeat' (first | exact trivial | exact rfl | exact (fun _ _ => rfl) | apply And.intro | intro _)
    all_goals (first | omega | (rename_i hg; exact hg) | exact prog_lit _ _ | (rename_i hg; change (_ : Bool) = true; rw [hg]; rfl) | (change (_ : Bool) = true; simp_all; done))
  refine AW_seq ?_
  refine AW_all good tabH tabH_ok rfl rfl ?_ ?_
  · repeat' (first | exact trivial | exact rfl | exact (fun _ _ => rfl) | apply And.intro | intro _)
    all_goals (first | omega | (rename_i hg; exact hg) | exact prog_lit _ _ | (rename_i hg; change (_ : Bool) = true; rw [hg]; rfl) | (change (_ : Bool) = true; simp_all; done))
  refine AW_seq ?_
  refine AW_all good tabH tabH_ok rfl rfl ?_ ?_
  · repeat' (first | exact trivial | exact rfl | exact (fun _ _ => rfl) | apply And.intro | intro _)
    all_goals (first | omega | (rename_i hg; exact hg) | exact prog_lit _ _ | (rename_i hg; change (_ : Bool) = true; rw [hg]; rfl) | (change (_ : Bool) = true; simp_all; done))
  refine AW_seq ?_
  refine AW_freeze 1 rfl rfl ?_
  refine AW_all good tabH tabH_ok rfl rfl ?_ ?_
  · repeat' (first | exact trivial | exact rfl | exact (fun _ _ => rfl) | apply And.intro | intro _)
    all_goals (first | omega | (rename_i hg; exact hg) | exact prog_lit _ _ | (rename_i hg; change (_ : Bool) = true; rw [hg]; rfl) | (change (_ : Bool) = true; simp_all; done))
  refine AW_ret (bodyQ_ret rfl ?_ (Ends.intro rfl ?_ ?_))
  · repeat' (first | exact trivial | exact rfl | exact (fun _ _ => rfl) | apply And.intro | intro _)
    all_goals (first | omega | (rename_i hg; exact hg) | exact prog_lit _ _ | (rename_i hg; change (_ : Bool) = true; rw [hg]; rfl) | (change (_ : Bool) = true; simp_all; done))
  · repeat' (first | exact trivial | exact rfl | exact (fun _ _ => rfl) | apply And.intro | intro _)
    all_goals (first | omega | (rename_i hg; exact hg) | exact prog_lit _ _ | (rename_i hg; change (_ : Bool) = true; rw [hg]; rfl) | (change (_ : Bool) = true; simp_all; done))
  refine ret_bool ?_
  unfold mayP
  cases decide ((p.n : Int) ≥ 1) <;> cases decide ((p.n : Int) ≤ 64) <;> cases decide (p.at_ ≥ 0) <;> cases decide (p.at_ < p.n) <;> cases decide (p.took ≥ 0) <;> cases decide (p.took ≤ 1099511627776) <;> rfl
end Go.Proofs.Ytndfcbcmeeemfaa.Abs

/-
  THE CONTRACTS OF PACKAGE machine (4): which rows of processes may be; clones.
-/
namespace Go.Proofs.Ytndfcbcmeeemfaa.Abs
open Go
set_option maxRecDepth 10000

/-- A process, as what it is made of. -/
def asPrc (c : CV) : Option (Prc × Prop) := match c with
  | .agg [.imm (.sl 5 n _ cell), .imm (.val (.int .i64 at_)), .imm (.val (.int .u64 r0)), .imm (.val (.int .u64 r1)), .imm (.val (.int .u64 r2)), .imm (.val (.int .u64 r3)), .imm (.val (.bool done)), .imm (.val (.int .i64 took))] => some (⟨n, progAt cell, at_, r0, r1, r2, r3, done, took⟩, isProg n cell)
  | _ => none
theorem asPrc_le {c : CV} {p : Prc} {q : Prop} (h : asPrc c = some (p, q)) (hq : q) : CLe c (prcC p) := by
  unfold asPrc at h
  split at h
  · simp only [Option.some.injEq, Prod.mk.injEq] at h
    obtain ⟨rfl, rfl⟩ := h
    rintro w O μ v ⟨cs, hv, hl, hr⟩
    refine ⟨cs, hv, hl, fun i x u hx hu => ?_⟩
    match i, hx with
    | 0, hx => simp at hx; subst hx; exact prog_le hq w O u (hr 0 _ u rfl hu)
    | 1, hx => simp at hx; subst hx; exact hr 1 _ u rfl hu
    | 2, hx => simp at hx; subst hx; exact hr 2 _ u rfl hu
    | 3, hx => simp at hx; subst hx; exact hr 3 _ u rfl hu
    | 4, hx => simp at hx; subst hx; exact hr 4 _ u rfl hu
    | 5, hx => simp at hx; subst hx; exact hr 5 _ u rfl hu
    | 6, hx => simp at hx; subst hx; exact hr 6 _ u rfl hu
    | 7, hx => simp at hx; subst hx; exact hr 7 _ u rfl hu
  · cases h

def tabI : Tab := tabAdd 47 (fun args => match args with
  | [c] => match asPrc c with
    | some (p, q) => some (.cv (ibool (mayP p)), q)
    | none => none
  | _ => none) tabH
theorem tabI_ok : TabOk Try.prog tabI := by
  refine tabAdd_ok rfl (fun args r p h hp => ?_) tabH_ok
  split at h
  · split at h
    · rename_i hc
      simp only [Option.some.injEq, Prod.mk.injEq] at h; obtain ⟨rfl, rfl⟩ := h; exact (right47 _).args (TLe.cons (asPrc_le hc hp) TLe.nil)
    · cases h
  · cases h

theorem lit49 (p : Prc) : PCall Try.prog 49 [prcC p] (.cv (ibool (!mayP p))) := by
  refine PCall_of (ACall_body good Try.func49 rfl 6 rfl (by simp) ?_)
  refine AW_seq ?_
  refine AW_eff good tabI tabI_ok et0 (et0_ok _) [0] rfl rfl ?_ ?_
  · repeat' (first | exact trivial | exact rfl | exact (fun _ _ => rfl) | apply And.intro | intro _)
    all_goals exact prog_lit _ _
  refine AW_seq ?_
  refine AW_all good tabI tabI_ok rfl rfl ?_ ?_
  · repeat' (first | exact trivial | exact rfl | exact (fun _ _ => rfl) | apply And.intro | intro _)
    all_goals exact prog_lit _ _
  refine AW_ret (bodyQ_ret rfl ?_ (Ends.intro rfl ?_ ?_))
  · repeat' (first | exact trivial | exact rfl | exact (fun _ _ => rfl) | apply And.intro | intro _)
    all_goals exact prog_lit _ _
  · repeat' (first | exact trivial | exact rfl | exact (fun _ _ => rfl) | apply And.intro | intro _)
    all_goals exact prog_lit _ _
  rfl

def mayL (n : Nat) (l : Nat → Prc) : Bool := decide ((n : Int) ≤ 8) && !anyB (fun i => !mayP (l i)) n

def tabJ : Tab := tabAdd 48 (fun args => match args with
  | [.one (.imm (.sl 8 n _ cell)), .one (.fn (.func 49) 0 _ 0 _)] => some (.cv (ibool (anyB (fun i => !mayP (procsAt cell i)) n)), isProcs n cell)
  | _ => none) tabI
theorem tabJ_ok : TabOk Try.prog tabJ := by
  refine tabAdd_ok rfl (fun args r p h hp => ?_) tabI_ok
  split at h
  · rename_i n ex cell first caps
    simp only [Option.some.injEq, Prod.mk.injEq] at h; obtain ⟨rfl, rfl⟩ := h
    refine (contains48 n ex (procsAt cell) 49 0 first caps ?_ rfl _ fun i hi => ?_).args (TLe.cons (procs_le hp) (TLe.refl _))
    · simp [immAV]
    · exact lit49 (procsAt cell i)
  · cases h

theorem right36 (n : Nat) (ex : Bool) (l : Nat → Prc) : PCall Try.prog 36 [.one (prcS n ex l)] (.cv (ibool (mayL n l))) := by
  refine PCall_of (ACall_body good Try.func36 rfl 11 rfl (by simp) ?_)
  refine AW_seq ?_
  refine AW_all good tabJ tabJ_ok rfl rfl ?_ ?_
  · repeat' (first | exact trivial | exact rfl | exact (fun _ _ => rfl) | apply And.intro | intro _)
    all_goals (first | omega | exact prog_lit _ _ | exact procs_lit _ _ | (rename_i hg; exact hg) | (rename_i hg; change (_ : Bool) = true; rw [hg]; rfl) | (change (_ : Bool) = true; simp_all; done))
  refine AW_seq ?_
  refine AW_all good tabJ tabJ_ok rfl rfl ?_ ?_
  · repeat' (first | exact trivial | exact rfl | exact (fun _ _ => rfl) | apply And.intro | intro _)
    all_goals (first | omega | exact prog_lit _ _ | exact procs_lit _ _ | (rename_i hg; exact hg) | (rename_i hg; change (_ : Bool) = true; rw [hg]; rfl) | (change (_ : Bool) = true; simp_all; done))
  refine AW_ret (bodyQ_ret rfl ?_ (Ends.intro rfl ?_ ?_))
  · repeat' (first | exact trivial | exact rfl | exact (fun _ _ => rfl) | apply And.intro | intro _)
    all_goals (first | omega | exact prog_lit _ _ | exact procs_lit _ _ | (rename_i hg; exact hg) | (rename_i hg; change (_ : Bool) = true; rw [hg]; rfl) | (change (_ : Bool) = true; simp_all; done))
  · repeat' (first | exact trivial | exact rfl | exact (fun _ _ => rfl) | apply And.intro | intro _)
    all_goals (first | omega | exact prog_lit _ _ | exact procs_lit _ _ | (rename_i hg; exact hg) | (rename_i hg; change (_ : Bool) = true; rw [hg]; rfl) | (change (_ : Bool) = true; simp_all; done))
  refine ret_bool ?_
  unfold mayL
  cases decide ((n : Int) ≤ 8) <;> rfl

theorem clone45 (n : Nat) (ex : Bool) (cell : Nat → Nat → IV) (h1 : n * 80 ≤ 140737488355328) (h2 : n ≤ maxLen) :
    ACall Try.prog 45 [.one (.imm (.sl 8 n ex cell))] (heapOf []) 0 fun x H' n' => x = .cv (.one (.osl 0 8 0 0 n true)) ∧ H' = updH (heapOf []) [(0, some (.rows 54 8 n cell))] ∧ n' = 0 + 1 := by
  refine ACall_norm (Bs := []) (cnt := 1) ?_
  rw [heapOf_nil]
  refine ACall_body good Try.func45 rfl 8 rfl (by simp) ?_
  refine AW_seq (AW_all good tab0 (tab0_ok _) rfl rfl ?_ ?_)
  · repeat' (first | exact trivial | apply And.intro | intro _)
  refine AW_seq (AW_seq (AW_part good tab0 (tab0_ok _) et0 (et0_ok _) [] rfl rfl ?_ ?_))
  · repeat' (first | exact trivial | apply And.intro | intro _)
  refine AL_isnil good rfl rfl rfl rfl trivial rfl (fun q hq => AL_nil ?_)
  refine AW_cond rfl (fun h => ?_) (fun h => ?_)
  · refine AW_seq (AW_all good tab0 (tab0_ok _) rfl rfl ?_ ?_)
    · repeat' (first | exact trivial | apply And.intro | intro _)
    obtain rfl := hq h
    refine AW_own_empty 2 54 8 cell rfl rfl rfl ?_
    refine AW_ret ?_
    refine ⟨_, _, rfl, ?_, [0], rfl, EndsE.one rfl ?_ rfl ?_⟩
    · repeat' (first | exact trivial | apply And.intro | intro _)
    · exact SLe.of_eq rfl
    · exact BLe.of_eq rfl
  · refine AW_skip ?_
    refine AW_seq (AW_all good tab0 (tab0_ok _) rfl rfl ?_ ?_)
    · repeat' (first | exact trivial | apply And.intro | intro _)
      · show (0 + n) * 80 ≤ _
        omega
      · omega
      · omega
    refine AW_ret ?_
    refine ⟨_, _, rfl, ?_, [1], rfl, EndsE.one rfl ?_ rfl ?_⟩
    · repeat' (first | exact trivial | apply And.intro | intro _)
    · exact SLe.of_eq (by rw [Nat.zero_add]; rfl)
    · refine BLe.rows (by omega) fun i j hi hj => ILe.of_eq ?_
      show (bif Nat.blt i 0 then _ else cell (i - 0) j) = cell i j
      have : Nat.blt i 0 = false := by cases i <;> rfl
      rw [this]
      rfl
end Go.Proofs.Ytndfcbcmeeemfaa.Abs
