/-
  PLANS AND DEEDS AS DATA; which may be.
-/
import Derived.Test.YtmpddomgiplnmaaDoorLay
import Derived.Test.YtmpddomgiplnmaaDoorV2
namespace Go.Proofs.YtmpddomgiplnmaaDoor.Abs
open Go
set_option maxRecDepth 10000

def i64E : Enc Int := encInt .i64
def nI : Cod Int := codI .i64
/-- A deed. -/
structure Dd where
  kind : Int
  nums : Sl Int
def ddE : Enc Dd := ⟨2, fun x => lI [.val (.int .i64 x.kind), slI i64E x.nums], fun c => ⟨ivInt (c 0), slG i64E (c 1)⟩, fun c => c 0 = .val (.int .i64 (ivInt (c 0))) ∧ slOk i64E (c 1), fun x => ⟨rfl, slOk_lit⟩, fun c h j hj => by
  obtain ⟨h0, h1⟩ := h
  match j, hj with
  | 0, _ => exact ILe.of_eq h0
  | 1, _ => exact slI_le h1
  | q + 2, h => exact absurd h (by omega)⟩
def ddC (x : Dd) : CV := .agg [.imm (.val (.int .i64 x.kind)), .imm (slI i64E x.nums)]
def ddA : Cod Dd := codAg ddE

/-- A plan. -/
structure Pl where
  procs : Int
  nodes : Int
  deeds : Sl Dd
def plE : Enc Pl := ⟨3, fun x => lI [.val (.int .i64 x.procs), .val (.int .i64 x.nodes), slI ddE x.deeds], fun c => ⟨ivInt (c 0), ivInt (c 1), slG ddE (c 2)⟩, fun c => c 0 = .val (.int .i64 (ivInt (c 0))) ∧ c 1 = .val (.int .i64 (ivInt (c 1))) ∧ slOk ddE (c 2), fun x => ⟨rfl, rfl, slOk_lit⟩, fun c h j hj => by
  obtain ⟨h0, h1, h2⟩ := h
  match j, hj with
  | 0, _ => exact ILe.of_eq h0
  | 1, _ => exact ILe.of_eq h1
  | 2, _ => exact slI_le h2
  | q + 3, h => exact absurd h (by omega)⟩
def plC (x : Pl) : CV := .agg [.imm (.val (.int .i64 x.procs)), .imm (.val (.int .i64 x.nodes)), .imm (slI ddE x.deeds)]
def plA : Cod Pl := codAg plE

def beginsB (p : Pl) : Bool := bif (bif (bif decide (p.procs ≥ 1) then decide (p.procs ≤ 8) else false) then decide (p.nodes ≥ 1) else false) then decide (p.nodes ≤ 512) else false
def e_begins : WEnv Tryd.prog lay := ⟨{ tab := tab0 }, good, rfl, (tab0_ok _), (et0_ok _)⟩
theorem begins (p : Pl) : PCall Tryd.prog 24 [plC p] (.cv (ibool (beginsB p))) := by
  refine pwalk e_begins Tryd.func24 rfl 21 rfl rfl ?_
  repeat' (first | refine And.intro ?_ ?_ | refine iT fun _ _ => ?_ | refine iF fun _ _ => ?_ | intro _ | exact sE | exact bE | exact trivial | exact rfl | assumption)

def bigB (n : Int) : Bool := bif decide (n < -1073741824) then true else decide (n > 1073741824)
def e_right1 : WEnv Tryd.prog lay := ⟨{ tab := tab0 }, good, rfl, (tab0_ok _), (et0_ok _)⟩
theorem right1 (n : Int) : PCall Tryd.prog 45 [iint n] (.cv (ibool (bigB n))) := by
  refine pwalk e_right1 Tryd.func45 rfl 9 rfl rfl ?_
  repeat' (first | refine And.intro ?_ ?_ | refine iT fun _ _ => ?_ | refine iF fun _ _ => ?_ | intro _ | exact sE | exact bE | exact trivial | exact rfl | assumption)

def e_indexDd : WEnv Tryd.prog lay := ⟨{ tab := tab0 }, good, rfl, (tab0_ok _), (et0_ok _)⟩
theorem indexDd (s : Sl Dd) (f nc : Nat) (first caps : Nat → AV) (hi : immAV (.fn (.func f) 0 first nc caps) = true) (hok : CallOk Tryd.prog f) (g : Nat → Bool)
    (hg : ∀ i, i < s.n → PCall Tryd.prog f (fnList 0 first ++ ([aggA ddE (s.at_ i)] ++ fnList nc caps)) (.cv (ibool (g i)))) : PCall Tryd.prog 43 [.one (.imm (slI ddE s)), .one (.fn (.func f) 0 first nc caps)] (.cv (iint (idxOf g s.n))) := by
  refine pcall_wp0 good Tryd.func43 rfl 19 rfl rfl ?_
  refine AW_lenW 0 rfl (fun hm => ?_)
  refine AW_go e_indexDd ?_
  repeat' (first | refine And.intro ?_ ?_ | refine iT fun _ _ => ?_ | refine iF fun _ _ => ?_ | intro _ | exact sE | exact bE | exact trivial | exact rfl | assumption)
  refine ⟨AW_loopW e_indexDd [0, 1, 7] [] (fun (i : Nat) => [(8, .cv (iint i))]) (fun i => []) (fun i => s.n - i) (fun i => i ≤ s.n ∧ ∀ k, k < i → g k = false) (0) ?_ ?_⟩
  · repeat' (first | refine And.intro ?_ ?_ | refine iT fun _ _ => ?_ | refine iF fun _ _ => ?_ | intro _ | exact sE | exact bE | exact trivial | exact rfl | assumption | omega)
  rintro i ⟨hin, hb⟩
  repeat' (first | refine And.intro ?_ ?_ | refine iT fun _ _ => ?_ | refine iF fun _ _ => ?_ | intro _ | exact sE | exact bE | exact trivial | exact rfl | assumption | omega)
  · refine ⟨AL_pcallv rfl rfl rfl ?_ hok ?_ (hg i (by omega)) rfl rfl (AL_nil ?_)⟩
    · repeat' (first | refine And.intro ?_ ?_ | refine iT fun _ _ => ?_ | refine iF fun _ _ => ?_ | intro _ | exact sE | exact bE | exact trivial | exact rfl | assumption)
    · exact imm_clos1 _ _ _ _ rfl hi
    repeat' (first | refine And.intro ?_ ?_ | refine iT fun _ _ => ?_ | refine iF fun _ _ => ?_ | intro _ | exact sE | exact bE | exact trivial | exact rfl | assumption)
    · exact sI (idx_found (by omega) (by assumption) hb).symm
    · refine ⟨i + 1, [], ?_⟩
      repeat' (first | refine And.intro ?_ ?_ | refine iT fun _ _ => ?_ | refine iF fun _ _ => ?_ | intro _ | exact sE | exact bE | exact trivial | exact rfl | assumption | omega | exact sW (by omega) (by omega) (by omega) | exact sF hi | (dsimp only; omega))
      rename_i k hk
      rcases Nat.lt_succ_iff_lt_or_eq.1 hk with h | h
      · exact hb k h
      · rw [h]; assumption
  · obtain rfl : i = s.n := by omega
    exact sI (idx_none hb).symm

def e_indexI : WEnv Tryd.prog lay := ⟨{ tab := tab0 }, good, rfl, (tab0_ok _), (et0_ok _)⟩
theorem indexI (s : Sl Int) (f nc : Nat) (first caps : Nat → AV) (hi : immAV (.fn (.func f) 0 first nc caps) = true) (hok : CallOk Tryd.prog f) (g : Nat → Bool)
    (hg : ∀ i, i < s.n → PCall Tryd.prog f (fnList 0 first ++ ([oneA i64E (s.at_ i)] ++ fnList nc caps)) (.cv (ibool (g i)))) : PCall Tryd.prog 53 [.one (.imm (slI i64E s)), .one (.fn (.func f) 0 first nc caps)] (.cv (iint (idxOf g s.n))) := by
  refine pcall_wp0 good Tryd.func53 rfl 19 rfl rfl ?_
  refine AW_lenW 0 rfl (fun hm => ?_)
  refine AW_go e_indexI ?_
  repeat' (first | refine And.intro ?_ ?_ | refine iT fun _ _ => ?_ | refine iF fun _ _ => ?_ | intro _ | exact sE | exact bE | exact trivial | exact rfl | assumption)
  refine ⟨AW_loopW e_indexI [0, 1, 7] [] (fun (i : Nat) => [(8, .cv (iint i))]) (fun i => []) (fun i => s.n - i) (fun i => i ≤ s.n ∧ ∀ k, k < i → g k = false) (0) ?_ ?_⟩
  · repeat' (first | refine And.intro ?_ ?_ | refine iT fun _ _ => ?_ | refine iF fun _ _ => ?_ | intro _ | exact sE | exact bE | exact trivial | exact rfl | assumption | omega)
  rintro i ⟨hin, hb⟩
  repeat' (first | refine And.intro ?_ ?_ | refine iT fun _ _ => ?_ | refine iF fun _ _ => ?_ | intro _ | exact sE | exact bE | exact trivial | exact rfl | assumption | omega)
  · refine ⟨AL_pcallv rfl rfl rfl ?_ hok ?_ (hg i (by omega)) rfl rfl (AL_nil ?_)⟩
    · repeat' (first | refine And.intro ?_ ?_ | refine iT fun _ _ => ?_ | refine iF fun _ _ => ?_ | intro _ | exact sE | exact bE | exact trivial | exact rfl | assumption)
    · exact imm_clos1 _ _ _ _ rfl hi
    repeat' (first | refine And.intro ?_ ?_ | refine iT fun _ _ => ?_ | refine iF fun _ _ => ?_ | intro _ | exact sE | exact bE | exact trivial | exact rfl | assumption)
    · exact sI (idx_found (by omega) (by assumption) hb).symm
    · refine ⟨i + 1, [], ?_⟩
      repeat' (first | refine And.intro ?_ ?_ | refine iT fun _ _ => ?_ | refine iF fun _ _ => ?_ | intro _ | exact sE | exact bE | exact trivial | exact rfl | assumption | omega | exact sW (by omega) (by omega) (by omega) | exact sF hi | (dsimp only; omega))
      rename_i k hk
      rcases Nat.lt_succ_iff_lt_or_eq.1 hk with h | h
      · exact hb k h
      · rw [h]; assumption
  · obtain rfl : i = s.n := by omega
    exact sI (idx_none hb).symm

def e_containsDd : WEnv Tryd.prog lay := ⟨{ tab := tab0 }, good, rfl, (tab0_ok _), (et0_ok _)⟩
theorem containsDd (s : Sl Dd) (f nc : Nat) (first caps : Nat → AV) (hi : immAV (.fn (.func f) 0 first nc caps) = true) (hok : CallOk Tryd.prog f) (g : Nat → Bool)
    (hg : ∀ i, i < s.n → PCall Tryd.prog f (fnList 0 first ++ ([aggA ddE (s.at_ i)] ++ fnList nc caps)) (.cv (ibool (g i)))) : PCall Tryd.prog 25 [.one (.imm (slI ddE s)), .one (.fn (.func f) 0 first nc caps)] (.cv (ibool (anyB g s.n))) := by
  refine pwalk e_containsDd Tryd.func25 rfl 9 rfl rfl ?_
  repeat' (first | refine And.intro ?_ ?_ | refine iT fun _ _ => ?_ | refine iF fun _ _ => ?_ | intro _ | exact sE | exact bE | exact trivial | exact rfl | assumption)
  refine ⟨AL_pcallv rfl rfl rfl ?_ rfl ?_ (indexDd s f nc first caps hi hok g hg) rfl rfl (AL_part good tab0 (tab0_ok _) et0 (et0_ok _) [] rfl rfl ?_ (AL_nil ?_))⟩
  · repeat' (first | refine And.intro ?_ ?_ | refine iT fun _ _ => ?_ | refine iF fun _ _ => ?_ | intro _ | exact sE | exact bE | exact trivial | exact rfl | assumption)
  · show (immCV (.one (.imm (slI ddE s))) && ([CV.one (AV.fn (.func f) 0 first nc caps)].all immCV)) = true
    simp only [List.all_cons, List.all_nil, Bool.and_true]
    exact hi
  · repeat' (first | refine And.intro ?_ ?_ | refine iT fun _ _ => ?_ | refine iF fun _ _ => ?_ | intro _ | exact sE | exact bE | exact trivial | exact rfl | assumption)
  repeat' (first | refine And.intro ?_ ?_ | refine iT fun _ _ => ?_ | refine iF fun _ _ => ?_ | intro _ | exact sE | exact bE | exact trivial | exact rfl | assumption)
  exact sB (idx_any g s.n)

def e_containsI : WEnv Tryd.prog lay := ⟨{ tab := tab0 }, good, rfl, (tab0_ok _), (et0_ok _)⟩
theorem containsI (s : Sl Int) (f nc : Nat) (first caps : Nat → AV) (hi : immAV (.fn (.func f) 0 first nc caps) = true) (hok : CallOk Tryd.prog f) (g : Nat → Bool)
    (hg : ∀ i, i < s.n → PCall Tryd.prog f (fnList 0 first ++ ([oneA i64E (s.at_ i)] ++ fnList nc caps)) (.cv (ibool (g i)))) : PCall Tryd.prog 44 [.one (.imm (slI i64E s)), .one (.fn (.func f) 0 first nc caps)] (.cv (ibool (anyB g s.n))) := by
  refine pwalk e_containsI Tryd.func44 rfl 9 rfl rfl ?_
  repeat' (first | refine And.intro ?_ ?_ | refine iT fun _ _ => ?_ | refine iF fun _ _ => ?_ | intro _ | exact sE | exact bE | exact trivial | exact rfl | assumption)
  refine ⟨AL_pcallv rfl rfl rfl ?_ rfl ?_ (indexI s f nc first caps hi hok g hg) rfl rfl (AL_part good tab0 (tab0_ok _) et0 (et0_ok _) [] rfl rfl ?_ (AL_nil ?_))⟩
  · repeat' (first | refine And.intro ?_ ?_ | refine iT fun _ _ => ?_ | refine iF fun _ _ => ?_ | intro _ | exact sE | exact bE | exact trivial | exact rfl | assumption)
  · show (immCV (.one (.imm (slI i64E s))) && ([CV.one (AV.fn (.func f) 0 first nc caps)].all immCV)) = true
    simp only [List.all_cons, List.all_nil, Bool.and_true]
    exact hi
  · repeat' (first | refine And.intro ?_ ?_ | refine iT fun _ _ => ?_ | refine iF fun _ _ => ?_ | intro _ | exact sE | exact bE | exact trivial | exact rfl | assumption)
  repeat' (first | refine And.intro ?_ ?_ | refine iT fun _ _ => ?_ | refine iF fun _ _ => ?_ | intro _ | exact sE | exact bE | exact trivial | exact rfl | assumption)
  exact sB (idx_any g s.n)

theorem containsBig (s : Sl Int) : PCall Tryd.prog 44 [.one (.imm (slI i64E s)), .one (fnV 45 [])] (.cv (ibool (anyB (fun i => bigB (s.at_ i)) s.n))) :=
  containsI s 45 0 (fun _ => avDef) (fun i => ([] : List AV).getD i avDef) rfl rfl _ fun i _ => right1 (s.at_ i)
def t1 : Tab := tabF0 44 45 (codSl i64E) (fun s => .cv (ibool (anyB (fun i => bigB (s.at_ i)) s.n))) (fun _ => True) (tabC1 24 plA (fun p => .cv (ibool (beginsB p))) (fun _ => True) tab0)
theorem t1_ok : TabOk Tryd.prog t1 := tabF0_ok rfl (fun s _ => containsBig s) (tabC1_ok rfl (fun p _ => begins p) (tab0_ok _))

/-- The kinds' words and how many numbers each has. -/
def isK (k : Int) : Bool := decide (1 ≤ k) && decide (k ≤ 7)
def wordK (k : Int) : ByteArray := bif k == 1 then ⟨#[99, 97, 108, 108]⟩ else bif k == 2 then ⟨#[112, 105, 99, 107]⟩ else bif k == 3 then ⟨#[111, 112, 101, 110]⟩ else bif k == 4 then ⟨#[115, 104, 117, 116]⟩ else bif k == 5 then ⟨#[114, 97, 110, 103, 101]⟩ else bif k == 6 then ⟨#[110, 101, 120, 116]⟩ else bif k == 7 then ⟨#[114, 101, 97, 100]⟩ else ⟨#[]⟩
def numsK (k : Int) : Int := bif k == 1 then 5 else bif k == 2 then 2 else bif k == 3 then 0 else bif k == 4 then 1 else bif k == 5 then 3 else bif k == 6 then 1 else bif k == 7 then 5 else 0
def shDom : List Int → Bool
  | [k] => isK k
  | _ => false
def shVal : List Int → Nat → IV
  | [k] => lI [.val (.string (wordK k)), .val (.int .i64 (numsK k))]
  | _ => fun _ => ivDef
def shM : IV := .mp false [.i64] true 2 shDom shVal

def e_shapes : WEnv Tryd.prog lay := ⟨{ tab := tab0 }, good, rfl, (tab0_ok _), (et0_ok _)⟩
theorem shapes : PCall Tryd.prog 20 [] (.cv (.one (.imm shM))) := by
  refine pwalk e_shapes Tryd.func20 rfl 10 rfl rfl ?_
  repeat' (first | refine And.intro ?_ ?_ | refine iT fun _ _ => ?_ | refine iF fun _ _ => ?_ | intro _ | exact sE | exact bE | exact trivial | exact rfl | assumption)
  refine sM (ILe.mp (fun ks => ?_) fun ks j hk hj => ?_)
  · match ks with
    | [] => rfl
    | [k] =>
      rw [Bool.eq_iff_iff]
      simp only [eqI, Bool.and_true, Bool.or_eq_true, beq_iff_eq, shDom, isK, Bool.and_eq_true, decide_eq_true_eq, Bool.false_eq_true, or_false]
      omega
    | a :: b :: l => simp [eqI, shDom]
  · match ks with
    | [] => cases hk
    | [k] =>
      have hk : ∃ q : Fin 7, k = q + 1 := by
        simp only [eqI, Bool.and_true, Bool.or_eq_true, beq_iff_eq, Bool.false_eq_true, or_false] at hk
        refine ⟨⟨(k - 1).toNat, by omega⟩, ?_⟩
        simp only
        omega
      obtain ⟨q, rfl⟩ := hk
      match j, hj with
      | 0, _ => exact ILe.of_eq (by match q with | 0 | 1 | 2 | 3 | 4 | 5 | 6 => rfl)
      | 1, _ => exact ILe.of_eq (by match q with | 0 | 1 | 2 | 3 | 4 | 5 | 6 => rfl)
    | a :: b :: l => simp [eqI] at hk

def t2 : Tab := tabC0 20 (.cv (.one (.imm shM))) True t1
theorem t2_ok : TabOk Tryd.prog t2 := tabC0_ok rfl (fun _ => shapes) t1_ok
def rightB (d : Dd) : Bool := bif (bif isK d.kind then (d.nums.n : Int) == (bif isK d.kind then numsK d.kind else 0) else false) then !anyB (fun i => bigB (d.nums.at_ i)) d.nums.n else false
def e_right : WEnv Tryd.prog lay := ⟨{ tab := t2, cb := fun i => bif Nat.beq i 1 then some ([0, 0, 2, 7, 15, 31, 31, 0, 191, 511], [false, false, false, false, false, false, false, true, true, false]) else none }, good, rfl, t2_ok, (et0_ok _)⟩
theorem right (d : Dd) : PCall Tryd.prog 27 [ddC d] (.cv (ibool (rightB d))) := by
  refine pwalk e_right Tryd.func27 rfl 27 rfl rfl ?_
  repeat' (first | refine And.intro ?_ ?_ | refine iT fun _ _ => ?_ | refine iF fun _ _ => ?_ | intro _ | exact sE | exact bE | exact trivial | exact rfl | assumption | exact slOk_lit | exact slOk_f | exact slOk_nil)

def t3 : Tab := tabC1 27 ddA (fun d => .cv (ibool (rightB d))) (fun _ => True) t2
theorem t3_ok : TabOk Tryd.prog t3 := tabC1_ok rfl (fun d _ => right d) t2_ok
def e_Right1 : WEnv Tryd.prog lay := ⟨{ tab := t3 }, good, rfl, t3_ok, (et0_ok _)⟩
theorem Right1 (d : Dd) : PCall Tryd.prog 26 [ddC d] (.cv (ibool (!rightB d))) := by
  refine pwalk e_Right1 Tryd.func26 rfl 6 rfl rfl ?_
  repeat' (first | refine And.intro ?_ ?_ | refine iT fun _ _ => ?_ | refine iF fun _ _ => ?_ | intro _ | exact sE | exact bE | exact trivial | exact rfl | assumption | exact slOk_lit | exact slOk_f | exact slOk_nil)

theorem containsBad (s : Sl Dd) : PCall Tryd.prog 25 [.one (.imm (slI ddE s)), .one (fnV 26 [])] (.cv (ibool (anyB (fun i => !rightB (s.at_ i)) s.n))) :=
  containsDd s 26 0 (fun _ => avDef) (fun i => ([] : List AV).getD i avDef) rfl rfl _ fun i _ => Right1 (s.at_ i)
def t4 : Tab := tabF0 25 26 (codSl ddE) (fun s => .cv (ibool (anyB (fun i => !rightB (s.at_ i)) s.n))) (fun _ => True) t3
theorem t4_ok : TabOk Tryd.prog t4 := tabF0_ok rfl (fun s _ => containsBad s) t3_ok
def RightB (p : Pl) : Bool := bif (bif beginsB p then decide ((p.deeds.n : Int) ≤ 200) else false) then !anyB (fun i => !rightB (p.deeds.at_ i)) p.deeds.n else false
def e_RightP : WEnv Tryd.prog lay := ⟨{ tab := t4 }, good, rfl, t4_ok, (et0_ok _)⟩
theorem RightP (p : Pl) : PCall Tryd.prog 12 [plC p] (.cv (ibool (RightB p))) := by
  refine pwalk e_RightP Tryd.func12 rfl 17 rfl rfl ?_
  repeat' (first | refine And.intro ?_ ?_ | refine iT fun _ _ => ?_ | refine iF fun _ _ => ?_ | intro _ | exact sE | exact bE | exact trivial | exact rfl | assumption | exact slOk_lit | exact slOk_f | exact slOk_nil)

end Go.Proofs.YtmpddomgiplnmaaDoor.Abs
