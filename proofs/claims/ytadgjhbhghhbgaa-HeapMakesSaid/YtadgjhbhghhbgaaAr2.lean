/-
  THE CONTRACTS OF PACKAGE arena: well, Get, Right.
-/
import Derived.Test.YtadgjhbhghhbgaaAr1
namespace Go.Proofs.Ytadgjhbhghhbgaa.Abs
open Go
set_option maxRecDepth 10000

def kids (x : Nd) : List Int := [x.k0, x.k1, x.k2, x.k3, x.k4, x.k5, x.k6, x.k7, x.k8]
def kidS (x : Nd) : Sl Int := ⟨9, fun i => (kids x).getD i 0⟩

theorem well1 (r : Int) : PCall Try.prog 103 [u64 r] (.cv (ibool (!refOk r))) := by
  refine PCall_of (ACall_body good Try.func103 rfl 6 rfl (by simp) ?_)
  refine AW_seq ?_
  refine AW_all good ta4 (ta4_ok) rfl rfl ?_ ?_
  · repeat' (first | exact trivial | exact rfl | exact (fun _ _ => rfl) | refine And.intro ?_ ?_ | intro _)
  refine AW_seq ?_
  refine AW_all good ta4 (ta4_ok) rfl rfl ?_ ?_
  · repeat' (first | exact trivial | exact rfl | exact (fun _ _ => rfl) | refine And.intro ?_ ?_ | intro _)
  refine AW_ret (bodyQ_ret rfl ?_ (Ends.le rfl ?_ ?_))
  · repeat' (first | exact trivial | exact rfl | exact (fun _ _ => rfl) | refine And.intro ?_ ?_ | intro _)
  · repeat' (first | exact trivial | exact rfl | exact (fun _ _ => rfl) | refine And.intro ?_ ?_ | intro _)
  exact SLe.of_eq rfl

theorem indexRef (s : Sl Int) (f nc : Nat) (first caps : Nat → AV) (hi : immAV (.fn (.func f) 0 first nc caps) = true) (hok : CallOk Try.prog f) (g : Nat → Bool)
    (hg : ∀ i, i < s.n → PCall Try.prog f (fnList 0 first ++ ([oneA (refE) (s.at_ i)] ++ fnList nc caps)) (.cv (ibool (g i)))) : PCall Try.prog 111 [.one (.imm (slI (refE) s)), .one (.fn (.func f) 0 first nc caps)] (.cv (iint (idxOf g s.n))) := by
  refine PCall_of (ACall_body good Try.func111 rfl 19 rfl (by simp) ?_)
  refine AW_lenle 0 rfl (fun hm => ?_)
  refine AW_seq ?_
  refine AW_all good tab0 (tab0_ok _) rfl rfl ?_ ?_
  · repeat' (first | exact trivial | exact rfl | exact (fun _ _ => rfl) | refine And.intro ?_ ?_ | intro _)
  refine AW_seq ?_
  refine AW_seq ?_
  refine AW_all good tab0 (tab0_ok _) rfl rfl ?_ ?_
  · repeat' (first | exact trivial | exact rfl | exact (fun _ _ => rfl) | refine And.intro ?_ ?_ | intro _)
  refine AW_block ?_
  refine AW_loopX [0, 1, 7] [] (fun j : { i : Nat // i ≤ s.n ∧ ∀ k, k < i → g k = false } => [(8, .cv (iint j.1))]) (fun j => []) (fun j => s.n - j.1) ⟨0, Nat.zero_le _, fun k hk => absurd hk (Nat.not_lt_zero k)⟩ ⟨SLe.of_eq rfl, trivial⟩ trivial ?_
  rintro ⟨i, hin, hb⟩
  dsimp only
  refine AW_seq ?_
  refine AW_all good tab0 (tab0_ok _) rfl rfl ?_ ?_
  · repeat' (first | exact trivial | exact rfl | exact (fun _ _ => rfl) | refine And.intro ?_ ?_ | intro _)
  refine AW_seq ?_
  refine AW_cond rfl (fun h1 => ?_) (fun h1 => ?_)
  · first
    | (exfalso; simp_all; done)
    | (
        refine AW_skip ?_
        refine AW_seq ?_
        refine AW_block ?_
        refine AW_seq ?_
        refine AW_all good tab0 (tab0_ok _) rfl rfl ?_ ?_
        · repeat' (first | exact trivial | exact rfl | exact (fun _ _ => rfl) | refine And.intro ?_ ?_ | intro _)
        refine AW_seq ?_
        have hlt : i < s.n := by simpa using h1
        refine AW_part good tab0 (tab0_ok _) et0 (et0_ok _) [] rfl rfl ?_ ?_
        · repeat' (first | exact trivial | exact rfl | exact (fun _ _ => rfl) | refine And.intro ?_ ?_ | intro _)
          all_goals omega
        refine AL_pcallv rfl rfl rfl ?_ hok ?_ (hg i hlt) rfl rfl (AL_nil ?_)
        rotate_left
        · exact imm_clos1 _ _ _ _ rfl hi
        rotate_left
        · repeat' (first | exact trivial | exact rfl | exact (fun _ _ => rfl) | refine And.intro ?_ ?_ | intro _)
        refine AW_cond rfl (fun h2 => ?_) (fun h2 => ?_)
        · first
          | (exfalso; simp_all; done)
          | (
              refine AW_seq ?_
              refine AW_all good tab0 (tab0_ok _) rfl rfl ?_ ?_
              · repeat' (first | exact trivial | exact rfl | exact (fun _ _ => rfl) | refine And.intro ?_ ?_ | intro _)
              refine AW_ret (bodyQ_ret rfl ?_ (Ends.le rfl ?_ ?_))
              · repeat' (first | exact trivial | exact rfl | exact (fun _ _ => rfl) | refine And.intro ?_ ?_ | intro _)
              · repeat' (first | exact trivial | exact rfl | exact (fun _ _ => rfl) | refine And.intro ?_ ?_ | intro _)
              have hlt : i < s.n := by simpa using h1
              exact SLe.of_eq (congrArg (fun z => SV.cv (iint z)) (idx_found hlt h2 hb).symm)
          )
        · first
          | (exfalso; simp_all; done)
          | (
              refine AW_skip ?_
              refine AW_all good tab0 (tab0_ok _) rfl rfl ?_ ?_
              · repeat' (first | exact trivial | exact rfl | exact (fun _ _ => rfl) | refine And.intro ?_ ?_ | intro _)
              have hlt : i < s.n := by simpa using h1
              refine loopX_next ⟨i + 1, hlt, fun k hk => ?_⟩ [] rfl rfl ⟨SLe.of_eq (congrArg (fun z => SV.cv (iint z)) (next_int i s.n hlt hm)), trivial⟩ ⟨SLe.of_eq rfl, imm_ren hi, SLe.of_eq rfl, trivial⟩ trivial trivial ?_
              · rcases Nat.lt_succ_iff_lt_or_eq.1 hk with h | h
                · exact hb k h
                · rw [h]; exact h2
              · show s.n - (i + 1) < s.n - i
                omega
          )
    )
  · first
    | (exfalso; simp_all; done)
    | (
        refine AW_exit ?_
        refine AW_seq ?_
        refine AW_all good tab0 (tab0_ok _) rfl rfl ?_ ?_
        · repeat' (first | exact trivial | exact rfl | exact (fun _ _ => rfl) | refine And.intro ?_ ?_ | intro _)
        refine AW_ret (bodyQ_ret rfl ?_ (Ends.le rfl ?_ ?_))
        · repeat' (first | exact trivial | exact rfl | exact (fun _ _ => rfl) | refine And.intro ?_ ?_ | intro _)
        · repeat' (first | exact trivial | exact rfl | exact (fun _ _ => rfl) | refine And.intro ?_ ?_ | intro _)
        have he : i = s.n := by
          have : ¬ i < s.n := by simpa using h1
          omega
        subst he
        exact SLe.of_eq (congrArg (fun z => SV.cv (iint z)) (idx_none hb).symm)
    )

theorem containsRef (s : Sl Int) (f nc : Nat) (first caps : Nat → AV) (hi : immAV (.fn (.func f) 0 first nc caps) = true) (hok : CallOk Try.prog f) (g : Nat → Bool)
    (hg : ∀ i, i < s.n → PCall Try.prog f (fnList 0 first ++ ([oneA (refE) (s.at_ i)] ++ fnList nc caps)) (.cv (ibool (g i)))) : PCall Try.prog 102 [.one (.imm (slI (refE) s)), .one (.fn (.func f) 0 first nc caps)] (.cv (ibool (anyB g s.n))) := by
  refine PCall_of (ACall_body good Try.func102 rfl 9 rfl (by simp) ?_)
  refine AW_seq ?_
  refine AW_all good tab0 (tab0_ok _) rfl rfl ?_ ?_
  · repeat' (first | exact trivial | exact rfl | exact (fun _ _ => rfl) | refine And.intro ?_ ?_ | intro _)
  refine AW_seq ?_
  refine AW_part good tab0 (tab0_ok _) et0 (et0_ok _) [] rfl rfl ?_ ?_
  · repeat' (first | exact trivial | exact rfl | exact (fun _ _ => rfl) | refine And.intro ?_ ?_ | intro _)
  refine AL_pcallv rfl rfl rfl ?_ rfl ?_ (indexRef s f nc first caps hi hok g hg) rfl rfl (AL_part good tab0 (tab0_ok _) et0 (et0_ok _) [] rfl rfl ?_ (AL_nil ?_))
  · repeat' (first | exact trivial | exact rfl | exact (fun _ _ => rfl) | refine And.intro ?_ ?_ | intro _)
  · show (immCV (.one (.imm (slI (refE) s))) && ([CV.one (AV.fn (.func f) 0 first nc caps)].all immCV)) = true
    simp only [List.all_cons, List.all_nil, Bool.and_true]
    exact hi
  · repeat' (first | exact trivial | exact rfl | exact (fun _ _ => rfl) | refine And.intro ?_ ?_ | intro _)
  refine AW_ret (bodyQ_ret rfl ?_ (Ends.le rfl ?_ ?_))
  · repeat' (first | exact trivial | exact rfl | exact (fun _ _ => rfl) | refine And.intro ?_ ?_ | intro _)
  · repeat' (first | exact trivial | exact rfl | exact (fun _ _ => rfl) | refine And.intro ?_ ?_ | intro _)
  exact SLe.of_eq (ret_bool (idx_any g s.n))

theorem containsWell (s : Sl Int) : PCall Try.prog 102 [.one (.imm (slI refE s)), .one (fnV 103 [])] (.cv (ibool (anyB (fun i => !refOk (s.at_ i)) s.n))) :=
  containsRef s 103 0 (fun _ => avDef) (fun i => ([] : List AV).getD i avDef) rfl rfl _ fun i _ => well1 (s.at_ i)
def ta5 : Tab := tabF0 102 103 (codSl refE) (fun s => .cv (ibool (anyB (fun i => !refOk (s.at_ i)) s.n))) (fun _ => True) ta4
theorem ta5_ok : TabOk Try.prog ta5 := tabF0_ok rfl (fun s _ => containsWell s) ta4_ok

def wellBad (x : Nd) : Bool := bif (bif (bif (bif (bif decide (x.gen < 0) then true else decide (x.gen > 1048576)) then true else decide (x.pre < 0)) then true else decide (x.pre > 9)) then true else decide (x.suf < 0)) then true else decide (x.suf > 9)
def wellB (x : Nd) : Bool := bif wellBad x then false else !anyB (fun i => !refOk ((kidS x).at_ i)) 9
theorem kid_ok (x : Nd) : slOk refE (.sl 1 9 true fun i j => lI (ndL x) (5 + ((0 + i) * 1 + j))) := .inr ⟨rfl, fun i hi => by
  match i, hi with
  | 0, _ => rfl
  | 1, _ => rfl
  | 2, _ => rfl
  | 3, _ => rfl
  | 4, _ => rfl
  | 5, _ => rfl
  | 6, _ => rfl
  | 7, _ => rfl
  | 8, _ => rfl
  | q + 9, h => exact absurd h (by omega)⟩
theorem kid_any (x : Nd) : anyB (fun i => !refOk ((slG refE (.sl 1 9 true fun i j => lI (ndL x) (5 + ((0 + i) * 1 + j)))).at_ i)) 9 = anyB (fun i => !refOk ((kidS x).at_ i)) 9 := anyB_congr fun i hi => by
  match i, hi with
  | 0, _ => rfl
  | 1, _ => rfl
  | 2, _ => rfl
  | 3, _ => rfl
  | 4, _ => rfl
  | 5, _ => rfl
  | 6, _ => rfl
  | 7, _ => rfl
  | 8, _ => rfl
  | q + 9, h => exact absurd h (by omega)

theorem well (x : Nd) : PCall Try.prog 81 [ndC x] (.cv (ibool (wellB x))) := by
  refine PCall_of (ACall_body good Try.func81 rfl 35 rfl (by simp) ?_)
  refine AW_seq ?_
  refine AW_eff good ta5 (ta5_ok) et0 (et0_ok _) [0] rfl rfl ?_ ?_
  · repeat' (first | exact trivial | exact rfl | exact (fun _ _ => rfl) | refine And.intro ?_ ?_ | intro _)
  refine AW_seq ?_
  refine AW_seq ?_
  refine AW_all good ta5 (ta5_ok) rfl rfl ?_ ?_
  · repeat' (first | exact trivial | exact rfl | exact (fun _ _ => rfl) | refine And.intro ?_ ?_ | intro _)
    all_goals (first | assumption | (rename_i hg; exact eqf hg))
  refine AW_cond rfl (fun h1 => ?_) (fun h1 => ?_)
  · first
    | (exfalso; simp_all; done)
    | (
        refine AW_seq ?_
        refine AW_all good ta5 (ta5_ok) rfl rfl ?_ ?_
        · repeat' (first | exact trivial | exact rfl | exact (fun _ _ => rfl) | refine And.intro ?_ ?_ | intro _)
        refine AW_ret (bodyQ_ret rfl ?_ (Ends.le rfl ?_ ?_))
        · repeat' (first | exact trivial | exact rfl | exact (fun _ _ => rfl) | refine And.intro ?_ ?_ | intro _)
        · repeat' (first | exact trivial | exact rfl | exact (fun _ _ => rfl) | refine And.intro ?_ ?_ | intro _)
        have h : wellBad x = true := h1
        unfold wellB
        rw [h]
        exact SLe.of_eq rfl
    )
  · first
    | (exfalso; simp_all; done)
    | (
        refine AW_skip ?_
        refine AW_seq ?_
        refine AW_all good ta5 (ta5_ok) rfl rfl ?_ ?_
        · repeat' (first | exact trivial | exact rfl | exact (fun _ _ => rfl) | refine And.intro ?_ ?_ | intro _)
          all_goals (first | exact kid_ok x | omega)
        refine AW_ret (bodyQ_ret rfl ?_ (Ends.le rfl ?_ ?_))
        · repeat' (first | exact trivial | exact rfl | exact (fun _ _ => rfl) | refine And.intro ?_ ?_ | intro _)
        · repeat' (first | exact trivial | exact rfl | exact (fun _ _ => rfl) | refine And.intro ?_ ?_ | intro _)
        have h : wellBad x = false := h1
        unfold wellB
        rw [h]
        exact SLe.of_eq (congrArg (fun z => SV.cv (ibool (!z))) (kid_any x))
    )

def ta6 : Tab := tabC1 81 ndA (fun x => .cv (ibool (wellB x))) (fun _ => True) ta5
theorem ta6_ok : TabOk Try.prog ta6 := tabC1_ok rfl (fun x _ => well x) ta5_ok
/-- The node of a reference, if there is one. -/
def getBad (a : Ar) (r : Int) : Bool := bif (bif (bif decide (plOf r < 0) then true else decide (plOf r ≥ a.nodes.n)) then true else (a.nodes.at_ (plOf r).toNat).kind == 0) then true else ((a.nodes.at_ (plOf r).toNat).gen != gnOf r)
def getN (a : Ar) (r : Int) : Nd := bif getBad a r then nd0 else a.nodes.at_ (plOf r).toNat
def getE (a : Ar) (r : Int) : Int := bif getBad a r then 4 else 0
theorem get_lt {a : Ar} {r : Int} (h : (bif decide (plOf r < 0) then true else decide (plOf r ≥ a.nodes.n)) = false) : 0 ≤ plOf r ∧ plOf r < a.nodes.n := by
  obtain ⟨h1, h2⟩ := bor_f h
  have h1 := of_decide_eq_false h1
  have h2 := of_decide_eq_false h2
  omega

theorem arenaGet (a : Ar) (r : Int) : PCall Try.prog 62 [arC a, u64 r] (.tup [ndC (getN a r), iint (getE a r)]) := by
  refine PCall_of (ACall_body good Try.func62 rfl 44 rfl (by simp) ?_)
  refine AW_seq ?_
  refine AW_all good ta6 (ta6_ok) rfl rfl ?_ ?_
  · repeat' (first | exact trivial | exact rfl | exact (fun _ _ => rfl) | refine And.intro ?_ ?_ | intro _)
  refine AW_seq ?_
  refine AW_all good ta6 (ta6_ok) rfl rfl ?_ ?_
  · repeat' (first | exact trivial | exact rfl | exact (fun _ _ => rfl) | refine And.intro ?_ ?_ | intro _)
  refine AW_seq ?_
  refine AW_seq ?_
  refine AW_drwG good rfl ta6 (ta6_ok) et0 (et0_ok _) [] [0, 1, 3, 7, 7, 23, 55, 127, 255, 511, 1023, 2047, 1023, 8191, 16383, 32767, 65535, 131071, 262143, 524287, 1048575, 524287, 4194303, 8388607, 16777215, 524287, 34078719, 134217727, 268435455] [false, false, false, false, false, false, false, false, false, false, false, false, false, false, false, false, false, false, false, false, false, false, false, false, false, false, false, false, false] (by rfl) (by rfl) rfl (by rfl) (by rfl) ?_ ?_ ?_
  · repeat' (first | exact trivial | exact rfl | exact (fun _ _ => rfl) | refine And.intro ?_ ?_ | intro _)
    all_goals (first | (rename_i hg; exact (get_lt (beq_ff hg)).1) | (rename_i hg; exact (get_lt (beq_ff hg)).2) | (rename_i hg; exact (get_lt (beq_ff (nbor hg))).1) | (rename_i hg; exact (get_lt (beq_ff (nbor hg))).2) | assumption | (rename_i hg; exact eqf hg))
  · repeat' (first | refine And.intro ?_ ?_ | exact trivial | exact rfl | intro _)
    all_goals assumption
  refine AW_cond rfl (fun h1 => ?_) (fun h1 => ?_)
  · first
    | (exfalso; simp_all; done)
    | (
        refine AW_seq ?_
        refine AW_all good ta6 (ta6_ok) rfl rfl ?_ ?_
        · repeat' (first | exact trivial | exact rfl | exact (fun _ _ => rfl) | refine And.intro ?_ ?_ | intro _)
        refine AW_ret (bodyQ_ret rfl ?_ (Ends.le rfl ?_ ?_))
        · repeat' (first | exact trivial | exact rfl | exact (fun _ _ => rfl) | refine And.intro ?_ ?_ | intro _)
        · repeat' (first | exact trivial | exact rfl | exact (fun _ _ => rfl) | refine And.intro ?_ ?_ | intro _)
        have h : getBad a r = true := h1
        unfold getN getE
        rw [h]
        exact SLe.of_eq rfl
    )
  · first
    | (exfalso; simp_all; done)
    | (
        refine AW_skip ?_
        refine AW_seq ?_
        have hl := get_lt (bor_f (bor_f h1).1).1
        have hl1 := hl.1
        have hl2 := hl.2
        refine AW_all good ta6 (ta6_ok) rfl rfl ?_ ?_
        · repeat' (first | exact trivial | exact rfl | exact (fun _ _ => rfl) | refine And.intro ?_ ?_ | intro _)
          all_goals omega
        refine AW_ret (bodyQ_ret rfl ?_ (Ends.le rfl ?_ ?_))
        · repeat' (first | exact trivial | exact rfl | exact (fun _ _ => rfl) | refine And.intro ?_ ?_ | intro _)
        · repeat' (first | exact trivial | exact rfl | exact (fun _ _ => rfl) | refine And.intro ?_ ?_ | intro _)
        have h : getBad a r = false := h1
        unfold getN getE
        rw [h]
        exact SLe.of_eq rfl
    )

def ta7 : Tab := tabC2 62 arA rI (fun a r => .tup [ndC (getN a r), iint (getE a r)]) (fun _ _ => True) ta6
theorem ta7_ok : TabOk Try.prog ta7 := tabC2_ok rfl (fun a r _ => arenaGet a r) ta6_ok

/-- Is a place among the first i free ones? -/
def frd (a : Ar) (i q : Nat) : Bool := anyB (fun k => a.free.at_ k == (q : Int)) i
def bad1 (a : Ar) (i : Nat) : Bool := bif (bif decide (a.free.at_ i < 0) then true else decide (a.free.at_ i ≥ a.nodes.n)) then true else frd a i (a.free.at_ i).toNat
def bare (x : Nd) (g : Int) : Bool := (x.kind == 0 && (x.gen == g && (x.n == 0 && (x.v == 0 && (x.s == 0 && ((x.k0 == 0 && (x.k1 == 0 && (x.k2 == 0 && (x.k3 == 0 && (x.k4 == 0 && (x.k5 == 0 && (x.k6 == 0 && (x.k7 == 0 && (x.k8 == 0 && true))))))))) && (x.pre == 0 && (x.suf == 0 && true))))))))
def bad2 (a : Ar) (i : Nat) : Bool := bif (bif !wellB (a.nodes.at_ i) then true else (((a.nodes.at_ i).kind == 0) != frd a a.free.n i)) then true else (bif frd a a.free.n i then !bare (a.nodes.at_ i) (a.nodes.at_ i).gen else false)
def shapeBad (a : Ar) : Bool := bif (bif decide ((a.nodes.n : Int) < 1) then true else decide ((a.nodes.n : Int) > 512)) then true else decide ((a.free.n : Int) > a.nodes.n)
def rightB (a : Ar) : Bool := bif shapeBad a then false else bif anyB (bad1 a) a.free.n then false else !anyB (bad2 a) a.nodes.n
theorem shape_facts {a : Ar} (h : shapeBad a = false) : 1 ≤ a.nodes.n ∧ a.nodes.n ≤ 512 ∧ a.free.n ≤ a.nodes.n := by
  obtain ⟨h1, h2⟩ := bor_f h
  obtain ⟨h1, h3⟩ := bor_f h1
  have h1 := of_decide_eq_false h1
  have h2 := of_decide_eq_false h2
  have h3 := of_decide_eq_false h3
  omega
theorem frd_succ (a : Ar) (i q : Nat) : frd a (i + 1) q = (frd a i q || (a.free.at_ i == (q : Int))) := by
  unfold frd anyB
  rw [List.range_succ, List.any_append]
  simp
theorem anyB_hit {g : Nat → Bool} {n i : Nat} (hi : i < n) (h : g i = true) : anyB g n = true := anyB_true.2 ⟨i, hi, h⟩
theorem anyB_all {g : Nat → Bool} {n : Nat} (h : ∀ i, i < n → g i = false) : anyB g n = false := anyB_false.2 h

theorem fr_lt {a : Ar} {i : Nat} (h : (bif decide (a.free.at_ i < 0) then true else decide (a.free.at_ i ≥ a.nodes.n)) = false) : 0 ≤ a.free.at_ i ∧ a.free.at_ i < a.nodes.n := by
  obtain ⟨h1, h2⟩ := bor_f h
  have h1 := of_decide_eq_false h1
  have h2 := of_decide_eq_false h2
  omega

set_option maxHeartbeats 1000000 in
theorem arenaRight (a : Ar) : PCall Try.prog 70 [arC a] (.cv (ibool (rightB a))) := by
  refine PCall_of (ACall_body good Try.func70 rfl 91 rfl (by simp) ?_)
  refine AW_seq ?_
  refine AW_all good ta7 (ta7_ok) rfl rfl ?_ ?_
  · repeat' (first | exact trivial | exact rfl | exact (fun _ _ => rfl) | refine And.intro ?_ ?_ | intro _)
  refine AW_seq ?_
  refine AW_seq ?_
  refine AW_all good ta7 (ta7_ok) rfl rfl ?_ ?_
  · repeat' (first | exact trivial | exact rfl | exact (fun _ _ => rfl) | refine And.intro ?_ ?_ | intro _)
    all_goals (first | assumption | (rename_i hg; exact eqf hg))
  refine AW_cond rfl (fun h1 => ?_) (fun h1 => ?_)
  · first
    | (exfalso; simp_all; done)
    | (
        refine AW_seq ?_
        refine AW_all good ta7 (ta7_ok) rfl rfl ?_ ?_
        · repeat' (first | exact trivial | exact rfl | exact (fun _ _ => rfl) | refine And.intro ?_ ?_ | intro _)
        refine AW_ret (bodyQ_ret rfl ?_ (Ends.le rfl ?_ ?_))
        · repeat' (first | exact trivial | exact rfl | exact (fun _ _ => rfl) | refine And.intro ?_ ?_ | intro _)
        · repeat' (first | exact trivial | exact rfl | exact (fun _ _ => rfl) | refine And.intro ?_ ?_ | intro _)
        have h : shapeBad a = true := h1
        unfold rightB
        rw [h]
        exact SLe.of_eq rfl
    )
  · first
    | (exfalso; simp_all; done)
    | (
        refine AW_skip ?_
        refine AW_seq ?_
        have hsh : shapeBad a = false := h1
        obtain ⟨hs1, hs2, hs3⟩ := shape_facts hsh
        refine AW_all good ta7 (ta7_ok) rfl rfl ?_ ?_
        · repeat' (first | exact trivial | exact rfl | exact (fun _ _ => rfl) | refine And.intro ?_ ?_ | intro _)
          all_goals (first | omega | exact bytes_okI (by omega) (by omega) (by decide))
        refine AW_seq ?_
        refine AW_seq ?_
        refine AW_all good ta7 (ta7_ok) rfl rfl ?_ ?_
        · repeat' (first | exact trivial | exact rfl | exact (fun _ _ => rfl) | refine And.intro ?_ ?_ | intro _)
        refine AW_block ?_
        refine AW_loopX [1, 3, 32, 33] [0] (fun j : { i : Nat // i ≤ a.free.n ∧ ∀ k, k < i → bad1 a k = false } => [(34, .cv (iint j.1))]) (fun j => [(1, .rows 4 1 a.nodes.n fun q _ => .val (.bool (frd a j.1 q)))]) (fun j => a.free.n - j.1) ⟨0, Nat.zero_le _, fun k hk => absurd hk (Nat.not_lt_zero k)⟩ ⟨SLe.of_eq rfl, trivial⟩ ⟨⟨_, rfl, BLe.rows (by omega) (fun i j _ hj => ILe.of_eq (by have hj : j < 1 := hj; obtain rfl : j = 0 := (by omega); rfl))⟩, trivial⟩ ?_
        rintro ⟨i, hi, hb⟩
        dsimp only at hi hb ⊢
        refine AW_seq ?_
        refine AW_all good ta7 (ta7_ok) rfl rfl ?_ ?_
        · repeat' (first | exact trivial | exact rfl | exact (fun _ _ => rfl) | refine And.intro ?_ ?_ | intro _)
        refine AW_seq ?_
        refine AW_cond rfl (fun h2 => ?_) (fun h2 => ?_)
        · first
          | (exfalso; simp_all; done)
          | (
              refine AW_skip ?_
              refine AW_seq ?_
              refine AW_block ?_
              refine AW_seq ?_
              have hlt : i < a.free.n := by simpa using h2
              refine AW_all good ta7 (ta7_ok) rfl rfl ?_ ?_
              · repeat' (first | exact trivial | exact rfl | exact (fun _ _ => rfl) | refine And.intro ?_ ?_ | intro _)
                all_goals omega
              refine AW_seq ?_
              refine AW_seq ?_
              refine AW_all good ta7 (ta7_ok) rfl rfl ?_ ?_
              · repeat' (first | exact trivial | exact rfl | exact (fun _ _ => rfl) | refine And.intro ?_ ?_ | intro _)
                all_goals (first | (rename_i hg; have hq := fr_lt (beq_ff hg); omega) | assumption | (rename_i hg; exact eqf hg) | (simp only [Int.toNat_natCast, plusN_0] at *; (first | (rename_i hg; have hq := fr_lt (beq_ff hg); omega) | omega | (unfold maxLen; omega) | exact bytes_ok (by omega) (by decide) | exact bytes_okI (by omega) (by omega) (by decide) | exact of_decide_eq_true (by assumption) | decide | exact slOk_lit | exact slOk_f | exact slOk_nil | assumption | exact .inl rfl | exact .inr rfl | (rename_i hg; exact hg) | (rename_i hg; exact eqf hg) | (rename_i hg; exact eqt hg) | (rename_i hg; change (_ : Bool) = true; rw [hg]; rfl) | (change (_ : Bool) = true; simp_all; done))))
              refine AW_cond rfl (fun h3 => ?_) (fun h3 => ?_)
              · first
                | (exfalso; simp_all; done)
                | (
                    refine AW_seq ?_
                    refine AW_all good ta7 (ta7_ok) rfl rfl ?_ ?_
                    · repeat' (first | exact trivial | exact rfl | exact (fun _ _ => rfl) | refine And.intro ?_ ?_ | intro _)
                    refine AW_ret (bodyQ_ret rfl ?_ (Ends.le rfl ?_ ?_))
                    · repeat' (first | exact trivial | exact rfl | exact (fun _ _ => rfl) | refine And.intro ?_ ?_ | intro _)
                    · repeat' (first | exact trivial | exact rfl | exact (fun _ _ => rfl) | refine And.intro ?_ ?_ | intro _)
                    have h : bad1 a i = true := h3
                    unfold rightB
                    rw [hsh, anyB_hit hlt h]
                    exact SLe.of_eq rfl
                )
              · first
                | (exfalso; simp_all; done)
                | (
                    refine AW_skip ?_
                    have h3 : bad1 a i = false := h3
                    have hl := fr_lt (bor_f h3).1
                    have hl1 := hl.1
                    have hl2 := hl.2
                    refine AW_all good ta7 (ta7_ok) rfl rfl ?_ ?_
                    · repeat' (first | exact trivial | exact rfl | exact (fun _ _ => rfl) | refine And.intro ?_ ?_ | intro _)
                      all_goals (first | assumption | (simp only [Int.toNat_natCast, plusN_0] at *; (first | (rename_i hg; have hq := fr_lt (beq_ff hg); omega) | omega | (unfold maxLen; omega) | exact bytes_ok (by omega) (by decide) | exact bytes_okI (by omega) (by omega) (by decide) | exact of_decide_eq_true (by assumption) | decide | exact slOk_lit | exact slOk_f | exact slOk_nil | assumption | exact .inl rfl | exact .inr rfl | (rename_i hg; exact hg) | (rename_i hg; exact eqf hg) | (rename_i hg; exact eqt hg) | (rename_i hg; change (_ : Bool) = true; rw [hg]; rfl) | (change (_ : Bool) = true; simp_all; done))))
                    refine AW_all good ta7 (ta7_ok) rfl rfl ?_ ?_
                    · repeat' (first | exact trivial | exact rfl | exact (fun _ _ => rfl) | refine And.intro ?_ ?_ | intro _)
                    refine loopX_next ⟨i + 1, hlt, fun k hk => ?_⟩ [0, 1] rfl rfl ⟨SLe.of_eq (congrArg (fun z => SV.cv (iint z)) ?_), trivial⟩ ⟨SLe.of_eq rfl, SLe.of_eq rfl, SLe.of_eq rfl, SLe.of_eq rfl, trivial⟩ ⟨⟨rfl, _, rfl, BLe.rows rfl fun q j hq hj => ILe.of_eq ?_⟩, trivial⟩ ⟨⟨rfl, _, _, rfl, rfl, BLe.of_eq rfl⟩, trivial⟩ ?_
                    · rcases Nat.lt_succ_iff_lt_or_eq.1 hk with h | h
                      · exact hb k h
                      · rw [h]; exact h3
                    · show IntKind.i64.wrap ((i : Int) + 1) = ((i + 1 : Nat) : Int)
                      rw [IntKind.wrap_i64]
                      omega
                    · obtain rfl : j = 0 := by omega
                      show (bif Nat.beq q (a.free.at_ i).toNat && (Nat.ble 0 0 && Nat.blt 0 (0 + 1)) then [IV.val (.bool true)].getD (0 - 0) ivDef else IV.val (.bool (frd a i q))) = IV.val (.bool (frd a (i + 1) q))
                      rw [frd_succ]
                      by_cases he : q = (a.free.at_ i).toNat
                      · rw [he, Nat.beq_refl, show (a.free.at_ i == ((a.free.at_ i).toNat : Int)) = true from beq_iff_eq.2 (by omega), Bool.or_true]
                        rfl
                      · rw [beq_f he, show (a.free.at_ i == (q : Int)) = false from beq_eq_false_iff_ne.2 (by omega), Bool.or_false]
                        rfl
                    show a.free.n - (i + 1) < a.free.n - i
                    omega
                )
          )
        · first
          | (exfalso; simp_all; done)
          | (
              refine AW_exit ?_
              refine AW_seq ?_
              refine AW_seq ?_
              obtain rfl : i = a.free.n := by
                have : ¬ i < a.free.n := by simpa using h2
                omega
              refine AW_all good ta7 (ta7_ok) rfl rfl ?_ ?_
              · repeat' (first | exact trivial | exact rfl | exact (fun _ _ => rfl) | refine And.intro ?_ ?_ | intro _)
              refine AW_block ?_
              refine AW_loopX [3, 57, 58] [1] (fun j : { i : Nat // i ≤ a.nodes.n ∧ ∀ k, k < i → bad2 a k = false } => [(59, .cv (iint j.1))]) (fun j => []) (fun j => a.nodes.n - j.1) ⟨0, Nat.zero_le _, fun k hk => absurd hk (Nat.not_lt_zero k)⟩ ⟨SLe.of_eq rfl, trivial⟩ trivial ?_
              rintro ⟨k, hk, hc⟩
              dsimp only at hk hc ⊢
              refine AW_seq ?_
              refine AW_all good ta7 (ta7_ok) rfl rfl ?_ ?_
              · repeat' (first | exact trivial | exact rfl | exact (fun _ _ => rfl) | refine And.intro ?_ ?_ | intro _)
              refine AW_seq ?_
              refine AW_cond rfl (fun h4 => ?_) (fun h4 => ?_)
              · first
                | (exfalso; simp_all; done)
                | (
                    refine AW_skip ?_
                    refine AW_seq ?_
                    refine AW_block ?_
                    refine AW_seq ?_
                    have hlk : k < a.nodes.n := by simpa using h4
                    refine AW_all good ta7 (ta7_ok) rfl rfl ?_ ?_
                    · repeat' (first | exact trivial | exact rfl | exact (fun _ _ => rfl) | refine And.intro ?_ ?_ | intro _)
                      all_goals omega
                    refine AW_seq ?_
                    refine AW_drwG good rfl ta7 (ta7_ok) et0 (et0_ok _) [] [0, 1, 3, 7, 15, 31, 63, 15, 15, 399, 911, 2047, 4095, 8191, 16383, 16383, 65535, 131071, 262143, 524287, 524287, 1572863, 3670015, 8388607, 16777215, 33554431] [false, false, false, false, false, false, false, false, false, false, false, false, false, false, false, false, false, false, false, false, false, false, false, false, false, false] (by rfl) (by rfl) rfl (by rfl) (by rfl) ?_ ?_ ?_
                    · repeat' (first | exact trivial | exact rfl | exact (fun _ _ => rfl) | refine And.intro ?_ ?_ | intro _)
                      all_goals (first | omega | assumption | (rename_i hg; exact eqf hg) | (change (_ : Bool) = true; simp_all; done))
                    · repeat' (first | refine And.intro ?_ ?_ | exact trivial | exact rfl | intro _)
                      all_goals assumption
                    refine AW_cond rfl (fun h5 => ?_) (fun h5 => ?_)
                    · first
                      | (exfalso; simp_all; done)
                      | (
                          refine AW_seq ?_
                          refine AW_all good ta7 (ta7_ok) rfl rfl ?_ ?_
                          · repeat' (first | exact trivial | exact rfl | exact (fun _ _ => rfl) | refine And.intro ?_ ?_ | intro _)
                          refine AW_ret (bodyQ_ret rfl ?_ (Ends.le rfl ?_ ?_))
                          · repeat' (first | exact trivial | exact rfl | exact (fun _ _ => rfl) | refine And.intro ?_ ?_ | intro _)
                          · repeat' (first | exact trivial | exact rfl | exact (fun _ _ => rfl) | refine And.intro ?_ ?_ | intro _)
                          have h : bad2 a k = true := h5
                          unfold rightB
                          rw [hsh, anyB_all hb, anyB_hit hlk h]
                          exact SLe.of_eq rfl
                      )
                    · first
                      | (exfalso; simp_all; done)
                      | (
                          refine AW_skip ?_
                          refine AW_all good ta7 (ta7_ok) rfl rfl ?_ ?_
                          · repeat' (first | exact trivial | exact rfl | exact (fun _ _ => rfl) | refine And.intro ?_ ?_ | intro _)
                          refine loopX_next ⟨k + 1, hlk, fun q hq => ?_⟩ [0, 1] rfl rfl ⟨SLe.of_eq (congrArg (fun z => SV.cv (iint z)) ?_), trivial⟩ ⟨SLe.of_eq rfl, SLe.of_eq rfl, SLe.of_eq rfl, trivial⟩ trivial ⟨⟨rfl, _, _, rfl, rfl, BLe.of_eq rfl⟩, trivial⟩ ?_
                          · rcases Nat.lt_succ_iff_lt_or_eq.1 hq with h | h
                            · exact hc q h
                            · rw [h]; exact h5
                          · show IntKind.i64.wrap ((k : Int) + 1) = ((k + 1 : Nat) : Int)
                            rw [IntKind.wrap_i64]
                            omega
                          show a.nodes.n - (k + 1) < a.nodes.n - k
                          omega
                      )
                )
              · first
                | (exfalso; simp_all; done)
                | (
                    refine AW_exit ?_
                    refine AW_seq ?_
                    refine AW_all good ta7 (ta7_ok) rfl rfl ?_ ?_
                    · repeat' (first | exact trivial | exact rfl | exact (fun _ _ => rfl) | refine And.intro ?_ ?_ | intro _)
                    refine AW_ret (bodyQ_ret rfl ?_ (Ends.le rfl ?_ ?_))
                    · repeat' (first | exact trivial | exact rfl | exact (fun _ _ => rfl) | refine And.intro ?_ ?_ | intro _)
                    · repeat' (first | exact trivial | exact rfl | exact (fun _ _ => rfl) | refine And.intro ?_ ?_ | intro _)
                    have hkn : k = a.nodes.n := by
                      have : ¬ k < a.nodes.n := by simpa using h4
                      omega
                    subst hkn
                    unfold rightB
                    rw [hsh, anyB_all hb, anyB_all hc]
                    exact SLe.of_eq rfl
                )
          )
    )

end Go.Proofs.Ytadgjhbhghhbgaa.Abs
