/-
  THE CONTRACTS OF PACKAGE heap: order, item, get, make, meld.
-/
import Derived.Test.YtadgjhbhghhbgaaAr3
namespace Go.Proofs.Ytadgjhbhghhbgaa.Abs
open Go
set_option maxRecDepth 10000

def ta9 : Tab := tabC2 63 arA ndA (fun a x => .tup [arC (mkA a x), u64 (mkR a x), iint (mkE a x)]) (fun _ _ => True) (tabC1 18 nI (fun n => .tup [arC (newA n), iint (bif newBad n then 1 else 0)]) (fun _ => True) ta8)
theorem ta9_ok : TabOk Try.prog ta9 := tabC2_ok rfl (fun a x _ => arenaMake a x) (tabC1_ok rfl (fun n _ => arenaNew n) ta8_ok)
def cmpI (a b : Int) : Int := bif decide (a < b) then -1 else bif decide (a > b) then 1 else 0
def orS (s : Sl Int) : Int := match (List.range s.n).find? (fun i => s.at_ i != 0) with
  | some i => s.at_ i
  | none => 0
def i64v (n : Int) : CV := .one (.imm (.val (.int .i64 n)))

theorem isNaN (a : Int) : PCall Try.prog 100 [iint a] (.cv (ibool false)) := by
  refine PCall_of (ACall_body good Try.func100 rfl 6 rfl (by simp) ?_)
  refine AW_seq ?_
  refine AW_all good tab0 (tab0_ok _) rfl rfl ?_ ?_
  · repeat' (first | exact trivial | exact rfl | exact (fun _ _ => rfl) | refine And.intro ?_ ?_ | intro _)
  refine AW_seq ?_
  refine AW_all good tab0 (tab0_ok _) rfl rfl ?_ ?_
  · repeat' (first | exact trivial | exact rfl | exact (fun _ _ => rfl) | refine And.intro ?_ ?_ | intro _)
  refine AW_ret (bodyQ_ret rfl ?_ (Ends.le rfl ?_ ?_))
  · repeat' (first | exact trivial | exact rfl | exact (fun _ _ => rfl) | refine And.intro ?_ ?_ | intro _)
  · repeat' (first | exact trivial | exact rfl | exact (fun _ _ => rfl) | refine And.intro ?_ ?_ | intro _)
  exact SLe.of_eq (ret_bool (by simp))

def th1 : Tab := tabC1 100 nI (fun _ => .cv (ibool false)) (fun _ => True) ta9
theorem th1_ok : TabOk Try.prog th1 := tabC1_ok rfl (fun a _ => isNaN a) ta9_ok

theorem compare (a b : Int) : PCall Try.prog 76 [iint a, iint b] (.cv (iint (cmpI a b))) := by
  refine PCall_of (ACall_body good Try.func76 rfl 20 rfl (by simp) ?_)
  refine AW_seq ?_
  refine AW_all good th1 (th1_ok) rfl rfl ?_ ?_
  · repeat' (first | exact trivial | exact rfl | exact (fun _ _ => rfl) | refine And.intro ?_ ?_ | intro _)
  refine AW_seq ?_
  refine AW_all good th1 (th1_ok) rfl rfl ?_ ?_
  · repeat' (first | exact trivial | exact rfl | exact (fun _ _ => rfl) | refine And.intro ?_ ?_ | intro _)
  refine AW_seq ?_
  refine AW_all good th1 (th1_ok) rfl rfl ?_ ?_
  · repeat' (first | exact trivial | exact rfl | exact (fun _ _ => rfl) | refine And.intro ?_ ?_ | intro _)
  refine AW_seq ?_
  refine AW_seq ?_
  refine AW_all good th1 (th1_ok) rfl rfl ?_ ?_
  · repeat' (first | exact trivial | exact rfl | exact (fun _ _ => rfl) | refine And.intro ?_ ?_ | intro _)
  refine AW_cond rfl (fun h1 => ?_) (fun h1 => ?_)
  · first
    | (exfalso; (cases h1; done); done)
    | (
        refine AW_seq ?_
        refine AW_seq ?_
        refine AW_all good th1 (th1_ok) rfl rfl ?_ ?_
        · repeat' (first | exact trivial | exact rfl | exact (fun _ _ => rfl) | refine And.intro ?_ ?_ | intro _)
        refine AW_cond rfl (fun h2 => ?_) (fun h2 => ?_)
        · first
          | (exfalso; (cases h2; done); done)
          | (
              refine AW_seq ?_
              refine AW_all good th1 (th1_ok) rfl rfl ?_ ?_
              · repeat' (first | exact trivial | exact rfl | exact (fun _ _ => rfl) | refine And.intro ?_ ?_ | intro _)
              refine AW_ret (bodyQ_ret rfl ?_ (Ends.le rfl ?_ ?_))
              · repeat' (first | exact trivial | exact rfl | exact (fun _ _ => rfl) | refine And.intro ?_ ?_ | intro _)
              · repeat' (first | exact trivial | exact rfl | exact (fun _ _ => rfl) | refine And.intro ?_ ?_ | intro _)
              fail
          )
        · first
          | (exfalso; (cases h2; done); done)
          | (
              refine AW_skip ?_
              refine AW_seq ?_
              refine AW_all good th1 (th1_ok) rfl rfl ?_ ?_
              · repeat' (first | exact trivial | exact rfl | exact (fun _ _ => rfl) | refine And.intro ?_ ?_ | intro _)
              refine AW_ret (bodyQ_ret rfl ?_ (Ends.le rfl ?_ ?_))
              · repeat' (first | exact trivial | exact rfl | exact (fun _ _ => rfl) | refine And.intro ?_ ?_ | intro _)
              · repeat' (first | exact trivial | exact rfl | exact (fun _ _ => rfl) | refine And.intro ?_ ?_ | intro _)
              fail
          )
    )
  · first
    | (exfalso; (cases h1; done); done)
    | (
        refine AW_skip ?_
        refine AW_seq ?_
        refine AW_seq ?_
        refine AW_all good th1 (th1_ok) rfl rfl ?_ ?_
        · repeat' (first | exact trivial | exact rfl | exact (fun _ _ => rfl) | refine And.intro ?_ ?_ | intro _)
        refine AW_cond rfl (fun h3 => ?_) (fun h3 => ?_)
        · first
          | (exfalso; (cases h3; done); done)
          | (
              refine AW_seq ?_
              refine AW_all good th1 (th1_ok) rfl rfl ?_ ?_
              · repeat' (first | exact trivial | exact rfl | exact (fun _ _ => rfl) | refine And.intro ?_ ?_ | intro _)
              refine AW_ret (bodyQ_ret rfl ?_ (Ends.le rfl ?_ ?_))
              · repeat' (first | exact trivial | exact rfl | exact (fun _ _ => rfl) | refine And.intro ?_ ?_ | intro _)
              · repeat' (first | exact trivial | exact rfl | exact (fun _ _ => rfl) | refine And.intro ?_ ?_ | intro _)
              fail
          )
        · first
          | (exfalso; (cases h3; done); done)
          | (
              refine AW_skip ?_
              refine AW_seq ?_
              refine AW_seq ?_
              refine AW_all good th1 (th1_ok) rfl rfl ?_ ?_
              · repeat' (first | exact trivial | exact rfl | exact (fun _ _ => rfl) | refine And.intro ?_ ?_ | intro _)
              refine AW_cond rfl (fun h4 => ?_) (fun h4 => ?_)
              · first
                | (exfalso; (cases h4; done); done)
                | (
                    refine AW_seq ?_
                    refine AW_all good th1 (th1_ok) rfl rfl ?_ ?_
                    · repeat' (first | exact trivial | exact rfl | exact (fun _ _ => rfl) | refine And.intro ?_ ?_ | intro _)
                    refine AW_ret (bodyQ_ret rfl ?_ (Ends.le rfl ?_ ?_))
                    · repeat' (first | exact trivial | exact rfl | exact (fun _ _ => rfl) | refine And.intro ?_ ?_ | intro _)
                    · repeat' (first | exact trivial | exact rfl | exact (fun _ _ => rfl) | refine And.intro ?_ ?_ | intro _)
                    have h : decide (a < b) = true := by assumption
                    unfold cmpI
                    rw [h]
                    exact SLe.of_eq rfl
                )
              · first
                | (exfalso; (cases h4; done); done)
                | (
                    refine AW_skip ?_
                    refine AW_seq ?_
                    refine AW_seq ?_
                    refine AW_all good th1 (th1_ok) rfl rfl ?_ ?_
                    · repeat' (first | exact trivial | exact rfl | exact (fun _ _ => rfl) | refine And.intro ?_ ?_ | intro _)
                    refine AW_cond rfl (fun h5 => ?_) (fun h5 => ?_)
                    · first
                      | (exfalso; (cases h5; done); done)
                      | (
                          refine AW_seq ?_
                          refine AW_all good th1 (th1_ok) rfl rfl ?_ ?_
                          · repeat' (first | exact trivial | exact rfl | exact (fun _ _ => rfl) | refine And.intro ?_ ?_ | intro _)
                          refine AW_ret (bodyQ_ret rfl ?_ (Ends.le rfl ?_ ?_))
                          · repeat' (first | exact trivial | exact rfl | exact (fun _ _ => rfl) | refine And.intro ?_ ?_ | intro _)
                          · repeat' (first | exact trivial | exact rfl | exact (fun _ _ => rfl) | refine And.intro ?_ ?_ | intro _)
                          have h : decide (a < b) = false := by assumption
                          have h2 : decide (a > b) = true := by assumption
                          unfold cmpI
                          rw [h, h2]
                          exact SLe.of_eq rfl
                      )
                    · first
                      | (exfalso; (cases h5; done); done)
                      | (
                          refine AW_skip ?_
                          refine AW_seq ?_
                          refine AW_all good th1 (th1_ok) rfl rfl ?_ ?_
                          · repeat' (first | exact trivial | exact rfl | exact (fun _ _ => rfl) | refine And.intro ?_ ?_ | intro _)
                          refine AW_ret (bodyQ_ret rfl ?_ (Ends.le rfl ?_ ?_))
                          · repeat' (first | exact trivial | exact rfl | exact (fun _ _ => rfl) | refine And.intro ?_ ?_ | intro _)
                          · repeat' (first | exact trivial | exact rfl | exact (fun _ _ => rfl) | refine And.intro ?_ ?_ | intro _)
                          have h : decide (a < b) = false := by assumption
                          have h2 : decide (a > b) = false := by assumption
                          unfold cmpI
                          rw [h, h2]
                          exact SLe.of_eq rfl
                      )
                )
          )
    )

theorem cmpOr (s : Sl Int) : PCall Try.prog 75 [.one (.imm (slI intE s))] (.cv (iint (orS s))) := by
  refine PCall_of (ACall_body good Try.func75 rfl 18 rfl (by simp) ?_)
  refine AW_lenle 0 rfl (fun hm => ?_)
  refine AW_seq ?_
  refine AW_all good th1 (th1_ok) rfl rfl ?_ ?_
  · repeat' (first | exact trivial | exact rfl | exact (fun _ _ => rfl) | refine And.intro ?_ ?_ | intro _)
  refine AW_seq ?_
  refine AW_all good th1 (th1_ok) rfl rfl ?_ ?_
  · repeat' (first | exact trivial | exact rfl | exact (fun _ _ => rfl) | refine And.intro ?_ ?_ | intro _)
  refine AW_seq ?_
  refine AW_seq ?_
  refine AW_all good th1 (th1_ok) rfl rfl ?_ ?_
  · repeat' (first | exact trivial | exact rfl | exact (fun _ _ => rfl) | refine And.intro ?_ ?_ | intro _)
  refine AW_block ?_
  refine AW_loopX [3, 6, 7] [] (fun j : { i : Nat // i ≤ s.n ∧ ∀ k, k < i → (s.at_ k != 0) = false } => [(8, .cv (iint j.1))]) (fun j => []) (fun j => s.n - j.1) ⟨0, Nat.zero_le _, fun k hk => absurd hk (Nat.not_lt_zero k)⟩ ⟨SLe.of_eq rfl, trivial⟩ trivial ?_
  rintro ⟨i, hi, hb⟩
  dsimp only at hi hb ⊢
  refine AW_seq ?_
  refine AW_all good th1 (th1_ok) rfl rfl ?_ ?_
  · repeat' (first | exact trivial | exact rfl | exact (fun _ _ => rfl) | refine And.intro ?_ ?_ | intro _)
  refine AW_seq ?_
  refine AW_cond rfl (fun h1 => ?_) (fun h1 => ?_)
  · first
    | (exfalso; simp_all; done)
    | (
        refine AW_skip ?_
        refine AW_seq ?_
        refine AW_block ?_
        refine AW_seq ?_
        have hlt : i < s.n := by simpa using h1
        refine AW_all good th1 (th1_ok) rfl rfl ?_ ?_
        · repeat' (first | exact trivial | exact rfl | exact (fun _ _ => rfl) | refine And.intro ?_ ?_ | intro _)
          all_goals omega
        refine AW_seq ?_
        refine AW_all good th1 (th1_ok) rfl rfl ?_ ?_
        · repeat' (first | exact trivial | exact rfl | exact (fun _ _ => rfl) | refine And.intro ?_ ?_ | intro _)
        refine AW_cond rfl (fun h2 => ?_) (fun h2 => ?_)
        · first
          | (exfalso; simp_all; done)
          | (
              refine AW_seq ?_
              refine AW_all good th1 (th1_ok) rfl rfl ?_ ?_
              · repeat' (first | exact trivial | exact rfl | exact (fun _ _ => rfl) | refine And.intro ?_ ?_ | intro _)
              refine AW_ret (bodyQ_ret rfl ?_ (Ends.le rfl ?_ ?_))
              · repeat' (first | exact trivial | exact rfl | exact (fun _ _ => rfl) | refine And.intro ?_ ?_ | intro _)
              · repeat' (first | exact trivial | exact rfl | exact (fun _ _ => rfl) | refine And.intro ?_ ?_ | intro _)
              have e : (List.range s.n).find? (fun i => s.at_ i != 0) = some i := by
                rw [List.find?_range_eq_some]
                exact ⟨h2, List.mem_range.2 hlt, fun j hj => by rw [hb j hj]; rfl⟩
              unfold orS
              rw [e]
              exact SLe.of_eq rfl
          )
        · first
          | (exfalso; simp_all; done)
          | (
              refine AW_skip ?_
              refine AW_all good th1 (th1_ok) rfl rfl ?_ ?_
              · repeat' (first | exact trivial | exact rfl | exact (fun _ _ => rfl) | refine And.intro ?_ ?_ | intro _)
              refine loopX_next ⟨i + 1, hlt, fun k hk => ?_⟩ [] rfl rfl ⟨SLe.of_eq (congrArg (fun z => SV.cv (iint z)) (next_int i s.n hlt hm)), trivial⟩ ⟨SLe.of_eq rfl, SLe.of_eq rfl, SLe.of_eq rfl, trivial⟩ trivial trivial ?_
              · rcases Nat.lt_succ_iff_lt_or_eq.1 hk with h | h
                · exact hb k h
                · rw [h]; exact h2
              show s.n - (i + 1) < s.n - i
              omega
          )
    )
  · first
    | (exfalso; simp_all; done)
    | (
        refine AW_exit ?_
        refine AW_seq ?_
        refine AW_all good th1 (th1_ok) rfl rfl ?_ ?_
        · repeat' (first | exact trivial | exact rfl | exact (fun _ _ => rfl) | refine And.intro ?_ ?_ | intro _)
        refine AW_ret (bodyQ_ret rfl ?_ (Ends.le rfl ?_ ?_))
        · repeat' (first | exact trivial | exact rfl | exact (fun _ _ => rfl) | refine And.intro ?_ ?_ | intro _)
        · repeat' (first | exact trivial | exact rfl | exact (fun _ _ => rfl) | refine And.intro ?_ ?_ | intro _)
        have he : i = s.n := by
          have : ¬ i < s.n := by simpa using h1
          omega
        subst he
        have e : (List.range s.n).find? (fun i => s.at_ i != 0) = none := by
          rw [List.find?_eq_none]
          intro x hx
          rw [hb x (List.mem_range.1 hx)]
          simp
        unfold orS
        rw [e]
        exact SLe.of_eq rfl
    )

def th2 : Tab := tabC2 76 nI nI (fun a b => .cv (iint (cmpI a b))) (fun _ _ => True) (tabC1 75 (codSl intE) (fun s => .cv (iint (orS s))) (fun _ => True) th1)
theorem th2_ok : TabOk Try.prog th2 := tabC2_ok rfl (fun a b _ => compare a b) (tabC1_ok rfl (fun s _ => cmpOr s) th1_ok)
/-- How an item stands to another one. -/
def ordI (x y : Item) : Int := bif (cmpI x.k y.k != 0) then cmpI x.k y.k else cmpI x.v y.v
theorem orS_two {a b : Int} {f : Nat → Int} (h0 : f 0 = a) (h1 : f 1 = b) : orS ⟨2, f⟩ = bif (a != 0) then a else b := by
  unfold orS
  show (match List.find? (fun i => f i != 0) [0, 1] with | some i => f i | none => 0) = _
  rw [List.find?_cons, h0]
  cases h : (a != 0) with
  | true => exact h0
  | false =>
    show (match List.find? (fun i => f i != 0) [1] with | some i => f i | none => 0) = b
    rw [List.find?_cons, h1]
    cases h2 : (b != 0) with
    | true => exact h1
    | false =>
      show (0 : Int) = b
      simp at h2
      omega
theorem two_ok {a b : Int} : slOk intE (.sl 1 2 false fun i q => [ivOf (Value.int .i64 a), ivOf (Value.int .i64 b)].getD (i * 1 + q) ivDef) := .inr ⟨rfl, fun i hi => by
  match i, hi with
  | 0, _ => rfl
  | 1, _ => rfl⟩

theorem orderItem (x y : Item) : PCall Try.prog 57 [itC x, itC y] (.cv (iint (ordI x y))) := by
  refine PCall_of (ACall_body good Try.func57 rfl 17 rfl (by simp) ?_)
  refine AW_seq ?_
  refine AW_all good th2 (th2_ok) rfl rfl ?_ ?_
  · repeat' (first | exact trivial | exact rfl | exact (fun _ _ => rfl) | refine And.intro ?_ ?_ | intro _)
  refine AW_seq ?_
  refine AW_drwG good rfl th2 (th2_ok) et0 (et0_ok _) [10] [0, 1, 0, 4, 15, 0, 32, 0, 128, 511, 1023, 2047, 4095] [false, false, false, false, false, false, false, false, false, false, false, false, false] (by rfl) (by rfl) rfl (by rfl) (by rfl) ?_ ?_ ?_
  · repeat' (first | exact trivial | exact rfl | exact (fun _ _ => rfl) | refine And.intro ?_ ?_ | intro _)
    all_goals (first | exact two_ok | omega)
  · repeat' (first | refine And.intro ?_ ?_ | exact trivial | exact rfl | intro _)
    all_goals exact two_ok
  refine AW_ret (bodyQ_ret rfl ?_ (Ends.le rfl ?_ ?_))
  · repeat' (first | exact trivial | exact rfl | exact (fun _ _ => rfl) | refine And.intro ?_ ?_ | intro _)
  · repeat' (first | exact trivial | exact rfl | exact (fun _ _ => rfl) | refine And.intro ?_ ?_ | intro _)
  exact SLe.of_eq (congrArg (fun z => SV.cv (iint z)) (orS_two rfl rfl))

theorem itemOf (x : Nd) : PCall Try.prog 49 [ndC x] (.cv (itC ⟨x.n, x.v⟩)) := by
  refine PCall_of (ACall_body good Try.func49 rfl 8 rfl (by simp) ?_)
  refine AW_seq ?_
  refine AW_all good tab0 (tab0_ok _) rfl rfl ?_ ?_
  · repeat' (first | exact trivial | exact rfl | exact (fun _ _ => rfl) | refine And.intro ?_ ?_ | intro _)
  refine AW_seq ?_
  refine AW_all good tab0 (tab0_ok _) rfl rfl ?_ ?_
  · repeat' (first | exact trivial | exact rfl | exact (fun _ _ => rfl) | refine And.intro ?_ ?_ | intro _)
  refine AW_ret (bodyQ_ret rfl ?_ (Ends.le rfl ?_ ?_))
  · repeat' (first | exact trivial | exact rfl | exact (fun _ _ => rfl) | refine And.intro ?_ ?_ | intro _)
  · repeat' (first | exact trivial | exact rfl | exact (fun _ _ => rfl) | refine And.intro ?_ ?_ | intro _)
  exact SLe.of_eq rfl

/-- An arena in which heaps are made, and why that failed. -/
structure Pile where
  a : Ar
  bad : Int
def piE : Enc Pile := ⟨3, fun p => lI [slI ndE p.a.nodes, slI intE p.a.free, .val (.int .i64 p.bad)], fun c => ⟨⟨slG ndE (c 0), slG intE (c 1)⟩, ivInt (c 2)⟩, fun c => slOk ndE (c 0) ∧ (slOk intE (c 1) ∧ c 2 = .val (.int .i64 (ivInt (c 2)))), fun _ => ⟨slOk_lit, slOk_lit, rfl⟩, fun c h j hj => by
  obtain ⟨h0, h1, h2⟩ := h
  match j, hj with
  | 0, _ => exact slI_le h0
  | 1, _ => exact slI_le h1
  | 2, _ => exact ILe.of_eq h2
  | q + 3, h => exact absurd h (by omega)⟩
def itmOf (x : Nd) : Item := ⟨x.n, x.v⟩
def th3 : Tab := tabC2 57 itA itA (fun x y => .cv (iint (ordI x y))) (fun _ _ => True) (tabC1 49 ndA (fun x => .cv (itC (itmOf x))) (fun _ => True) th2)
theorem th3_ok : TabOk Try.prog th3 := tabC2_ok rfl (fun x y _ => orderItem x y) (tabC1_ok rfl (fun x _ => itemOf x) th2_ok)

theorem pileGet (p : Pile) (r : Int) : PCall Try.prog 44 [(codPtr piE).enc p, u64 r] (.cv (ndC (getN p.a r))) := by
  refine PCall_of (ACall_body good Try.func44 rfl 17 rfl (by simp) ?_)
  refine AW_seq ?_
  refine AW_all good th3 (th3_ok) rfl rfl ?_ ?_
  · repeat' (first | exact trivial | exact rfl | exact (fun _ _ => rfl) | refine And.intro ?_ ?_ | intro _)
  refine AW_seq ?_
  refine AW_all good th3 (th3_ok) rfl rfl ?_ ?_
  · repeat' (first | exact trivial | exact rfl | exact (fun _ _ => rfl) | refine And.intro ?_ ?_ | intro _)
    all_goals exact slOk_lit
  refine AW_seq ?_
  refine AW_all good th3 (th3_ok) rfl rfl ?_ ?_
  · repeat' (first | exact trivial | exact rfl | exact (fun _ _ => rfl) | refine And.intro ?_ ?_ | intro _)
  refine AW_ret (bodyQ_ret rfl ?_ (Ends.le rfl ?_ ?_))
  · repeat' (first | exact trivial | exact rfl | exact (fun _ _ => rfl) | refine And.intro ?_ ?_ | intro _)
  · repeat' (first | exact trivial | exact rfl | exact (fun _ _ => rfl) | refine And.intro ?_ ?_ | intro _)
  exact SLe.of_eq rfl

def th4 : Tab := tabC2 44 (codPtr piE) rI (fun p r => .cv (ndC (getN p.a r))) (fun _ _ => True) th3
theorem th4_ok : TabOk Try.prog th4 := tabC2_ok rfl (fun p r _ => pileGet p r) th3_ok
def hpN (n : Nd) (c x s : Int) : Nd := ⟨6, 0, n.n, n.v, s, c, x, 0, 0, 0, 0, 0, 0, 0, 0, 0⟩
/-- A node is made: the arena then, and its reference. -/
def hpMakeR (p : Pile) (n : Nd) (c x s : Int) : Pile × Int := bif (p.bad != 0) then (p, 0) else bif (mkE p.a (hpN n c x s) != 0) then (⟨p.a, mkE p.a (hpN n c x s)⟩, 0) else (⟨mkA p.a (hpN n c x s), 0⟩, mkR p.a (hpN n c x s))
noncomputable def hpMake : Pile → Nd → Int → Int → Int → Pile × Int := lock hpMakeR
theorem hpMake_eq : hpMake = hpMakeR := lock_eq _

set_option maxHeartbeats 1000000 in
theorem pileMake (p : Pile) (n : Nd) (c x s : Int) : ACall Try.prog 46 [.one (.own 0 0 0 0), ndC n, u64 c, u64 x, iint s] (heapOf [bkV 109 piE p]) 1 fun x' H' n' => x' = .cv (u64 (hpMake p n c x s).2) ∧ H' = updH (heapOf [bkV 109 piE p]) (updL 0 [some (bkV 109 piE (hpMake p n c x s).1)]) ∧ n' = 1 + 0 := by
  refine ACall_norm (Bs := [bkV 109 piE p]) (cnt := 0) ?_
  change ACall _ _ _ _ 1 _
  refine ACall_body good Try.func46 rfl 53 rfl (by simp) ?_
  refine AW_seq ?_
  refine AW_all good th4 (th4_ok) rfl rfl ?_ ?_
  · repeat' (first | exact trivial | exact rfl | exact (fun _ _ => rfl) | refine And.intro ?_ ?_ | intro _)
  refine AW_seq ?_
  refine AW_seq ?_
  refine AW_all good th4 (th4_ok) rfl rfl ?_ ?_
  · repeat' (first | exact trivial | exact rfl | exact (fun _ _ => rfl) | refine And.intro ?_ ?_ | intro _)
  refine AW_cond rfl (fun h1 => ?_) (fun h1 => ?_)
  · first
    | (exfalso; simp_all; done)
    | (
        refine AW_seq ?_
        refine AW_all good th4 (th4_ok) rfl rfl ?_ ?_
        · repeat' (first | exact trivial | exact rfl | exact (fun _ _ => rfl) | refine And.intro ?_ ?_ | intro _)
        have hm : hpMake p n c x s = (p, 0) := by
          have h : (p.bad != 0) = true := h1
          rw [hpMake_eq]
          unfold hpMakeR
          rw [h]
          rfl
        refine AW_ret ?_
        refine ⟨_, _, rfl, ?_, [0], rfl, EndsE.all (Us := [some (bkV 109 piE (hpMake p n c x s).1)]) rfl rfl rfl ?_ ?_⟩
        · repeat' (first | exact trivial | exact rfl | exact (fun _ _ => rfl) | refine And.intro ?_ ?_ | intro _)
        · rw [hm]
          exact SLe.of_eq rfl
        · exact ⟨⟨_, rfl, by rw [hm]; exact BLe.of_eq rfl⟩, trivial⟩
    )
  · first
    | (exfalso; simp_all; done)
    | (
        refine AW_skip ?_
        refine AW_seq ?_
        refine AW_all good th4 (th4_ok) rfl rfl ?_ ?_
        · repeat' (first | exact trivial | exact rfl | exact (fun _ _ => rfl) | refine And.intro ?_ ?_ | intro _)
        refine AW_seq ?_
        refine AW_all good th4 (th4_ok) rfl rfl ?_ ?_
        · repeat' (first | exact trivial | exact rfl | exact (fun _ _ => rfl) | refine And.intro ?_ ?_ | intro _)
          all_goals omega
        refine AW_seq ?_
        refine AW_drwG good rfl th4 (th4_ok) et0 (et0_ok _) [] [0, 1, 3, 7, 0, 31, 63, 127, 127, 127, 0, 1279, 3583, 8191] [false, false, false, false, false, false, false, false, false, false, true, true, false, false] (by rfl) (by rfl) rfl (by rfl) (by rfl) ?_ ?_ ?_
        · repeat' (first | exact trivial | exact rfl | exact (fun _ _ => rfl) | refine And.intro ?_ ?_ | intro _)
          all_goals exact slOk_lit
        · repeat' (first | refine And.intro ?_ ?_ | exact trivial | exact rfl | intro _)
          all_goals exact slOk_lit
        refine AW_seq ?_
        refine AW_seq ?_
        refine AW_all good th4 (th4_ok) rfl rfl ?_ ?_
        · repeat' (first | exact trivial | exact rfl | exact (fun _ _ => rfl) | refine And.intro ?_ ?_ | intro _)
        refine AW_seq ?_
        refine AW_all good th4 (th4_ok) rfl rfl ?_ ?_
        · repeat' (first | exact trivial | exact rfl | exact (fun _ _ => rfl) | refine And.intro ?_ ?_ | intro _)
        refine AW_cond rfl (fun h2 => ?_) (fun h2 => ?_)
        · first
          | (exfalso; simp_all; done)
          | (
              refine AW_seq ?_
              refine AW_all good th4 (th4_ok) rfl rfl ?_ ?_
              · repeat' (first | exact trivial | exact rfl | exact (fun _ _ => rfl) | refine And.intro ?_ ?_ | intro _)
              have hm : hpMake p n c x s = (⟨p.a, mkE p.a (hpN n c x s)⟩, 0) := by
                have h : (p.bad != 0) = false := h1
                have h2 : (mkE p.a (hpN n c x s) != 0) = true := h2
                rw [hpMake_eq]
                unfold hpMakeR
                rw [h, h2]
                rfl
              refine AW_ret ?_
              refine ⟨_, _, rfl, ?_, [0], rfl, EndsE.all (Us := [some (bkV 109 piE (hpMake p n c x s).1)]) rfl rfl rfl ?_ ?_⟩
              · repeat' (first | exact trivial | exact rfl | exact (fun _ _ => rfl) | refine And.intro ?_ ?_ | intro _)
              · rw [hm]
                exact SLe.of_eq rfl
              · exact ⟨⟨_, rfl, by rw [hm]; exact BLe.of_eq rfl⟩, trivial⟩
          )
        · first
          | (exfalso; simp_all; done)
          | (
              refine AW_skip ?_
              refine AW_seq ?_
              refine AW_all good th4 (th4_ok) rfl rfl ?_ ?_
              · repeat' (first | exact trivial | exact rfl | exact (fun _ _ => rfl) | refine And.intro ?_ ?_ | intro _)
              refine AW_seq ?_
              refine AW_all good th4 (th4_ok) rfl rfl ?_ ?_
              · repeat' (first | exact trivial | exact rfl | exact (fun _ _ => rfl) | refine And.intro ?_ ?_ | intro _)
              have hm : hpMake p n c x s = (⟨mkA p.a (hpN n c x s), mkE p.a (hpN n c x s)⟩, mkR p.a (hpN n c x s)) := by
                have h : (p.bad != 0) = false := h1
                have h2 : (mkE p.a (hpN n c x s) != 0) = false := h2
                rw [hpMake_eq]
                unfold hpMakeR
                rw [h, h2]
                rw [bne_eq_false_iff_eq] at h2
                rw [h2]
                rfl
              refine AW_ret ?_
              refine ⟨_, _, rfl, ?_, [0], rfl, EndsE.all (Us := [some (bkV 109 piE (hpMake p n c x s).1)]) rfl rfl rfl ?_ ?_⟩
              · repeat' (first | exact trivial | exact rfl | exact (fun _ _ => rfl) | refine And.intro ?_ ?_ | intro _)
              · rw [hm]
                exact SLe.of_eq rfl
              · exact ⟨⟨_, rfl, by rw [hm]; exact BLe.of_eq rfl⟩, trivial⟩
          )
    )

end Go.Proofs.Ytadgjhbhghhbgaa.Abs
