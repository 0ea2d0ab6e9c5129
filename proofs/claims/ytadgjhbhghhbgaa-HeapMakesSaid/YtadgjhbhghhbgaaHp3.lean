/-
  THE CONTRACTS OF PACKAGE heap: right, Right, Min, Insert.
-/
import Derived.Test.YtadgjhbhghhbgaaHp2
namespace Go.Proofs.Ytadgjhbhghhbgaa.Abs
open Go
set_option maxRecDepth 10000

theorem cntB_lt (s : Nat → Bool) (n : Nat) : cntB s n < n + 1 := by
  have := List.countP_le_length (p := fun i => !s i) (l := List.range n)
  rw [List.length_range] at this
  unfold cntB
  omega
def hpNo (a : Ar) (r : Int) : Bool := bif decide ((mayF a (a.nodes.n + 1) r (itmOf (getN a r)) (fun _ => false) 200 0).1 < 0) then true else ((getN a r).k1 != 0)
def hpRight (a : Ar) (l : Sl Int) : Bool := bif rightB a then !anyB (fun i => hpNo a (l.at_ i)) l.n else false

set_option maxHeartbeats 1000000 in
theorem heapRight (a : Ar) (l : Sl Int) : PCall Try.prog 58 [arC a, .one (.imm (slI refE l))] (.cv (ibool (hpRight a l))) := by
  refine PCall_of (ACall_body good Try.func58 rfl 41 rfl (by simp) ?_)
  refine AW_lenle 1 rfl (fun hm => ?_)
  refine AW_seq ?_
  refine AW_all good th4 (th4_ok) rfl rfl ?_ ?_
  · repeat' (first | exact trivial | exact rfl | exact (fun _ _ => rfl) | refine And.intro ?_ ?_ | intro _)
  refine AW_seq ?_
  refine AW_all good th4 (th4_ok) rfl rfl ?_ ?_
  · repeat' (first | exact trivial | exact rfl | exact (fun _ _ => rfl) | refine And.intro ?_ ?_ | intro _)
  refine AW_seq ?_
  refine AW_seq ?_
  refine AW_all good th4 (th4_ok) rfl rfl ?_ ?_
  · repeat' (first | exact trivial | exact rfl | exact (fun _ _ => rfl) | refine And.intro ?_ ?_ | intro _)
    all_goals exact slOk_lit
  refine AW_cond rfl (fun h1 => ?_) (fun h1 => ?_)
  · first
    | (exfalso; simp_all; done)
    | (
        refine AW_seq ?_
        refine AW_all good th4 (th4_ok) rfl rfl ?_ ?_
        · repeat' (first | exact trivial | exact rfl | exact (fun _ _ => rfl) | refine And.intro ?_ ?_ | intro _)
        refine AW_ret (bodyQ_ret rfl ?_ (Ends.le rfl ?_ ?_))
        · repeat' (first | exact trivial | exact rfl | exact (fun _ _ => rfl) | refine And.intro ?_ ?_ | intro _)
        · repeat' (first | exact trivial | exact rfl | exact (fun _ _ => rfl) | refine And.intro ?_ ?_ | intro _)
        have h : rightB a = false := bnot_t h1
        unfold hpRight
        rw [h]
        exact SLe.of_eq rfl
    )
  · first
    | (exfalso; simp_all; done)
    | (
        refine AW_skip ?_
        refine AW_seq ?_
        refine AW_seq ?_
        have hr : rightB a = true := bnot_f h1
        have hs2 := (right_facts hr).1.2.1
        refine AW_all good th4 (th4_ok) rfl rfl ?_ ?_
        · repeat' (first | exact trivial | exact rfl | exact (fun _ _ => rfl) | refine And.intro ?_ ?_ | intro _)
        refine AW_block ?_
        refine AW_loopX [2, 5, 15, 16] [0, 1] (fun j : { i : Nat // i ≤ l.n ∧ ∀ k, k < i → hpNo a (l.at_ k) = false } => [(17, .cv (iint j.1))]) (fun j => []) (fun j => l.n - j.1) ⟨0, Nat.zero_le _, fun k hk => absurd hk (Nat.not_lt_zero k)⟩ ⟨SLe.of_eq rfl, trivial⟩ trivial ?_
        rintro ⟨i, hi, hb⟩
        dsimp only at hi hb ⊢
        refine AW_seq ?_
        refine AW_all good th4 (th4_ok) rfl rfl ?_ ?_
        · repeat' (first | exact trivial | exact rfl | exact (fun _ _ => rfl) | refine And.intro ?_ ?_ | intro _)
        refine AW_seq ?_
        refine AW_cond rfl (fun h2 => ?_) (fun h2 => ?_)
        · first
          | (exfalso; simp_all; done)
          | (
              refine AW_skip ?_
              refine AW_seq ?_
              refine AW_block ?_
              refine AW_seq ?_
              have hlt : i < l.n := by simpa using h2
              refine AW_all good th4 (th4_ok) rfl rfl ?_ ?_
              · repeat' (first | exact trivial | exact rfl | exact (fun _ _ => rfl) | refine And.intro ?_ ?_ | intro _)
                all_goals omega
              refine AW_seq ?_
              refine AW_all good th4 (th4_ok) rfl rfl ?_ ?_
              · repeat' (first | exact trivial | exact rfl | exact (fun _ _ => rfl) | refine And.intro ?_ ?_ | intro _)
                all_goals exact slOk_lit
              refine AW_seq ?_
              obtain ⟨X, hX⟩ : ∃ X, getN a (l.at_ i) = X := ⟨_, rfl⟩
              refine AW_blk 2 rfl (B := bkV 91 ndE X) (BLe.of_eq (by rw [← hX]; rfl)) ?_
              refine AW_drwG good rfl th4 (th4_ok) (eM (a.nodes.n + 1)) (eM_ok (pileMay _)) [] [0, 0, 0, 4, 0, 16, 48, 112, 255, 511, 1023, 2047, 4095, 8191, 16383, 32767] [false, false, false, false, false, false, false, true, true, false, false, false, false, false, false, false] (by rfl) (by rfl) rfl (by rfl) (by rfl) ?_ ?_ ?_
              · repeat' (first | exact trivial | exact rfl | exact (fun _ _ => rfl) | refine And.intro ?_ ?_ | intro _)
                all_goals (first | exact cntB_lt _ _ | omega | exact bytes_okI (by omega) (by omega) (by decide) | exact slOk_lit | assumption | (rename_i hg; exact eqf hg))
              · repeat' (first | refine And.intro ?_ ?_ | exact trivial | exact rfl | intro _)
                all_goals assumption
              refine AW_cond rfl (fun h3 => ?_) (fun h3 => ?_)
              · first
                | (exfalso; simp_all; done)
                | (
                    refine AW_seq ?_
                    refine AW_all good th4 (th4_ok) rfl rfl ?_ ?_
                    · repeat' (first | exact trivial | exact rfl | exact (fun _ _ => rfl) | refine And.intro ?_ ?_ | intro _)
                    refine AW_ret (bodyQ_ret rfl ?_ (Ends.le rfl ?_ ?_))
                    · repeat' (first | exact trivial | exact rfl | exact (fun _ _ => rfl) | refine And.intro ?_ ?_ | intro _)
                    · repeat' (first | exact trivial | exact rfl | exact (fun _ _ => rfl) | refine And.intro ?_ ?_ | intro _)
                    have h : hpNo a (l.at_ i) = true := by
                      unfold hpNo
                      rw [hX]
                      exact h3
                    unfold hpRight
                    rw [hr, anyB_hit hlt h]
                    exact SLe.of_eq rfl
                )
              · first
                | (exfalso; simp_all; done)
                | (
                    refine AW_skip ?_
                    refine AW_all good th4 (th4_ok) rfl rfl ?_ ?_
                    · repeat' (first | exact trivial | exact rfl | exact (fun _ _ => rfl) | refine And.intro ?_ ?_ | intro _)
                    refine loopX_next ⟨i + 1, hlt, fun k hk => ?_⟩ [0, 1] rfl rfl ⟨SLe.of_eq (congrArg (fun z => SV.cv (iint z)) (next_int i l.n hlt hm)), trivial⟩ ⟨SLe.of_eq rfl, SLe.of_eq rfl, SLe.of_eq rfl, SLe.of_eq rfl, trivial⟩ trivial ⟨⟨rfl, _, _, rfl, rfl, BLe.of_eq rfl⟩, ⟨rfl, _, _, rfl, rfl, BLe.of_eq rfl⟩, trivial⟩ ?_
                    · rcases Nat.lt_succ_iff_lt_or_eq.1 hk with h | h
                      · exact hb k h
                      · rw [h]
                        unfold hpNo
                        rw [hX]
                        exact h3
                    show l.n - (i + 1) < l.n - i
                    omega
                )
          )
        · first
          | (exfalso; simp_all; done)
          | (
              refine AW_exit ?_
              refine AW_seq ?_
              refine AW_all good th4 (th4_ok) rfl rfl ?_ ?_
              · repeat' (first | exact trivial | exact rfl | exact (fun _ _ => rfl) | refine And.intro ?_ ?_ | intro _)
              refine AW_ret (bodyQ_ret rfl ?_ (Ends.le rfl ?_ ?_))
              · repeat' (first | exact trivial | exact rfl | exact (fun _ _ => rfl) | refine And.intro ?_ ?_ | intro _)
              · repeat' (first | exact trivial | exact rfl | exact (fun _ _ => rfl) | refine And.intro ?_ ?_ | intro _)
              have hin : i = l.n := by
                have : ¬ i < l.n := by simpa using h2
                omega
              subst hin
              unfold hpRight
              rw [hr, anyB_all hb]
              exact SLe.of_eq rfl
          )
    )

def th6 : Tab := tabC2 58 arA (codSl refE) (fun a l => .cv (ibool (hpRight a l))) (fun _ _ => True) th4
theorem th6_ok : TabOk Try.prog th6 := tabC2_ok rfl (fun a l _ => heapRight a l) th4_ok
/-- Whether a reference is a heap's. -/
def hpOk (a : Ar) (r : Int) : Bool := bif rightB a then !hpNo a r else false
theorem anyB_one (f : Nat → Bool) : anyB f 1 = f 0 := by simp [anyB, List.range_succ]
theorem hpRight_one {a : Ar} {f : Nat → Int} {r : Int} (h : f 0 = r) : hpRight a ⟨1, f⟩ = hpOk a r := by
  unfold hpRight hpOk
  rw [anyB_one]
  show (bif rightB a then !hpNo a (f 0) else false) = _
  rw [h]
theorem one_ok {r : Int} : slOk refE (.sl 1 1 false fun i q => [ivOf (Value.int .u64 r)].getD (i * 1 + q) ivDef) := .inr ⟨rfl, fun i hi => by
  obtain rfl : i = 0 := by omega
  rfl⟩

theorem heapRight1 (a : Ar) (r : Int) : PCall Try.prog 34 [arC a, u64 r] (.cv (ibool (hpOk a r))) := by
  refine PCall_of (ACall_body good Try.func34 rfl 9 rfl (by simp) ?_)
  refine AW_seq ?_
  refine AW_all good th6 (th6_ok) rfl rfl ?_ ?_
  · repeat' (first | exact trivial | exact rfl | exact (fun _ _ => rfl) | refine And.intro ?_ ?_ | intro _)
  refine AW_seq ?_
  refine AW_eff good th6 (th6_ok) et0 (et0_ok _) [2] rfl rfl ?_ ?_
  · repeat' (first | exact trivial | exact rfl | exact (fun _ _ => rfl) | refine And.intro ?_ ?_ | intro _)
    all_goals (first | exact one_ok | omega | exact slOk_lit)
  refine AW_ret (bodyQ_ret rfl ?_ (Ends.le rfl ?_ ?_))
  · repeat' (first | exact trivial | exact rfl | exact (fun _ _ => rfl) | refine And.intro ?_ ?_ | intro _)
  · repeat' (first | exact trivial | exact rfl | exact (fun _ _ => rfl) | refine And.intro ?_ ?_ | intro _)
  exact SLe.of_eq (ret_bool (hpRight_one rfl))

def th7 : Tab := tabC2 34 arA rI (fun a r => .cv (ibool (hpOk a r))) (fun _ _ => True) th6
theorem th7_ok : TabOk Try.prog th7 := tabC2_ok rfl (fun a r _ => heapRight1 a r) th6_ok
def minE (a : Ar) (r : Int) : Int := bif hpOk a r then (bif r == 0 then 3 else 0) else 1
def minX (a : Ar) (r : Int) : Item := bif minE a r == 0 then itmOf (getN a r) else it0

theorem heapMin (a : Ar) (r : Int) : PCall Try.prog 33 [arC a, u64 r] (.tup [itC (minX a r), iint (minE a r)]) := by
  refine PCall_of (ACall_body good Try.func33 rfl 24 rfl (by simp) ?_)
  refine AW_seq ?_
  refine AW_all good th7 (th7_ok) rfl rfl ?_ ?_
  · repeat' (first | exact trivial | exact rfl | exact (fun _ _ => rfl) | refine And.intro ?_ ?_ | intro _)
  refine AW_seq ?_
  refine AW_block ?_
  refine AW_seq ?_
  refine AW_all good th7 (th7_ok) rfl rfl ?_ ?_
  · repeat' (first | exact trivial | exact rfl | exact (fun _ _ => rfl) | refine And.intro ?_ ?_ | intro _)
    all_goals exact slOk_lit
  refine AW_cond rfl (fun h1 => ?_) (fun h1 => ?_)
  · first
    | (exfalso; simp_all; done)
    | (
        refine AW_seq ?_
        refine AW_all good th7 (th7_ok) rfl rfl ?_ ?_
        · repeat' (first | exact trivial | exact rfl | exact (fun _ _ => rfl) | refine And.intro ?_ ?_ | intro _)
        refine AW_ret (bodyQ_ret rfl ?_ (Ends.le rfl ?_ ?_))
        · repeat' (first | exact trivial | exact rfl | exact (fun _ _ => rfl) | refine And.intro ?_ ?_ | intro _)
        · repeat' (first | exact trivial | exact rfl | exact (fun _ _ => rfl) | refine And.intro ?_ ?_ | intro _)
        have h : hpOk a r = false := bnot_t h1
        unfold minX minE
        rw [h]
        exact SLe.of_eq rfl
    )
  · first
    | (exfalso; simp_all; done)
    | (
        refine AW_seq ?_
        refine AW_all good th7 (th7_ok) rfl rfl ?_ ?_
        · repeat' (first | exact trivial | exact rfl | exact (fun _ _ => rfl) | refine And.intro ?_ ?_ | intro _)
        refine AW_cond rfl (fun h2 => ?_) (fun h2 => ?_)
        · first
          | (exfalso; simp_all; done)
          | (
              refine AW_seq ?_
              refine AW_all good th7 (th7_ok) rfl rfl ?_ ?_
              · repeat' (first | exact trivial | exact rfl | exact (fun _ _ => rfl) | refine And.intro ?_ ?_ | intro _)
              refine AW_ret (bodyQ_ret rfl ?_ (Ends.le rfl ?_ ?_))
              · repeat' (first | exact trivial | exact rfl | exact (fun _ _ => rfl) | refine And.intro ?_ ?_ | intro _)
              · repeat' (first | exact trivial | exact rfl | exact (fun _ _ => rfl) | refine And.intro ?_ ?_ | intro _)
              have h : hpOk a r = true := bnot_f h1
              have h2 : (r == 0) = true := h2
              unfold minX minE
              rw [h, h2]
              exact SLe.of_eq rfl
          )
        · first
          | (exfalso; simp_all; done)
          | (
              refine AW_skip ?_
              refine AW_seq ?_
              refine AW_all good th7 (th7_ok) rfl rfl ?_ ?_
              · repeat' (first | exact trivial | exact rfl | exact (fun _ _ => rfl) | refine And.intro ?_ ?_ | intro _)
              refine AW_seq ?_
              refine AW_all good th7 (th7_ok) rfl rfl ?_ ?_
              · repeat' (first | exact trivial | exact rfl | exact (fun _ _ => rfl) | refine And.intro ?_ ?_ | intro _)
                all_goals exact slOk_lit
              refine AW_ret (bodyQ_ret rfl ?_ (Ends.le rfl ?_ ?_))
              · repeat' (first | exact trivial | exact rfl | exact (fun _ _ => rfl) | refine And.intro ?_ ?_ | intro _)
              · repeat' (first | exact trivial | exact rfl | exact (fun _ _ => rfl) | refine And.intro ?_ ?_ | intro _)
              have h : hpOk a r = true := bnot_f h1
              have h2 : (r == 0) = false := h2
              unfold minX minE
              rw [h, h2]
              exact SLe.of_eq rfl
          )
    )

end Go.Proofs.Ytadgjhbhghhbgaa.Abs
