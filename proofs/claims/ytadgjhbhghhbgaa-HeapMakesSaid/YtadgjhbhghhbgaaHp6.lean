/-
  THE CONTRACTS OF PACKAGE arena: Reach, all of it.
-/
import Derived.Test.YtadgjhbhghhbgaaHp5
namespace Go.Proofs.Ytadgjhbhghhbgaa.Abs
open Go
set_option maxRecDepth 10000

theorem visYes : ∀ k, VisAt k
  | 0 => fun _ _ _ _ _ h _ => absurd h (Nat.not_lt_zero _)
  | k + 1 => fun a r s l h1 h2 h3 => visYes_step k (visYes k) a r s l h1 h2 h3
/-- The visiting function's variable, by the names of what it captured. -/
def visBn (a : Ar) (s o v : Nat) : ABlk := .var 130 [fnV 71 [(ptrA arE).enc a, .own s 0 0 0, .own o 0 0 0, .own v 0 0 0]]
theorem visBn_mk {a : Ar} {s o v : Nat} {f : FuncId} {first caps : Nat → AV} (hf : f = 71) (h0 : caps 0 = (ptrA arE).enc a) (h1 : caps 1 = .own s 0 0 0) (h2 : caps 2 = .own o 0 0 0) (h3 : caps 3 = .own v 0 0 0) : BLe (.var 130 [.fn (.func f) 0 first 4 caps]) (visBn a s o v) := BLe.var ⟨hf ▸ CLe.fn (fun i hi => absurd hi (Nat.not_lt_zero i)) fun i hi => (by
  match i, hi with
  | 0, _ => exact CLe.of_eq (congrArg CV.one h0)
  | 1, _ => exact CLe.of_eq (congrArg CV.one h1)
  | 2, _ => exact CLe.of_eq (congrArg CV.one h2)
  | 3, _ => exact CLe.of_eq (congrArg CV.one h3)), trivial⟩
theorem visBn_le {a : Ar} {ρ : Nat → Nat} {s o v : Nat} (h0 : ρ s = s) (h1 : ρ o = o) (h2 : ρ v = v) : BLe (visBn a s o v) (renB ρ (visBn a s o v)) := BLe.var ⟨CLe.fn (fun i hi => absurd hi (Nat.not_lt_zero i)) fun i hi => (by
  match i, hi with
  | 0, _ => exact CLe.refl _
  | 1, _ => exact CLe.of_eq (by show CV.one (AV.own s 0 0 0) = .one (.own (ρ s) 0 0 0); rw [h0])
  | 2, _ => exact CLe.of_eq (by show CV.one (AV.own o 0 0 0) = .one (.own (ρ o) 0 0 0); rw [h1])
  | 3, _ => exact CLe.of_eq (by show CV.one (AV.own v 0 0 0) = .one (.own (ρ v) 0 0 0); rw [h2])), trivial⟩
theorem visBn_le2 {a : Ar} {ρ' ρ : Nat → Nat} {s o v : Nat} (h0 : ρ' 0 = ρ s) (h1 : ρ' 1 = ρ o) (h2 : ρ' 2 = ρ v) : BLe (renB ρ' (visB a)) (renB ρ (visBn a s o v)) := BLe.var ⟨CLe.fn (fun i hi => absurd hi (Nat.not_lt_zero i)) fun i hi => (by
  match i, hi with
  | 0, _ => exact CLe.refl _
  | 1, _ => exact CLe.of_eq (by show CV.one (AV.own (ρ' 0) 0 0 0) = .one (.own (ρ s) 0 0 0); rw [h0])
  | 2, _ => exact CLe.of_eq (by show CV.one (AV.own (ρ' 1) 0 0 0) = .one (.own (ρ o) 0 0 0); rw [h1])
  | 3, _ => exact CLe.of_eq (by show CV.one (AV.own (ρ' 2) 0 0 0) = .one (.own (ρ v) 0 0 0); rw [h2])), trivial⟩
/-- Visits from references on, one behind the other. -/
def rootsF (a : Ar) (f : Nat → Int) : Nat → VS
  | 0 => (fun _ => false, ⟨0, fun _ => 0⟩)
  | i + 1 => reF a (a.nodes.n + 1) (f i) (rootsF a f i)
theorem rootsF_vle (a : Ar) (f : Nat → Int) : ∀ i, VLe a (fun _ => false, ⟨0, fun _ => 0⟩) (rootsF a f i)
  | 0 => VLe.refl _ _
  | i + 1 => (rootsF_vle a f i).trans (reF_vle a _ _ _)
def reachR (a : Ar) (l : Sl Int) : Sl Int := bif rightB a then (rootsF a l.at_ l.n).2 else ⟨0, fun _ => 0⟩
def reachE (a : Ar) : Int := bif rightB a then 0 else 1
noncomputable def reachL : Ar → Sl Int → Sl Int := lock reachR
theorem reachL_eq : reachL = reachR := lock_eq _

set_option maxHeartbeats 1000000 in
theorem arenaReach (a : Ar) (l : Sl Int) : PCall Try.prog 55 [arC a, .one (.imm (slI refE l))] (.tup [.one (.imm (slI intE (reachL a l))), iint (reachE a)]) := by
  refine PCall_of (ACall_body good Try.func55 rfl 30 rfl (by simp) ?_)
  rw [reachL_eq]
  refine AW_lenle 1 rfl (fun hm => ?_)
  refine AW_seq ?_
  refine AW_eff good th8 (th8_ok) et0 (et0_ok _) [0] rfl rfl ?_ ?_
  · repeat' (first | exact trivial | exact rfl | exact (fun _ _ => rfl) | refine And.intro ?_ ?_ | intro _)
  refine AW_seq ?_
  refine AW_seq ?_
  refine AW_all good th8 (th8_ok) rfl rfl ?_ ?_
  · repeat' (first | exact trivial | exact rfl | exact (fun _ _ => rfl) | refine And.intro ?_ ?_ | intro _)
    all_goals exact slOk_lit
  refine AW_cond rfl (fun h1 => ?_) (fun h1 => ?_)
  · first
    | (exfalso; simp_all; done)
    | (
        refine AW_seq ?_
        refine AW_all good th8 (th8_ok) rfl rfl ?_ ?_
        · repeat' (first | exact trivial | exact rfl | exact (fun _ _ => rfl) | refine And.intro ?_ ?_ | intro _)
        refine AW_ret (bodyQ_ret rfl ?_ (Ends.le rfl ?_ ?_))
        · repeat' (first | exact trivial | exact rfl | exact (fun _ _ => rfl) | refine And.intro ?_ ?_ | intro _)
        · repeat' (first | exact trivial | exact rfl | exact (fun _ _ => rfl) | refine And.intro ?_ ?_ | intro _)
        have h : rightB a = false := bnot_t h1
        unfold reachR reachE
        rw [h]
        exact SLe.pair (CLe.imm (ILe.sl rfl (by simp) (.inl rfl))) (CLe.of_eq rfl)
    )
  · first
    | (exfalso; simp_all; done)
    | (
        refine AW_skip ?_
        refine AW_seq ?_
        have hr : rightB a = true := bnot_f h1
        have hs2 := (right_facts hr).1.2.1
        refine AW_all good th8 (th8_ok) rfl rfl ?_ ?_
        · repeat' (first | exact trivial | exact rfl | exact (fun _ _ => rfl) | refine And.intro ?_ ?_ | intro _)
        refine AW_seq ?_
        refine AW_all good th8 (th8_ok) rfl rfl ?_ ?_
        · repeat' (first | exact trivial | exact rfl | exact (fun _ _ => rfl) | refine And.intro ?_ ?_ | intro _)
          all_goals (first | omega | exact bytes_okI (by omega) (by omega) (by decide))
        refine AW_seq ?_
        refine AW_all good th8 (th8_ok) rfl rfl ?_ ?_
        · repeat' (first | exact trivial | exact rfl | exact (fun _ _ => rfl) | refine And.intro ?_ ?_ | intro _)
        refine AW_seq ?_
        refine AW_all good th8 (th8_ok) rfl rfl ?_ ?_
        · repeat' (first | exact trivial | exact rfl | exact (fun _ _ => rfl) | refine And.intro ?_ ?_ | intro _)
        refine AW_seq ?_
        refine AW_seq ?_
        refine AW_all good th8 (th8_ok) rfl rfl ?_ ?_
        · repeat' (first | exact trivial | exact rfl | exact (fun _ _ => rfl) | refine And.intro ?_ ?_ | intro _)
        refine AW_block ?_
        refine AW_absent 3 1 (fun _ _ => .val (.int .i64 0)) ?_
        refine AW_blk 1 rfl (B := .var 22 [.osl 7 1 0 0 0 true]) (BLe.var ⟨CLe.empty, trivial⟩) ?_
        refine AW_blk 3 rfl (B := .var 129 [.osl 2 1 0 0 a.nodes.n false]) (BLe.var ⟨CLe.oslf, trivial⟩) ?_
        refine AW_blk 2 rfl (B := bkR 4 boolE ⟨a.nodes.n, fun _ => false⟩) (BLe.rows rfl fun i j hi hj => ILe.of_eq ?_) ?_
        · obtain rfl : j = 0 := by
            have : j < 1 := hj
            omega
          rfl
        refine AW_blk 5 rfl (B := visBn a 3 1 5) (visBn_mk rfl rfl rfl rfl rfl) ?_
        refine AW_loopX [6, 8, 19, 20] [3, 5] (fun j : { i : Nat // i ≤ l.n } => [(21, .cv (iint j.1))]) (fun j => [(1, .var 22 [.osl 7 1 0 0 (rootsF a l.at_ j.1).2.n true]), (2, bkR 4 boolE ⟨a.nodes.n, (rootsF a l.at_ j.1).1⟩), (7, bkR 3 intE (rootsF a l.at_ j.1).2)]) (fun j => l.n - j.1) ⟨0, Nat.zero_le _⟩ ⟨SLe.of_eq rfl, trivial⟩ ⟨⟨_, rfl, BLe.of_eq rfl⟩, ⟨_, rfl, BLe.of_eq rfl⟩, ⟨_, rfl, BLe.of_eq rfl⟩, trivial⟩ ?_
        rintro ⟨i, hi⟩
        dsimp only at hi ⊢
        have hc : cntB (rootsF a l.at_ i).1 a.nodes.n < a.nodes.n + 1 := cntB_lt _ _
        have hl2 : (rootsF a l.at_ i).2.n + cntB (rootsF a l.at_ i).1 a.nodes.n ≤ 512 := by
          have h := (rootsF_vle a l.at_ i).2
          have h2 := cntB_lt (fun _ => false) a.nodes.n
          dsimp only at h
          omega
        refine AW_seq ?_
        refine AW_all good th8 (th8_ok) rfl rfl ?_ ?_
        · repeat' (first | exact trivial | exact rfl | exact (fun _ _ => rfl) | refine And.intro ?_ ?_ | intro _)
        refine AW_seq ?_
        refine AW_cond rfl (fun h2 => ?_) (fun h2 => ?_)
        · first
          | (exfalso; simp_all; done)
          | (
              refine AW_skip ?_
              refine AW_seq ?_
              refine AW_block ?_
              refine AW_seq ?_
              have hlt : i < l.n := by simpa using h2
              refine AW_all good th8 (th8_ok) rfl rfl ?_ ?_
              · repeat' (first | exact trivial | exact rfl | exact (fun _ _ => rfl) | refine And.intro ?_ ?_ | intro _)
                all_goals omega
              refine AW_viaX [6, 8, 19, 20, 21] [3, 5] (fun j : Unit => []) (fun j => [(1, .var 22 [.osl 7 1 0 0 (rootsF a l.at_ (i + 1)).2.n true]), (2, bkR 4 boolE ⟨a.nodes.n, (rootsF a l.at_ (i + 1)).1⟩), (7, bkR 3 intE (rootsF a l.at_ (i + 1)).2)]) (fun j => ?_) ?_
              · skip
                refine AW_all good th8 (th8_ok) rfl rfl ?_ ?_
                · repeat' (first | exact trivial | exact rfl | exact (fun _ _ => rfl) | refine And.intro ?_ ?_ | intro _)
                refine loopX_next ⟨i + 1, hlt⟩ [0, 1, 2, 3, 4, 5, 6, 7] rfl rfl ⟨SLe.of_eq (congrArg (fun z => SV.cv (iint z)) (next_int i l.n hlt hm)), trivial⟩ ⟨SLe.of_eq rfl, SLe.of_eq rfl, SLe.of_eq rfl, SLe.of_eq rfl, trivial⟩ ⟨⟨rfl, _, rfl, BLe.of_eq rfl⟩, ⟨rfl, _, rfl, BLe.of_eq rfl⟩, ⟨rfl, _, rfl, BLe.of_eq rfl⟩, trivial⟩ ⟨⟨rfl, _, _, rfl, rfl, BLe.of_eq rfl⟩, ⟨rfl, _, _, rfl, rfl, visBn_le rfl rfl rfl⟩, trivial⟩ ?_
                show l.n - (i + 1) < l.n - i
                omega
              cases hb : visBad a (l.at_ i) (rootsF a l.at_ i).1 with
              | true =>
                have hs : rootsF a l.at_ (i + 1) = rootsF a l.at_ i := reF_no hb _
                refine AW_eff good th8 (th8_ok) eVn (eVn_ok visNo_all) [] rfl rfl ?_ ?_
                · repeat' (first | exact trivial | exact rfl | exact (fun _ _ => rfl) | refine And.intro ?_ ?_ | intro _)
                  all_goals (first | exact hb | exact slOk_lit)
                refine joinX_end () [0, 1, 2, 3, 4, 5, 6, 7] rfl rfl trivial ⟨SLe.of_eq rfl, SLe.of_eq rfl, SLe.of_eq rfl, SLe.of_eq rfl, SLe.of_eq rfl, trivial⟩ ⟨⟨rfl, _, rfl, BLe.of_eq (by rw [hs]; rfl)⟩, ⟨rfl, _, rfl, BLe.of_eq (by rw [hs]; rfl)⟩, ⟨rfl, _, rfl, BLe.of_eq (by rw [hs]; rfl)⟩, trivial⟩ ⟨⟨rfl, _, _, rfl, rfl, BLe.of_eq rfl⟩, ⟨rfl, _, _, rfl, rfl, visBn_le2 rfl rfl rfl⟩, trivial⟩
              | false =>
                refine AW_eff good th8 (th8_ok) (eVy (a.nodes.n + 1)) (eVy_ok (visYes _)) [] rfl rfl ?_ ?_
                · repeat' (first | exact trivial | exact rfl | exact (fun _ _ => rfl) | refine And.intro ?_ ?_ | intro _)
                  all_goals (first | exact hb | exact hc | exact hl2 | exact slOk_lit)
                refine joinX_end () [0, 1, 2, 3, 4, 5, 6, 8] rfl rfl trivial ⟨SLe.of_eq rfl, SLe.of_eq rfl, SLe.of_eq rfl, SLe.of_eq rfl, SLe.of_eq rfl, trivial⟩ ⟨⟨rfl, _, rfl, BLe.of_eq rfl⟩, ⟨rfl, _, rfl, BLe.of_eq rfl⟩, ⟨rfl, _, rfl, BLe.of_eq rfl⟩, trivial⟩ ⟨⟨rfl, _, _, rfl, rfl, BLe.of_eq rfl⟩, ⟨rfl, _, _, rfl, rfl, visBn_le2 rfl rfl rfl⟩, trivial⟩
          )
        · first
          | (exfalso; simp_all; done)
          | (
              refine AW_exit ?_
              refine AW_seq ?_
              refine AW_all good th8 (th8_ok) rfl rfl ?_ ?_
              · repeat' (first | exact trivial | exact rfl | exact (fun _ _ => rfl) | refine And.intro ?_ ?_ | intro _)
              refine AW_ret (bodyQ_ret rfl ?_ (Ends.le rfl ?_ ?_))
              · repeat' (first | exact trivial | exact rfl | exact (fun _ _ => rfl) | refine And.intro ?_ ?_ | intro _)
              · repeat' (first | exact trivial | exact rfl | exact (fun _ _ => rfl) | refine And.intro ?_ ?_ | intro _)
                all_goals omega
              have hin : i = l.n := by
                have : ¬ i < l.n := by simpa using h2
                omega
              subst hin
              unfold reachR reachE
              rw [hr]
              exact SLe.of_eq rfl
          )
    )

end Go.Proofs.Ytadgjhbhghhbgaa.Abs
