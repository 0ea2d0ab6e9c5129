/-
  THE CONTRACTS OF THE REFERENCES: With.
-/
import Derived.Test.YtadgjhbhghhbgaaHp9
namespace Go.Proofs.Ytadgjhbhghhbgaa.Abs
open Go
set_option maxRecDepth 10000

/-- Where an item goes in a row. -/
def cutW (s : Sl Item) (x : Item) : Nat := bif decide (idxOf (fun i => !lessI (s.at_ i) x) s.n < 0) then s.n else (idxOf (fun i => !lessI (s.at_ i) x) s.n).toNat
theorem cutW_eq {s : Sl Item} {x : Item} {i : Nat} (hi : i ≤ s.n) (hb : ∀ k, k < i → lessI (s.at_ k) x = true) (hg : i < s.n → lessI (s.at_ i) x = false) : cutW s x = i := by
  unfold cutW
  rcases Nat.lt_or_ge i s.n with h | h
  · rw [idx_found (g := fun i => !lessI (s.at_ i) x) h (by show (!lessI (s.at_ i) x) = true; rw [hg h]; rfl) fun k hk => by show (!lessI (s.at_ k) x) = false; rw [hb k hk]; rfl]
    have : decide ((i : Int) < 0) = false := by simp
    rw [this]
    rfl
  · obtain rfl : i = s.n := by omega
    rw [idx_none (g := fun i => !lessI (s.at_ i) x) fun k hk => by show (!lessI (s.at_ k) x) = false; rw [hb k hk]; rfl]
    rfl
/-- A row with an item, too. -/
def withI (s : Sl Item) (x : Item) : Sl Item := ⟨s.n + 1, fun i => bif Nat.blt i (cutW s x) then s.at_ i else bif Nat.beq i (cutW s x) then x else s.at_ (i - 1)⟩
theorem with_row {s : Sl Item} {x : Item} {i q j : Nat} {D : IV} (hi : i ≤ s.n) (hc : cutW s x = i) (hj : j < 2) :
    (bif Nat.blt q (0 + i + 1) then (bif Nat.blt q (0 + i) then (bif Nat.blt q 0 then D else itE.f (s.at_ (plusN 0 (q - 0))) j) else (itL x).getD (plusN 0 (q - (0 + i)) * 2 + j) ivDef) else itE.f (s.at_ (plusN i (q - (0 + i + 1)))) j) = itE.f ((withI s x).at_ q) j := by
  show _ = itE.f (bif Nat.blt q (cutW s x) then s.at_ q else bif Nat.beq q (cutW s x) then x else s.at_ (q - 1)) j
  rw [hc, Nat.zero_add, plusN_eq, plusN_eq, plusN_eq]
  rcases Nat.lt_trichotomy q i with h | h | h
  · rw [blt_t (by omega : q < i + 1), blt_t h, blt_f (Nat.zero_le q)]
    show itE.f (s.at_ (0 + (q - 0))) j = _
    rw [Nat.zero_add]
    rfl
  · subst h
    rw [blt_t (Nat.lt_succ_self q), blt_f (Nat.le_refl q), Nat.beq_refl, Nat.sub_self]
    match j, hj with
    | 0, _ => rfl
    | 1, _ => rfl
  · rw [blt_f (by omega : i + 1 ≤ q), blt_f (by omega : i ≤ q), beq_f (by omega : q ≠ i), show i + (q - (i + 1)) = q - 1 by omega]
    rfl

set_option maxHeartbeats 1000000 in
theorem refWith (s : Sl Item) (x : Item) (hn : s.n ≤ 512) : PCall Try.prog 21 [.one (.imm (slI itE s)), itC x] (.cv (.one (.imm (slI itE (withI s x))))) := by
  refine PCall_of (ACall_body good Try.func21 rfl 37 rfl (by simp) ?_)
  refine AW_seq ?_
  refine AW_eff good th14 (th14_ok) et0 (et0_ok _) [0] rfl rfl ?_ ?_
  · repeat' (first | exact trivial | exact rfl | exact (fun _ _ => rfl) | refine And.intro ?_ ?_ | intro _)
  refine AW_seq ?_
  refine AW_all good th14 (th14_ok) rfl rfl ?_ ?_
  · repeat' (first | exact trivial | exact rfl | exact (fun _ _ => rfl) | refine And.intro ?_ ?_ | intro _)
  refine AW_seq ?_
  refine AW_block ?_
  refine AW_loopX [0, 3] [] (fun j : { i : Nat // i ≤ s.n ∧ ∀ k, k < i → lessI (s.at_ k) x = true } => [(5, .cv (iint j.1))]) (fun j => []) (fun j => s.n - j.1) ⟨0, Nat.zero_le _, fun k hk => absurd hk (Nat.not_lt_zero k)⟩ ⟨SLe.of_eq rfl, trivial⟩ trivial ?_
  rintro ⟨i, hi, hb⟩
  dsimp only at hi hb ⊢
  refine AW_seq ?_
  refine AW_seq ?_
  refine AW_drwG good rfl th14 (th14_ok) et0 (et0_ok _) [] [0, 0, 2, 7, 15, 31, 31, 127, 255, 31, 1023, 2047] [false, false, false, false, false, false, false, false, false, false, false, false] (by rfl) (by rfl) rfl (by rfl) (by rfl) ?_ ?_ ?_
  · repeat' (first | exact trivial | exact rfl | exact (fun _ _ => rfl) | refine And.intro ?_ ?_ | intro _)
    all_goals (first | (rename_i hg; have h : (i : Int) < (s.n : Int) := (by simpa using hg); exact h) | omega | assumption | (rename_i hg; exact eqt hg))
  · repeat' (first | refine And.intro ?_ ?_ | exact trivial | exact rfl | intro _)
    all_goals assumption
  refine AW_cond rfl (fun h1 => ?_) (fun h1 => ?_)
  · first
    | (exfalso; simp_all; done)
    | (
        refine AW_skip ?_
        refine AW_block ?_
        have hcd : (bif decide ((i : Int) < (s.n : Int)) then lessI (s.at_ i) x else false) = true := h1
        obtain ⟨hlt, hls⟩ : i < s.n ∧ lessI (s.at_ i) x = true := by
          obtain ⟨q1, q2⟩ := band_t hcd
          have := of_decide_eq_true q1
          exact ⟨by omega, q2⟩
        refine AW_all good th14 (th14_ok) rfl rfl ?_ ?_
        · repeat' (first | exact trivial | exact rfl | exact (fun _ _ => rfl) | refine And.intro ?_ ?_ | intro _)
        refine blkQ_normal ?_
        refine loopX_next ⟨i + 1, hlt, fun k hk => ?_⟩ [0] rfl rfl ⟨SLe.of_eq (congrArg (fun z => SV.cv (iint z)) (succ_wrap (by omega))), trivial⟩ ⟨SLe.of_eq rfl, SLe.of_eq rfl, trivial⟩ trivial trivial ?_
        · rcases Nat.lt_succ_iff_lt_or_eq.1 hk with h | h
          · exact hb k h
          · rw [h]
            exact hls
        show s.n - (i + 1) < s.n - i
        omega
    )
  · first
    | (exfalso; simp_all; done)
    | (
        refine AW_exit ?_
        refine AW_seq ?_
        have hcd : (bif decide ((i : Int) < (s.n : Int)) then lessI (s.at_ i) x else false) = false := h1
        have hc : cutW s x = i := cutW_eq hi hb fun hlt => by
          have h : decide ((i : Int) < (s.n : Int)) = true := decide_eq_true (by omega)
          rw [h] at hcd
          exact hcd
        refine AW_all good th14 (th14_ok) rfl rfl ?_ ?_
        · repeat' (first | exact trivial | exact rfl | exact (fun _ _ => rfl) | refine And.intro ?_ ?_ | intro _)
        refine AW_seq ?_
        refine AW_all good th14 (th14_ok) rfl rfl ?_ ?_
        · repeat' (first | exact trivial | exact rfl | exact (fun _ _ => rfl) | refine And.intro ?_ ?_ | intro _)
          all_goals (first | exact Nat.le_refl _ | omega | (unfold maxLen; omega) | exact bytes_ok (by omega) (by decide))
        refine AW_seq ?_
        refine AW_all good th14 (th14_ok) rfl rfl ?_ ?_
        · repeat' (first | exact trivial | exact rfl | exact (fun _ _ => rfl) | refine And.intro ?_ ?_ | intro _)
          all_goals (first | exact Nat.le_refl _ | (unfold maxLen; omega) | exact bytes_ok (by omega) (by decide))
        refine AW_seq ?_
        refine AW_all good th14 (th14_ok) rfl rfl ?_ ?_
        · repeat' (first | exact trivial | exact rfl | exact (fun _ _ => rfl) | refine And.intro ?_ ?_ | intro _)
          all_goals (first | exact Nat.le_refl _ | omega | (unfold maxLen; omega) | exact bytes_ok (by omega) (by decide))
        refine AW_seq ?_
        refine AW_all good th14 (th14_ok) rfl rfl ?_ ?_
        · repeat' (first | exact trivial | exact rfl | exact (fun _ _ => rfl) | refine And.intro ?_ ?_ | intro _)
        refine AW_ret (bodyQ_ret rfl ?_ (Ends.le rfl ?_ ?_))
        · repeat' (first | exact trivial | exact rfl | exact (fun _ _ => rfl) | refine And.intro ?_ ?_ | intro _)
        · repeat' (first | exact trivial | exact rfl | exact (fun _ _ => rfl) | refine And.intro ?_ ?_ | intro _)
          all_goals omega
        have e1 : ((i : Int) - 0).toNat = i := by omega
        refine SLe.cv (CLe.imm (ILe.sl (show s.n + 1 = 0 + ((i : Int) - 0).toNat + 1 + ((s.n : Int) - i).toNat by omega) (by simp) (.inr ⟨rfl, fun q j hq hj => ILe.of_eq ?_⟩)))
        rw [e1]
        exact with_row hi hc hj
    )

end Go.Proofs.Ytadgjhbhghhbgaa.Abs
