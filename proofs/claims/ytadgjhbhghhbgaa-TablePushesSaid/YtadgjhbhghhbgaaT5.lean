/-
  THE CONTRACTS OF PACKAGE table (2): Open, Shut.
-/
import Derived.Test.YtadgjhbhghhbgaaT4
namespace Go.Proofs.Ytadgjhbhghhbgaa.Abs
open Go
set_option maxRecDepth 10000

def idxT (t : Tbl) : Int := idxOf (fun i => (-1 : Int) == t.sn i) t.ns
def openE (t : Tbl) : Int := bif shp t then (bif decide (idxT t < 0) then 7 else 0) else 1
def openT (t : Tbl) : Tbl := bif openE t == 0 then ⟨t.nr, t.rc, t.np, t.pn, t.ns, fun i => bif Nat.beq i (idxT t).toNat then (nowR t).no else t.sn i⟩ else zeroT
def openH (t : Tbl) : Int := bif openE t == 0 then idxT t else 0
theorem zero_tbl : CLe (.agg [.imm (ivOf (.slice none 0 0)), .imm (ivOf (.slice none 0 0)), .imm (ivOf (.slice none 0 0))]) (tblC zeroT) :=
  CLe.aggL ⟨CLe.imm (ILe.sl rfl (by simp) (.inl rfl)), CLe.imm (ILe.sl rfl (by simp) (.inl rfl)), CLe.imm (ILe.sl rfl (by simp) (.inl rfl)), trivial⟩
theorem idxT_range {t : Tbl} (h : decide (idxT t < 0) = false) : 0 ≤ idxT t ∧ idxT t < t.ns := by
  have h := of_decide_eq_false h
  unfold idxT at h ⊢
  rcases idx_cases (fun i => (-1 : Int) == t.sn i) t.ns with ⟨h1, _⟩ | ⟨i, h1, h2, _⟩ <;> omega

theorem open12 (t : Tbl) : PCall Try.prog 12 [tblC t] (.tup [tblC (openT t), iint (openH t), iint (openE t)]) := by
  refine PCall_of (ACall_body good Try.func12 rfl 35 rfl (by simp) ?_)
  refine AW_seq ?_
  refine AW_all good tabP1 tabP1_ok rfl rfl ?_ ?_
  · repeat' (first | exact trivial | exact rfl | exact (fun _ _ => rfl) | refine And.intro ?_ ?_ | intro _)
    all_goals (first | omega | exact of_decide_eq_true (by assumption) | decide | exact hmx | exact hbytes | exact hh3 | exact hh.1 | exact hh.2 | exact recs_lit | exact ints_lit | (rename_i hg; exact hg) | (rename_i hg; change (_ : Bool) = true; rw [hg]; rfl) | (rename_i hg; exact shut_in hg) | (rename_i hg; exact (shut_in hg).1) | (rename_i hg; exact (shut_in hg).2) | (change (_ : Bool) = true; simp_all; done) | trace_state)
  refine AW_seq ?_
  refine AW_all good tabP1 tabP1_ok rfl rfl ?_ ?_
  · repeat' (first | exact trivial | exact rfl | exact (fun _ _ => rfl) | refine And.intro ?_ ?_ | intro _)
    all_goals (first | omega | exact of_decide_eq_true (by assumption) | decide | exact hmx | exact hbytes | exact hh3 | exact hh.1 | exact hh.2 | exact recs_lit | exact ints_lit | (rename_i hg; exact hg) | (rename_i hg; change (_ : Bool) = true; rw [hg]; rfl) | (rename_i hg; exact shut_in hg) | (rename_i hg; exact (shut_in hg).1) | (rename_i hg; exact (shut_in hg).2) | (change (_ : Bool) = true; simp_all; done) | trace_state)
  refine AW_seq ?_
  refine AW_seq ?_
  refine AW_all good tabP1 tabP1_ok rfl rfl ?_ ?_
  · repeat' (first | exact trivial | exact rfl | exact (fun _ _ => rfl) | refine And.intro ?_ ?_ | intro _)
    all_goals (first | omega | exact of_decide_eq_true (by assumption) | decide | exact hmx | exact hbytes | exact hh3 | exact hh.1 | exact hh.2 | exact recs_lit | exact ints_lit | (rename_i hg; exact hg) | (rename_i hg; change (_ : Bool) = true; rw [hg]; rfl) | (rename_i hg; exact shut_in hg) | (rename_i hg; exact (shut_in hg).1) | (rename_i hg; exact (shut_in hg).2) | (change (_ : Bool) = true; simp_all; done) | trace_state)
  refine AW_cond rfl (fun h1 => ?_) (fun h1 => ?_)
  · first
    | (exfalso; simp_all; done)
    | (
        refine AW_seq ?_
        refine AW_all good tabP1 tabP1_ok rfl rfl ?_ ?_
        · repeat' (first | exact trivial | exact rfl | exact (fun _ _ => rfl) | refine And.intro ?_ ?_ | intro _)
          all_goals (first | omega | exact of_decide_eq_true (by assumption) | decide | exact hmx | exact hbytes | exact hh3 | exact hh.1 | exact hh.2 | exact recs_lit | exact ints_lit | (rename_i hg; exact hg) | (rename_i hg; change (_ : Bool) = true; rw [hg]; rfl) | (rename_i hg; exact shut_in hg) | (rename_i hg; exact (shut_in hg).1) | (rename_i hg; exact (shut_in hg).2) | (change (_ : Bool) = true; simp_all; done) | trace_state)
        refine AW_ret (bodyQ_ret rfl ?_ (Ends.le rfl ?_ ?_))
        · repeat' (first | exact trivial | exact rfl | exact (fun _ _ => rfl) | refine And.intro ?_ ?_ | intro _)
          all_goals (first | omega | exact of_decide_eq_true (by assumption) | decide | exact hmx | exact hbytes | exact hh3 | exact hh.1 | exact hh.2 | exact recs_lit | exact ints_lit | (rename_i hg; exact hg) | (rename_i hg; change (_ : Bool) = true; rw [hg]; rfl) | (rename_i hg; exact shut_in hg) | (rename_i hg; exact (shut_in hg).1) | (rename_i hg; exact (shut_in hg).2) | (change (_ : Bool) = true; simp_all; done) | trace_state)
        · repeat' (first | exact trivial | exact rfl | exact (fun _ _ => rfl) | refine And.intro ?_ ?_ | intro _)
          all_goals (first | omega | exact of_decide_eq_true (by assumption) | decide | exact hmx | exact hbytes | exact hh3 | exact hh.1 | exact hh.2 | exact recs_lit | exact ints_lit | (rename_i hg; exact hg) | (rename_i hg; change (_ : Bool) = true; rw [hg]; rfl) | (rename_i hg; exact shut_in hg) | (rename_i hg; exact (shut_in hg).1) | (rename_i hg; exact (shut_in hg).2) | (change (_ : Bool) = true; simp_all; done) | trace_state)
        have hs : shp t = false := by
          have h : ((bif shp t then (0 : Int) else 1) != 0) = true := h1
          cases hq : shp t with
          | false => rfl
          | true => rw [hq] at h; cases h
        have hE : openE t = 1 := by unfold openE; rw [hs]; rfl
        unfold openT openH
        rw [hE]
        refine SLe.triple zero_tbl (CLe.of_eq rfl) (CLe.of_eq ?_)
        show iint (bif shp t then 0 else 1) = _
        rw [hs]
        rfl
    )
  · first
    | (exfalso; simp_all; done)
    | (
        refine AW_skip ?_
        refine AW_seq ?_
        have hs : shp t = true := by
          have h : ((bif shp t then (0 : Int) else 1) != 0) = false := h1
          cases hq : shp t with
          | true => rfl
          | false => rw [hq] at h; cases h
        obtain ⟨f1, f2, f3⟩ := shp_facts hs
        refine AW_all good tabP1 tabP1_ok rfl rfl ?_ ?_
        · repeat' (first | exact trivial | exact rfl | exact (fun _ _ => rfl) | refine And.intro ?_ ?_ | intro _)
          all_goals (first | omega | exact of_decide_eq_true (by assumption) | decide | exact hmx | exact hbytes | exact hh3 | exact hh.1 | exact hh.2 | exact recs_lit | exact ints_lit | (rename_i hg; exact hg) | (rename_i hg; change (_ : Bool) = true; rw [hg]; rfl) | (rename_i hg; exact shut_in hg) | (rename_i hg; exact (shut_in hg).1) | (rename_i hg; exact (shut_in hg).2) | (change (_ : Bool) = true; simp_all; done) | trace_state)
        refine AW_seq ?_
        refine AW_seq ?_
        refine AW_all good tabP1 tabP1_ok rfl rfl ?_ ?_
        · repeat' (first | exact trivial | exact rfl | exact (fun _ _ => rfl) | refine And.intro ?_ ?_ | intro _)
          all_goals (first | omega | exact of_decide_eq_true (by assumption) | decide | exact hmx | exact hbytes | exact hh3 | exact hh.1 | exact hh.2 | exact recs_lit | exact ints_lit | (rename_i hg; exact hg) | (rename_i hg; change (_ : Bool) = true; rw [hg]; rfl) | (rename_i hg; exact shut_in hg) | (rename_i hg; exact (shut_in hg).1) | (rename_i hg; exact (shut_in hg).2) | (change (_ : Bool) = true; simp_all; done) | trace_state)
        refine AW_cond rfl (fun h2 => ?_) (fun h2 => ?_)
        · first
          | (exfalso; simp_all; done)
          | (
              refine AW_seq ?_
              refine AW_all good tabP1 tabP1_ok rfl rfl ?_ ?_
              · repeat' (first | exact trivial | exact rfl | exact (fun _ _ => rfl) | refine And.intro ?_ ?_ | intro _)
                all_goals (first | omega | exact of_decide_eq_true (by assumption) | decide | exact hmx | exact hbytes | exact hh3 | exact hh.1 | exact hh.2 | exact recs_lit | exact ints_lit | (rename_i hg; exact hg) | (rename_i hg; change (_ : Bool) = true; rw [hg]; rfl) | (rename_i hg; exact shut_in hg) | (rename_i hg; exact (shut_in hg).1) | (rename_i hg; exact (shut_in hg).2) | (change (_ : Bool) = true; simp_all; done) | trace_state)
              refine AW_ret (bodyQ_ret rfl ?_ (Ends.le rfl ?_ ?_))
              · repeat' (first | exact trivial | exact rfl | exact (fun _ _ => rfl) | refine And.intro ?_ ?_ | intro _)
                all_goals (first | omega | exact of_decide_eq_true (by assumption) | decide | exact hmx | exact hbytes | exact hh3 | exact hh.1 | exact hh.2 | exact recs_lit | exact ints_lit | (rename_i hg; exact hg) | (rename_i hg; change (_ : Bool) = true; rw [hg]; rfl) | (rename_i hg; exact shut_in hg) | (rename_i hg; exact (shut_in hg).1) | (rename_i hg; exact (shut_in hg).2) | (change (_ : Bool) = true; simp_all; done) | trace_state)
              · repeat' (first | exact trivial | exact rfl | exact (fun _ _ => rfl) | refine And.intro ?_ ?_ | intro _)
                all_goals (first | omega | exact of_decide_eq_true (by assumption) | decide | exact hmx | exact hbytes | exact hh3 | exact hh.1 | exact hh.2 | exact recs_lit | exact ints_lit | (rename_i hg; exact hg) | (rename_i hg; change (_ : Bool) = true; rw [hg]; rfl) | (rename_i hg; exact shut_in hg) | (rename_i hg; exact (shut_in hg).1) | (rename_i hg; exact (shut_in hg).2) | (change (_ : Bool) = true; simp_all; done) | trace_state)
              have hE : openE t = 7 := by
                have h2' : decide (idxT t < 0) = true := h2
                unfold openE; rw [hs, h2']; rfl
              unfold openT openH
              rw [hE]
              exact SLe.triple zero_tbl (CLe.of_eq rfl) (CLe.of_eq rfl)
          )
        · first
          | (exfalso; simp_all; done)
          | (
              refine AW_skip ?_
              refine AW_seq ?_
              have h2' : decide (idxT t < 0) = false := h2
              have hh := idxT_range h2'
              have hh3 : 0 + (idxT t).toNat < t.ns := by omega
              have hbytes : t.ns * 8 ≤ 140737488355328 := by omega
              have hmx : t.ns ≤ maxLen := by simp only [maxLen]; omega
              refine AW_eff good tabP1 tabP1_ok etC etC_ok [] rfl rfl ?_ ?_
              · repeat' (first | exact trivial | exact rfl | exact (fun _ _ => rfl) | refine And.intro ?_ ?_ | intro _)
                all_goals (first | omega | exact of_decide_eq_true (by assumption) | decide | exact hmx | exact hbytes | exact hh3 | exact hh.1 | exact hh.2 | exact recs_lit | exact ints_lit | (rename_i hg; exact hg) | (rename_i hg; change (_ : Bool) = true; rw [hg]; rfl) | (rename_i hg; exact shut_in hg) | (rename_i hg; exact (shut_in hg).1) | (rename_i hg; exact (shut_in hg).2) | (change (_ : Bool) = true; simp_all; done) | trace_state)
              refine AW_seq ?_
              refine AW_all good tabP1 tabP1_ok rfl rfl ?_ ?_
              · repeat' (first | exact trivial | exact rfl | exact (fun _ _ => rfl) | refine And.intro ?_ ?_ | intro _)
                all_goals (first | omega | exact of_decide_eq_true (by assumption) | decide | exact hmx | exact hbytes | exact hh3 | exact hh.1 | exact hh.2 | exact recs_lit | exact ints_lit | (rename_i hg; exact hg) | (rename_i hg; change (_ : Bool) = true; rw [hg]; rfl) | (rename_i hg; exact shut_in hg) | (rename_i hg; exact (shut_in hg).1) | (rename_i hg; exact (shut_in hg).2) | (change (_ : Bool) = true; simp_all; done) | trace_state)
              refine AW_seq ?_
              refine AW_all good tabP1 tabP1_ok rfl rfl ?_ ?_
              · repeat' (first | exact trivial | exact rfl | exact (fun _ _ => rfl) | refine And.intro ?_ ?_ | intro _)
                all_goals (first | omega | exact of_decide_eq_true (by assumption) | decide | exact hmx | exact hbytes | exact hh3 | exact hh.1 | exact hh.2 | exact recs_lit | exact ints_lit | (rename_i hg; exact hg) | (rename_i hg; change (_ : Bool) = true; rw [hg]; rfl) | (rename_i hg; exact shut_in hg) | (rename_i hg; exact (shut_in hg).1) | (rename_i hg; exact (shut_in hg).2) | (change (_ : Bool) = true; simp_all; done) | trace_state)
              refine AW_ret (bodyQ_ret rfl ?_ (Ends.le rfl ?_ ?_))
              · repeat' (first | exact trivial | exact rfl | exact (fun _ _ => rfl) | refine And.intro ?_ ?_ | intro _)
                all_goals (first | omega | exact of_decide_eq_true (by assumption) | decide | exact hmx | exact hbytes | exact hh3 | exact hh.1 | exact hh.2 | exact recs_lit | exact ints_lit | (rename_i hg; exact hg) | (rename_i hg; change (_ : Bool) = true; rw [hg]; rfl) | (rename_i hg; exact shut_in hg) | (rename_i hg; exact (shut_in hg).1) | (rename_i hg; exact (shut_in hg).2) | (change (_ : Bool) = true; simp_all; done) | trace_state)
              · repeat' (first | exact trivial | exact rfl | exact (fun _ _ => rfl) | refine And.intro ?_ ?_ | intro _)
                all_goals (first | omega | exact of_decide_eq_true (by assumption) | decide | exact hmx | exact hbytes | exact hh3 | exact hh.1 | exact hh.2 | exact recs_lit | exact ints_lit | (rename_i hg; exact hg) | (rename_i hg; change (_ : Bool) = true; rw [hg]; rfl) | (rename_i hg; exact shut_in hg) | (rename_i hg; exact (shut_in hg).1) | (rename_i hg; exact (shut_in hg).2) | (change (_ : Bool) = true; simp_all; done) | trace_state)
              have hE : openE t = 0 := by
                unfold openE; rw [hs, h2']; rfl
              unfold openT openH
              rw [hE]
              refine SLe.triple (CLe.aggL ⟨CLe.of_eq rfl, CLe.of_eq rfl, CLe.imm (ILe.sl rfl (by simp) (.inr ⟨rfl, fun i j hi hj => ILe.of_eq ?_⟩)), trivial⟩) (CLe.of_eq rfl) (CLe.of_eq rfl)
              obtain rfl : j = 0 := by
                have : j < 1 := hj
                omega
              show (bif Nat.beq (0 + i) (0 + (idxT t).toNat) && (Nat.ble 0 0 && Nat.blt 0 (0 + 1)) then [IV.val (.int .i64 (nowR t).no)].getD (0 - 0) ivDef else IV.val (.int .i64 (t.sn (0 + i)))) = IV.val (.int .i64 (bif Nat.beq i (idxT t).toNat then (nowR t).no else t.sn i))
              rw [Nat.zero_add, Nat.zero_add]
              cases Nat.beq i (idxT t).toNat <;> rfl
          )
    )

def badH (t : Tbl) (h : Int) : Bool := bif decide (h < 0) then true else decide (h ≥ t.ns)
theorem shut_in {n : Nat} {h : Int} (hg : ((bif decide (h < 0) then true else decide (h ≥ n)) == false) = true) : 0 ≤ h ∧ h < n := by
  cases h1 : decide (h < 0) with
  | true => rw [h1] at hg; cases hg
  | false =>
    rw [h1] at hg
    have hg : (decide (h ≥ n) == false) = true := hg
    rw [beq_iff_eq] at hg
    have h1 := of_decide_eq_false h1
    have hg := of_decide_eq_false hg
    omega
def shutE (t : Tbl) (h : Int) : Int := bif shp t then (bif (bif badH t h then true else (t.sn h.toNat == -1)) then 8 else 0) else 1
def shutT (t : Tbl) (h : Int) : Tbl := bif shutE t h == 0 then ⟨t.nr, t.rc, t.np, t.pn, t.ns, fun i => bif Nat.beq i h.toNat then -1 else t.sn i⟩ else zeroT
theorem shut14 (t : Tbl) (h : Int) : PCall Try.prog 14 [tblC t, iint h] (.tup [tblC (shutT t h), iint (shutE t h)]) := by
  refine PCall_of (ACall_body good Try.func14 rfl 39 rfl (by simp) ?_)
  refine AW_seq ?_
  refine AW_all good tabP1 tabP1_ok rfl rfl ?_ ?_
  · repeat' (first | exact trivial | exact rfl | exact (fun _ _ => rfl) | refine And.intro ?_ ?_ | intro _)
    all_goals (first | omega | exact of_decide_eq_true (by assumption) | decide | exact hmx | exact hbytes | exact hh3 | exact hh.1 | exact hh.2 | exact recs_lit | exact ints_lit | (rename_i hg; exact hg) | (rename_i hg; change (_ : Bool) = true; rw [hg]; rfl) | (rename_i hg; exact shut_in hg) | (rename_i hg; exact (shut_in hg).1) | (rename_i hg; exact (shut_in hg).2) | (change (_ : Bool) = true; simp_all; done) | trace_state)
  refine AW_seq ?_
  refine AW_block ?_
  refine AW_seq ?_
  refine AW_all good tabP1 tabP1_ok rfl rfl ?_ ?_
  · repeat' (first | exact trivial | exact rfl | exact (fun _ _ => rfl) | refine And.intro ?_ ?_ | intro _)
    all_goals (first | omega | exact of_decide_eq_true (by assumption) | decide | exact hmx | exact hbytes | exact hh3 | exact hh.1 | exact hh.2 | exact recs_lit | exact ints_lit | (rename_i hg; exact hg) | (rename_i hg; change (_ : Bool) = true; rw [hg]; rfl) | (rename_i hg; exact shut_in hg) | (rename_i hg; exact (shut_in hg).1) | (rename_i hg; exact (shut_in hg).2) | (change (_ : Bool) = true; simp_all; done) | trace_state)
  refine AW_cond rfl (fun h1 => ?_) (fun h1 => ?_)
  · first
    | (exfalso; simp_all; done)
    | (
        refine AW_seq ?_
        refine AW_all good tabP1 tabP1_ok rfl rfl ?_ ?_
        · repeat' (first | exact trivial | exact rfl | exact (fun _ _ => rfl) | refine And.intro ?_ ?_ | intro _)
          all_goals (first | omega | exact of_decide_eq_true (by assumption) | decide | exact hmx | exact hbytes | exact hh3 | exact hh.1 | exact hh.2 | exact recs_lit | exact ints_lit | (rename_i hg; exact hg) | (rename_i hg; change (_ : Bool) = true; rw [hg]; rfl) | (rename_i hg; exact shut_in hg) | (rename_i hg; exact (shut_in hg).1) | (rename_i hg; exact (shut_in hg).2) | (change (_ : Bool) = true; simp_all; done) | trace_state)
        refine AW_ret (bodyQ_ret rfl ?_ (Ends.le rfl ?_ ?_))
        · repeat' (first | exact trivial | exact rfl | exact (fun _ _ => rfl) | refine And.intro ?_ ?_ | intro _)
          all_goals (first | omega | exact of_decide_eq_true (by assumption) | decide | exact hmx | exact hbytes | exact hh3 | exact hh.1 | exact hh.2 | exact recs_lit | exact ints_lit | (rename_i hg; exact hg) | (rename_i hg; change (_ : Bool) = true; rw [hg]; rfl) | (rename_i hg; exact shut_in hg) | (rename_i hg; exact (shut_in hg).1) | (rename_i hg; exact (shut_in hg).2) | (change (_ : Bool) = true; simp_all; done) | trace_state)
        · repeat' (first | exact trivial | exact rfl | exact (fun _ _ => rfl) | refine And.intro ?_ ?_ | intro _)
          all_goals (first | omega | exact of_decide_eq_true (by assumption) | decide | exact hmx | exact hbytes | exact hh3 | exact hh.1 | exact hh.2 | exact recs_lit | exact ints_lit | (rename_i hg; exact hg) | (rename_i hg; change (_ : Bool) = true; rw [hg]; rfl) | (rename_i hg; exact shut_in hg) | (rename_i hg; exact (shut_in hg).1) | (rename_i hg; exact (shut_in hg).2) | (change (_ : Bool) = true; simp_all; done) | trace_state)
        have hs : shp t = false := by
          have h : (!shp t) = true := h1
          cases hq : shp t with
          | false => rfl
          | true => rw [hq] at h; cases h
        have hE : shutE t h = 1 := by unfold shutE; rw [hs]; rfl
        unfold shutT
        rw [hE]
        exact SLe.pair zero_tbl (CLe.of_eq rfl)
    )
  · first
    | (exfalso; simp_all; done)
    | (
        refine AW_seq ?_
        refine AW_all good tabP1 tabP1_ok rfl rfl ?_ ?_
        · repeat' (first | exact trivial | exact rfl | exact (fun _ _ => rfl) | refine And.intro ?_ ?_ | intro _)
          all_goals (first | omega | exact of_decide_eq_true (by assumption) | decide | exact hmx | exact hbytes | exact hh3 | exact hh.1 | exact hh.2 | exact recs_lit | exact ints_lit | (rename_i hg; exact hg) | (rename_i hg; change (_ : Bool) = true; rw [hg]; rfl) | (rename_i hg; exact shut_in hg) | (rename_i hg; exact (shut_in hg).1) | (rename_i hg; exact (shut_in hg).2) | (change (_ : Bool) = true; simp_all; done) | trace_state)
        refine AW_cond rfl (fun h2 => ?_) (fun h2 => ?_)
        · first
          | (exfalso; simp_all; done)
          | (
              refine AW_seq ?_
              refine AW_all good tabP1 tabP1_ok rfl rfl ?_ ?_
              · repeat' (first | exact trivial | exact rfl | exact (fun _ _ => rfl) | refine And.intro ?_ ?_ | intro _)
                all_goals (first | omega | exact of_decide_eq_true (by assumption) | decide | exact hmx | exact hbytes | exact hh3 | exact hh.1 | exact hh.2 | exact recs_lit | exact ints_lit | (rename_i hg; exact hg) | (rename_i hg; change (_ : Bool) = true; rw [hg]; rfl) | (rename_i hg; exact shut_in hg) | (rename_i hg; exact (shut_in hg).1) | (rename_i hg; exact (shut_in hg).2) | (change (_ : Bool) = true; simp_all; done) | trace_state)
              refine AW_ret (bodyQ_ret rfl ?_ (Ends.le rfl ?_ ?_))
              · repeat' (first | exact trivial | exact rfl | exact (fun _ _ => rfl) | refine And.intro ?_ ?_ | intro _)
                all_goals (first | omega | exact of_decide_eq_true (by assumption) | decide | exact hmx | exact hbytes | exact hh3 | exact hh.1 | exact hh.2 | exact recs_lit | exact ints_lit | (rename_i hg; exact hg) | (rename_i hg; change (_ : Bool) = true; rw [hg]; rfl) | (rename_i hg; exact shut_in hg) | (rename_i hg; exact (shut_in hg).1) | (rename_i hg; exact (shut_in hg).2) | (change (_ : Bool) = true; simp_all; done) | trace_state)
              · repeat' (first | exact trivial | exact rfl | exact (fun _ _ => rfl) | refine And.intro ?_ ?_ | intro _)
                all_goals (first | omega | exact of_decide_eq_true (by assumption) | decide | exact hmx | exact hbytes | exact hh3 | exact hh.1 | exact hh.2 | exact recs_lit | exact ints_lit | (rename_i hg; exact hg) | (rename_i hg; change (_ : Bool) = true; rw [hg]; rfl) | (rename_i hg; exact shut_in hg) | (rename_i hg; exact (shut_in hg).1) | (rename_i hg; exact (shut_in hg).2) | (change (_ : Bool) = true; simp_all; done) | trace_state)
              have hs : shp t = true := by
                have h : (!shp t) = false := h1
                cases hq : shp t with
                | true => rfl
                | false => rw [hq] at h; cases h
              have hE : shutE t h = 8 := by
                have h2' : (bif badH t h then true else (t.sn h.toNat == -1)) = true := h2
                unfold shutE; rw [hs, h2']; rfl
              unfold shutT
              rw [hE]
              exact SLe.pair zero_tbl (CLe.of_eq rfl)
          )
        · first
          | (exfalso; simp_all; done)
          | (
              refine AW_skip ?_
              refine AW_seq ?_
              have hs : shp t = true := by
                have h : (!shp t) = false := h1
                cases hq : shp t with
                | true => rfl
                | false => rw [hq] at h; cases h
              obtain ⟨f1, f2, f3⟩ := shp_facts hs
              have h2' : (bif badH t h then true else (t.sn h.toNat == -1)) = false := h2
              have hh : 0 ≤ h ∧ h < t.ns := by
                cases hq : badH t h with
                | true => rw [hq] at h2'; cases h2'
                | false =>
                  refine shut_in ?_
                  show (badH t h == false) = true
                  rw [hq]
                  rfl
              have hh3 : 0 + h.toNat < t.ns := by omega
              have hbytes : t.ns * 8 ≤ 140737488355328 := by omega
              have hmx : t.ns ≤ maxLen := by simp only [maxLen]; omega
              refine AW_eff good tabP1 tabP1_ok etC etC_ok [] rfl rfl ?_ ?_
              · repeat' (first | exact trivial | exact rfl | exact (fun _ _ => rfl) | refine And.intro ?_ ?_ | intro _)
                all_goals (first | omega | exact of_decide_eq_true (by assumption) | decide | exact hmx | exact hbytes | exact hh3 | exact hh.1 | exact hh.2 | exact recs_lit | exact ints_lit | (rename_i hg; exact hg) | (rename_i hg; change (_ : Bool) = true; rw [hg]; rfl) | (rename_i hg; exact shut_in hg) | (rename_i hg; exact (shut_in hg).1) | (rename_i hg; exact (shut_in hg).2) | (change (_ : Bool) = true; simp_all; done) | trace_state)
              refine AW_seq ?_
              refine AW_all good tabP1 tabP1_ok rfl rfl ?_ ?_
              · repeat' (first | exact trivial | exact rfl | exact (fun _ _ => rfl) | refine And.intro ?_ ?_ | intro _)
                all_goals (first | omega | exact of_decide_eq_true (by assumption) | decide | exact hmx | exact hbytes | exact hh3 | exact hh.1 | exact hh.2 | exact recs_lit | exact ints_lit | (rename_i hg; exact hg) | (rename_i hg; change (_ : Bool) = true; rw [hg]; rfl) | (rename_i hg; exact shut_in hg) | (rename_i hg; exact (shut_in hg).1) | (rename_i hg; exact (shut_in hg).2) | (change (_ : Bool) = true; simp_all; done) | trace_state)
              refine AW_seq ?_
              refine AW_all good tabP1 tabP1_ok rfl rfl ?_ ?_
              · repeat' (first | exact trivial | exact rfl | exact (fun _ _ => rfl) | refine And.intro ?_ ?_ | intro _)
                all_goals (first | omega | exact of_decide_eq_true (by assumption) | decide | exact hmx | exact hbytes | exact hh3 | exact hh.1 | exact hh.2 | exact recs_lit | exact ints_lit | (rename_i hg; exact hg) | (rename_i hg; change (_ : Bool) = true; rw [hg]; rfl) | (rename_i hg; exact shut_in hg) | (rename_i hg; exact (shut_in hg).1) | (rename_i hg; exact (shut_in hg).2) | (change (_ : Bool) = true; simp_all; done) | trace_state)
              refine AW_ret (bodyQ_ret rfl ?_ (Ends.le rfl ?_ ?_))
              · repeat' (first | exact trivial | exact rfl | exact (fun _ _ => rfl) | refine And.intro ?_ ?_ | intro _)
                all_goals (first | omega | exact of_decide_eq_true (by assumption) | decide | exact hmx | exact hbytes | exact hh3 | exact hh.1 | exact hh.2 | exact recs_lit | exact ints_lit | (rename_i hg; exact hg) | (rename_i hg; change (_ : Bool) = true; rw [hg]; rfl) | (rename_i hg; exact shut_in hg) | (rename_i hg; exact (shut_in hg).1) | (rename_i hg; exact (shut_in hg).2) | (change (_ : Bool) = true; simp_all; done) | trace_state)
              · repeat' (first | exact trivial | exact rfl | exact (fun _ _ => rfl) | refine And.intro ?_ ?_ | intro _)
                all_goals (first | omega | exact of_decide_eq_true (by assumption) | decide | exact hmx | exact hbytes | exact hh3 | exact hh.1 | exact hh.2 | exact recs_lit | exact ints_lit | (rename_i hg; exact hg) | (rename_i hg; change (_ : Bool) = true; rw [hg]; rfl) | (rename_i hg; exact shut_in hg) | (rename_i hg; exact (shut_in hg).1) | (rename_i hg; exact (shut_in hg).2) | (change (_ : Bool) = true; simp_all; done) | trace_state)
              have hE : shutE t h = 0 := by
                unfold shutE; rw [hs, h2']; rfl
              unfold shutT
              rw [hE]
              refine SLe.pair (CLe.aggL ⟨CLe.of_eq rfl, CLe.of_eq rfl, CLe.imm (ILe.sl rfl (by simp) (.inr ⟨rfl, fun i j hi hj => ILe.of_eq ?_⟩)), trivial⟩) (CLe.of_eq rfl)
              obtain rfl : j = 0 := by
                have : j < 1 := hj
                omega
              show (bif Nat.beq (0 + i) (0 + h.toNat) && (Nat.ble 0 0 && Nat.blt 0 (0 + 1)) then [IV.val (.int .i64 (-1))].getD (0 - 0) ivDef else IV.val (.int .i64 (t.sn (0 + i)))) = IV.val (.int .i64 (bif Nat.beq i h.toNat then -1 else t.sn i))
              rw [Nat.zero_add, Nat.zero_add]
              cases Nat.beq i h.toNat <;> rfl
          )
    )
end Go.Proofs.Ytadgjhbhghhbgaa.Abs
