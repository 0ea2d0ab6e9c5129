/-
  THE LAW MachineEnds as a contract.
-/
import Derived.Test.YtndfcbcmeeemfaaM12
import Derived.Test.YtndfcbcmeeemfaaM10
namespace Go.Proofs.Ytndfcbcmeeemfaa.Abs
open Go
set_option maxRecDepth 10000

/-- One that is never picked stays as it was. -/
theorem run_idle {n : Nat} {s : MSt} {picks : Nat → Int} {i : Nat} : ∀ j, (∀ q, q < j → picks q ≠ i) → (runM n s picks j).l i = s.l i
  | 0, _ => rfl
  | j + 1, h => by
    have ih := run_idle (n := n) (s := s) (picks := picks) j fun q hq => h q (by omega)
    show (pickM n (runM n s picks j) (picks j)).l i = _
    by_cases hp : 0 ≤ picks j ∧ picks j < n
    · rw [pick_in hp]
      show (bif Nat.beq i (picks j).toNat then _ else _) = _
      have : Nat.beq i (picks j).toNat = false := by
        cases hb : Nat.beq i (picks j).toNat with
        | false => rfl
        | true =>
          have h1 := Nat.eq_of_beq_eq_true hb
          exact absurd (show picks j = (i : Int) by omega) (h j (by omega))
      rw [this]
      exact ih
    · have hout : pickM n (runM n s picks j) (picks j) = runM n s picks j := by
        refine pick_out ?_
        cases hq : decide (picks j ≥ 0) with
        | false => rfl
        | true =>
          have := of_decide_eq_true hq
          exact decide_eq_false (by omega)
      rw [hout]
      exact ih
theorem cnt_none {picks : Nat → Int} {i : Nat} : ∀ j, (∀ q, q < j → picks q ≠ i) → cnt picks i j = 0
  | 0, _ => rfl
  | j + 1, h => by
    have h1 : (picks j == (i : Int)) = false := by rw [beq_eq_false_iff_ne]; exact h j (by omega)
    show cnt picks i j + (bif picks j == (i : Int) then 1 else 0) = 0
    rw [cnt_none j fun q hq => h q (by omega), h1]
    rfl
theorem cnt_congr {p q : Nat → Int} {i : Nat} : ∀ j, (∀ k, k < j → p k = q k) → cnt p i j = cnt q i j
  | 0, _ => rfl
  | j + 1, h => by
    show cnt p i j + _ = cnt q i j + _
    rw [cnt_congr j fun k hk => h k (by omega), h j (by omega)]
theorem like_self (p : Prc) : likeP p p = true := like_iff.2 ⟨shP_iff.2 ⟨rfl, rfl, ⟨rfl, rfl, rfl, rfl⟩, rfl, rfl⟩, fun _ _ => rfl⟩

noncomputable def tabO : Tab := tabAdd 32 (fun args => match args with
  | [c, d] => match asPrc c with
    | some (p, q) => match asPrc d with
      | some (p', q') => some (.cv (ibool (likeP p p')), q ∧ q' ∧ p.n ≤ maxLen)
      | none => none
    | none => none
  | _ => none) tabN
theorem tabO_ok : TabOk Try.prog tabO := by
  refine tabAdd_ok rfl (fun args r p h hp => ?_) tabN_ok
  split at h
  · split at h
    · rename_i hc
      split at h
      · rename_i hd
        simp only [Option.some.injEq, Prod.mk.injEq] at h; obtain ⟨rfl, rfl⟩ := h
        exact (like32 _ _ hp.2.2).args (TLe.cons (asPrc_le hc hp.1) (TLe.cons (asPrc_le hd hp.2.1) TLe.nil))
      · cases h
    · cases h
  · cases h

structure EnS where
  i : Nat
  len : Nat
  sm : Nat → Int
def EnI (np : Nat) : Type := { j : EnS // j.i ≤ np ∧ j.len ≤ j.i ∧ j.len ≤ 60 ∧ ∀ q, q < j.len → j.sm q ≠ 1 }

theorem addedN_two (f : Nat → Nat) : addedN 2 f = f 0 + f 1 := by
  rw [addedN_succ, addedN_succ]
  simp [addedN]

theorem ends12 (many : Int) (np : Nat) (ex : Bool) (picks : Nat → Int) : PCall Try.prog 12 [iint many, .one (iS np ex picks)] (.cv (ibool true)) := by
  refine PCall_of (ACall_body good Try.func12 rfl 112 rfl (by simp) ?_)
  refine AW_lenle 1 rfl (fun hm => ?_)
  refine AW_seq ?_
  refine AW_all good tabO tabO_ok rfl rfl ?_ ?_
  · repeat' (first | exact trivial | exact rfl | exact (fun _ _ => rfl) | refine And.intro ?_ ?_ | intro _)
    all_goals (first | omega | exact of_decide_eq_true (by assumption) | decide | exact hmay | exact hlm | exact hbytes | exact hmx | exact prog_lit _ _ | exact procs_lit _ _ | (rename_i hg; exact hg) | (rename_i hg; change (_ : Bool) = true; rw [hg]; rfl) | (change (_ : Bool) = true; simp_all; done) | trace_state)
  refine AW_seq ?_
  refine AW_all good tabO tabO_ok rfl rfl ?_ ?_
  · repeat' (first | exact trivial | exact rfl | exact (fun _ _ => rfl) | refine And.intro ?_ ?_ | intro _)
    all_goals (first | omega | exact of_decide_eq_true (by assumption) | decide | exact hmay | exact hlm | exact hbytes | exact hmx | exact prog_lit _ _ | exact procs_lit _ _ | (rename_i hg; exact hg) | (rename_i hg; change (_ : Bool) = true; rw [hg]; rfl) | (change (_ : Bool) = true; simp_all; done) | trace_state)
  refine AW_seq ?_
  obtain ⟨Kn, hKn⟩ : ∃ Kn : Nat, Kn = offW many 6 := ⟨_, rfl⟩
  have hK6 : Kn < 6 := by rw [hKn]; exact (six many).2.2
  refine AW_slot 0 (y := .cv (iint Kn)) rfl (SLe.of_eq (congrArg (fun z => SV.cv (iint z)) (by rw [hKn]; exact six_val many))) ?_
  refine AW_all good tabO tabO_ok rfl rfl ?_ ?_
  · repeat' (first | exact trivial | exact rfl | exact (fun _ _ => rfl) | refine And.intro ?_ ?_ | intro _)
    all_goals (first | omega | exact of_decide_eq_true (by assumption) | decide | exact hmay | exact hlm | exact hbytes | exact hmx | exact prog_lit _ _ | exact procs_lit _ _ | (rename_i hg; exact hg) | (rename_i hg; change (_ : Bool) = true; rw [hg]; rfl) | (change (_ : Bool) = true; simp_all; done) | trace_state)
  refine AW_seq ?_
  obtain ⟨l, hl⟩ : ∃ l : Nat → Prc, l = fun q => addsP (q : Nat) Kn := ⟨_, rfl⟩
  refine AW_give 0 5 rfl (by omega) ?_
  refine AW_slot 5 (y := .cv (.one (prcS 2 false l))) rfl (SLe.cv (CLe.imm (ILe.sl rfl (by simp) (.inr ⟨rfl, fun i j hi hj => ILe.of_eq ?_⟩)))) ?_
  · rw [Nat.zero_add, hl]
    match i, hi, j, hj with
    | 0, _, 0, _ => rfl
    | 0, _, 1, _ => rfl
    | 0, _, 2, _ => rfl
    | 0, _, 3, _ => rfl
    | 0, _, 4, _ => rfl
    | 0, _, 5, _ => rfl
    | 0, _, 6, _ => rfl
    | 0, _, 7, _ => rfl
    | 1, _, 0, _ => rfl
    | 1, _, 1, _ => rfl
    | 1, _, 2, _ => rfl
    | 1, _, 3, _ => rfl
    | 1, _, 4, _ => rfl
    | 1, _, 5, _ => rfl
    | 1, _, 6, _ => rfl
    | 1, _, 7, _ => rfl
  have hmay : mayL 2 l = true := mayL_mk (by omega) fun q hq => by rw [hl]; exact mayP_add (by omega) (by omega) (by omega)
  refine AW_all good tabO tabO_ok rfl rfl ?_ ?_
  · repeat' (first | exact trivial | exact rfl | exact (fun _ _ => rfl) | refine And.intro ?_ ?_ | intro _)
    all_goals (first | omega | exact of_decide_eq_true (by assumption) | decide | exact hmay | exact hlm | exact hbytes | exact hmx | exact prog_lit _ _ | exact procs_lit _ _ | (rename_i hg; exact hg) | (rename_i hg; change (_ : Bool) = true; rw [hg]; rfl) | (change (_ : Bool) = true; simp_all; done) | trace_state)
  refine AW_seq ?_
  refine AW_all good tabO tabO_ok rfl rfl ?_ ?_
  · repeat' (first | exact trivial | exact rfl | exact (fun _ _ => rfl) | refine And.intro ?_ ?_ | intro _)
    all_goals (first | omega | exact of_decide_eq_true (by assumption) | decide | exact hmay | exact hlm | exact hbytes | exact hmx | exact prog_lit _ _ | exact procs_lit _ _ | (rename_i hg; exact hg) | (rename_i hg; change (_ : Bool) = true; rw [hg]; rfl) | (change (_ : Bool) = true; simp_all; done) | trace_state)
  refine AW_seq ?_
  refine AW_seq ?_
  refine AW_all good tabO tabO_ok rfl rfl ?_ ?_
  · repeat' (first | exact trivial | exact rfl | exact (fun _ _ => rfl) | refine And.intro ?_ ?_ | intro _)
    all_goals (first | omega | exact of_decide_eq_true (by assumption) | decide | exact hmay | exact hlm | exact hbytes | exact hmx | exact prog_lit _ _ | exact procs_lit _ _ | (rename_i hg; exact hg) | (rename_i hg; change (_ : Bool) = true; rw [hg]; rfl) | (change (_ : Bool) = true; simp_all; done) | trace_state)
  refine AW_block ?_
  refine AW_absent 3 1 (fun _ _ => ivDef) ?_
  refine AW_loopH 1 (fun j : EnI np => [(0, .cv (iint Kn)), (5, .cv (.one (prcS 2 false l))), (6, .cv (iint (cnt j.1.sm 0 j.1.len : Nat))), (7, .cv (.one (.osl 0 1 0 0 j.1.len true))), (22, .cv (.one (iS np ex picks))), (23, .cv (iint np)), (24, .cv (iint j.1.i))]) (fun j => [(0, .rows 3 1 j.1.len fun q _ => .val (.int .i64 (j.1.sm q)))]) (fun j => np - j.1.i) ⟨⟨0, 0, fun _ => 0⟩, Nat.zero_le _, Nat.le_refl _, Nat.zero_le _, fun q hq => absurd hq (Nat.not_lt_zero q)⟩ [1] rfl rfl ?_ ?_ ?_
  · exact ⟨SLe.of_eq rfl, SLe.of_eq rfl, SLe.of_eq rfl, SLe.cv CLe.empty, SLe.of_eq rfl, SLe.of_eq rfl, SLe.of_eq rfl, trivial⟩
  · exact ⟨⟨rfl, _, rfl, BLe.rows rfl fun i j hi _ => absurd hi (Nat.not_lt_zero i)⟩, trivial⟩
  rintro ⟨⟨i, len, sm⟩, hi, hli, hl60, hne⟩
  dsimp only at hi hli hl60 hne ⊢
  refine AW_seq ?_
  refine AW_all good tabO tabO_ok rfl rfl ?_ ?_
  · repeat' (first | exact trivial | exact rfl | exact (fun _ _ => rfl) | refine And.intro ?_ ?_ | intro _)
    all_goals (first | omega | exact of_decide_eq_true (by assumption) | decide | exact hmay | exact hlm | exact hbytes | exact hmx | exact prog_lit _ _ | exact procs_lit _ _ | (rename_i hg; exact hg) | (rename_i hg; change (_ : Bool) = true; rw [hg]; rfl) | (change (_ : Bool) = true; simp_all; done) | trace_state)
  refine AW_seq ?_
  refine AW_cond rfl (fun h1 => ?_) (fun h1 => ?_)
  · first
    | (exfalso; simp_all; done)
    | (
        refine AW_skip ?_
        refine AW_seq ?_
        refine AW_block ?_
        refine AW_seq ?_
        have hlt : i < np := by simpa using h1
        refine AW_all good tabO tabO_ok rfl rfl ?_ ?_
        · repeat' (first | exact trivial | exact rfl | exact (fun _ _ => rfl) | refine And.intro ?_ ?_ | intro _)
          all_goals (first | omega | exact of_decide_eq_true (by assumption) | decide | exact hmay | exact hlm | exact hbytes | exact hmx | exact prog_lit _ _ | exact procs_lit _ _ | (rename_i hg; exact hg) | (rename_i hg; change (_ : Bool) = true; rw [hg]; rfl) | (change (_ : Bool) = true; simp_all; done) | trace_state)
        refine AW_seq ?_
        refine AW_all good tabO tabO_ok rfl rfl ?_ ?_
        · repeat' (first | exact trivial | exact rfl | exact (fun _ _ => rfl) | refine And.intro ?_ ?_ | intro _)
          all_goals (first | omega | exact of_decide_eq_true (by assumption) | decide | exact hmay | exact hlm | exact hbytes | exact hmx | exact prog_lit _ _ | exact procs_lit _ _ | (rename_i hg; exact hg) | (rename_i hg; change (_ : Bool) = true; rw [hg]; rfl) | (change (_ : Bool) = true; simp_all; done) | trace_state)
        refine AW_cond rfl (fun h2 => ?_) (fun h2 => ?_)
        · first
          | (exfalso; simp_all; done)
          | (
              refine AW_seq ?_
              have hbytes : (len + 1) * lay3.bytes ≤ 140737488355328 := by
                show (len + 1) * 8 ≤ _
                omega
              have hmx : len + 1 ≤ maxLen := by simp only [maxLen]; omega
              refine AW_all good tabO tabO_ok rfl rfl ?_ ?_
              · repeat' (first | exact trivial | exact rfl | exact (fun _ _ => rfl) | refine And.intro ?_ ?_ | intro _)
                all_goals (first | omega | exact of_decide_eq_true (by assumption) | decide | exact hmay | exact hlm | exact hbytes | exact hmx | exact prog_lit _ _ | exact procs_lit _ _ | (rename_i hg; exact hg) | (rename_i hg; change (_ : Bool) = true; rw [hg]; rfl) | (change (_ : Bool) = true; simp_all; done) | trace_state)
              refine AW_seq ?_
              refine AW_all good tabO tabO_ok rfl rfl ?_ ?_
              · repeat' (first | exact trivial | exact rfl | exact (fun _ _ => rfl) | refine And.intro ?_ ?_ | intro _)
                all_goals (first | omega | exact of_decide_eq_true (by assumption) | decide | exact hmay | exact hlm | exact hbytes | exact hmx | exact prog_lit _ _ | exact procs_lit _ _ | (rename_i hg; exact hg) | (rename_i hg; change (_ : Bool) = true; rw [hg]; rfl) | (change (_ : Bool) = true; simp_all; done) | trace_state)
              refine AW_cond rfl (fun h3 => ?_) (fun h3 => ?_)
              · first
                | (exfalso; simp_all; done)
                | (
                    refine AW_all good tabO tabO_ok rfl rfl ?_ ?_
                    · repeat' (first | exact trivial | exact rfl | exact (fun _ _ => rfl) | refine And.intro ?_ ?_ | intro _)
                      all_goals (first | omega | exact of_decide_eq_true (by assumption) | decide | exact hmay | exact hlm | exact hbytes | exact hmx | exact prog_lit _ _ | exact procs_lit _ _ | (rename_i hg; exact hg) | (rename_i hg; change (_ : Bool) = true; rw [hg]; rfl) | (change (_ : Bool) = true; simp_all; done) | trace_state)
                    refine AW_all good tabO tabO_ok rfl rfl ?_ ?_
                    · repeat' (first | exact trivial | exact rfl | exact (fun _ _ => rfl) | refine And.intro ?_ ?_ | intro _)
                      all_goals (first | omega | exact of_decide_eq_true (by assumption) | decide | exact hmay | exact hlm | exact hbytes | exact hmx | exact prog_lit _ _ | exact procs_lit _ _ | (rename_i hg; exact hg) | (rename_i hg; change (_ : Bool) = true; rw [hg]; rfl) | (change (_ : Bool) = true; simp_all; done) | trace_state)
                    have hlt : i < np := by simpa using h1
                    have hx : i < 60 ∧ picks i ≠ 1 := by
                      have h : (bif decide (((i : Nat) : Int) < 60) then picks i != 1 else false) = true := h2
                      cases hq : decide (((i : Nat) : Int) < 60) with
                      | false => rw [hq] at h; cases h
                      | true =>
                        rw [hq] at h
                        have := of_decide_eq_true hq
                        exact ⟨by omega, by simpa using h⟩
                    have hcg : cnt (fun q => bif Nat.blt q len then sm q else picks i) 0 len = cnt sm 0 len := cnt_congr len fun k hk => by
                      have : Nat.blt k len = true := Nat.ble_eq_true_of_le hk
                      simp only [this, cond_true]
                    have hbl : Nat.blt len len = false := by
                      cases hb : Nat.blt len len with
                      | false => rfl
                      | true => have : len < len := Nat.le_of_ble_eq_true hb; omega
                    have hcl := cnt_le sm 0 len
                    refine loopH_next ⟨⟨i + 1, len + 1, fun q => bif Nat.blt q len then sm q else picks i⟩, hlt, (by show len + 1 ≤ i + 1; omega), (by show len + 1 ≤ 60; omega), fun q hq => ?_⟩ [2] rfl rfl ⟨SLe.of_eq rfl, SLe.of_eq rfl, SLe.of_eq (congrArg (fun z => SV.cv (iint z)) ?_), SLe.of_eq rfl, SLe.of_eq rfl, SLe.of_eq rfl, SLe.of_eq (congrArg (fun z => SV.cv (iint z)) (next_int i np hlt hm)), trivial⟩ ⟨⟨rfl, _, rfl, BLe.rows rfl fun q c hq hc => ILe.of_eq ?_⟩, trivial⟩ ?_
                    · show (bif Nat.blt q len then sm q else picks i) ≠ 1
                      cases hb : Nat.blt q len with
                      | true => exact hne q (Nat.le_of_ble_eq_true hb)
                      | false => exact hx.2
                    · show _ = ((cnt (fun q => bif Nat.blt q len then sm q else picks i) 0 len + (bif (bif Nat.blt len len then sm len else picks i) == ((0 : Nat) : Int) then 1 else 0) : Nat) : Int)
                      rw [hcg, hbl]
                      rw [show ((bif false then sm len else picks i) == ((0 : Nat) : Int)) = true from h3]
                      show IntKind.i64.wrap ((cnt sm 0 len : Int) + 1) = ((cnt sm 0 len + 1 : Nat) : Int)
                      rw [IntKind.wrap_i64]
                      omega
                    · obtain rfl : c = 0 := by
                        have : c < 1 := hc
                        omega
                      have hq : q < len + 1 := hq
                      show (bif Nat.blt q len then IV.val (.int .i64 (sm q)) else [IV.val (.int .i64 (picks i))].getD ((0 + (q - len)) * 1 + 0) ivDef) = IV.val (.int .i64 (bif Nat.blt q len then sm q else picks i))
                      cases hb : Nat.blt q len with
                      | true => rfl
                      | false =>
                        have h5 : ¬ q < len := fun h => by
                          have : Nat.blt q len = true := Nat.ble_eq_true_of_le h
                          rw [hb] at this
                          cases this
                        have hql : q = len := by omega
                        rw [hql, Nat.sub_self]
                        rfl
                    show np - (i + 1) < np - i
                    omega
                )
              · first
                | (exfalso; simp_all; done)
                | (
                    refine AW_skip ?_
                    refine AW_all good tabO tabO_ok rfl rfl ?_ ?_
                    · repeat' (first | exact trivial | exact rfl | exact (fun _ _ => rfl) | refine And.intro ?_ ?_ | intro _)
                      all_goals (first | omega | exact of_decide_eq_true (by assumption) | decide | exact hmay | exact hlm | exact hbytes | exact hmx | exact prog_lit _ _ | exact procs_lit _ _ | (rename_i hg; exact hg) | (rename_i hg; change (_ : Bool) = true; rw [hg]; rfl) | (change (_ : Bool) = true; simp_all; done) | trace_state)
                    have hlt : i < np := by simpa using h1
                    have hx : i < 60 ∧ picks i ≠ 1 := by
                      have h : (bif decide (((i : Nat) : Int) < 60) then picks i != 1 else false) = true := h2
                      cases hq : decide (((i : Nat) : Int) < 60) with
                      | false => rw [hq] at h; cases h
                      | true =>
                        rw [hq] at h
                        have := of_decide_eq_true hq
                        exact ⟨by omega, by simpa using h⟩
                    have hcg : cnt (fun q => bif Nat.blt q len then sm q else picks i) 0 len = cnt sm 0 len := cnt_congr len fun k hk => by
                      have : Nat.blt k len = true := Nat.ble_eq_true_of_le hk
                      simp only [this, cond_true]
                    have hbl : Nat.blt len len = false := by
                      cases hb : Nat.blt len len with
                      | false => rfl
                      | true => have : len < len := Nat.le_of_ble_eq_true hb; omega
                    have hcl := cnt_le sm 0 len
                    refine loopH_next ⟨⟨i + 1, len + 1, fun q => bif Nat.blt q len then sm q else picks i⟩, hlt, (by show len + 1 ≤ i + 1; omega), (by show len + 1 ≤ 60; omega), fun q hq => ?_⟩ [2] rfl rfl ⟨SLe.of_eq rfl, SLe.of_eq rfl, SLe.of_eq (congrArg (fun z => SV.cv (iint z)) ?_), SLe.of_eq rfl, SLe.of_eq rfl, SLe.of_eq rfl, SLe.of_eq (congrArg (fun z => SV.cv (iint z)) (next_int i np hlt hm)), trivial⟩ ⟨⟨rfl, _, rfl, BLe.rows rfl fun q c hq hc => ILe.of_eq ?_⟩, trivial⟩ ?_
                    · show (bif Nat.blt q len then sm q else picks i) ≠ 1
                      cases hb : Nat.blt q len with
                      | true => exact hne q (Nat.le_of_ble_eq_true hb)
                      | false => exact hx.2
                    · show _ = ((cnt (fun q => bif Nat.blt q len then sm q else picks i) 0 len + (bif (bif Nat.blt len len then sm len else picks i) == ((0 : Nat) : Int) then 1 else 0) : Nat) : Int)
                      rw [hcg, hbl]
                      rw [show ((bif false then sm len else picks i) == ((0 : Nat) : Int)) = false from h3]
                      rfl
                    · obtain rfl : c = 0 := by
                        have : c < 1 := hc
                        omega
                      have hq : q < len + 1 := hq
                      show (bif Nat.blt q len then IV.val (.int .i64 (sm q)) else [IV.val (.int .i64 (picks i))].getD ((0 + (q - len)) * 1 + 0) ivDef) = IV.val (.int .i64 (bif Nat.blt q len then sm q else picks i))
                      cases hb : Nat.blt q len with
                      | true => rfl
                      | false =>
                        have h5 : ¬ q < len := fun h => by
                          have : Nat.blt q len = true := Nat.ble_eq_true_of_le h
                          rw [hb] at this
                          cases this
                        have hql : q = len := by omega
                        rw [hql, Nat.sub_self]
                        rfl
                    show np - (i + 1) < np - i
                    omega
                )
          )
        · first
          | (exfalso; simp_all; done)
          | (
              refine AW_skip ?_
              refine AW_all good tabO tabO_ok rfl rfl ?_ ?_
              · repeat' (first | exact trivial | exact rfl | exact (fun _ _ => rfl) | refine And.intro ?_ ?_ | intro _)
                all_goals (first | omega | exact of_decide_eq_true (by assumption) | decide | exact hmay | exact hlm | exact hbytes | exact hmx | exact prog_lit _ _ | exact procs_lit _ _ | (rename_i hg; exact hg) | (rename_i hg; change (_ : Bool) = true; rw [hg]; rfl) | (change (_ : Bool) = true; simp_all; done) | trace_state)
              have hlt : i < np := by simpa using h1
              refine loopH_next ⟨⟨i + 1, len, sm⟩, hlt, (by show len ≤ i + 1; omega), hl60, hne⟩ [0] rfl rfl ⟨SLe.of_eq rfl, SLe.of_eq rfl, SLe.of_eq rfl, SLe.of_eq rfl, SLe.of_eq rfl, SLe.of_eq rfl, SLe.of_eq (congrArg (fun z => SV.cv (iint z)) (next_int i np hlt hm)), trivial⟩ ⟨⟨rfl, _, rfl, BLe.of_eq rfl⟩, trivial⟩ ?_
              show np - (i + 1) < np - i
              omega
          )
    )
  · first
    | (exfalso; simp_all; done)
    | (
        refine AW_exit ?_
        refine AW_seq ?_
        refine AW_give 0 7 rfl (by omega) ?_
        refine AW_slot 7 (y := .cv (.one (iS len false sm))) rfl (SLe.cv (CLe.imm (ILe.sl rfl (by simp) (.inr ⟨rfl, fun i j hi hj => ILe.of_eq (by rw [Nat.zero_add])⟩)))) ?_
        obtain ⟨M, hM⟩ : ∃ M, runM 2 ⟨fun _ => 0, l⟩ sm len = M := ⟨_, rfl⟩
        obtain ⟨hA, hW⟩ := adds_run (n := 2) (at_ := fun q => (q : Nat)) (k := fun _ => Kn) (fun _ _ => by omega) (fun _ _ => by omega) (l := l) (fun q _ => by rw [hl]; exact add_start _ _) (m := fun _ => 0) (fun _ => rfl) sm len
        have hidle : (runM 2 ⟨fun _ => 0, l⟩ sm len).l 1 = l 1 := run_idle len hne
        rw [hM] at hA hW hidle
        have hlm : (M.l 1).n ≤ maxLen := by
          rw [hidle, hl]
          show Kn + 1 ≤ maxLen
          simp only [maxLen]
          omega
        refine AW_eff good tabO tabO_ok et0 (et0_ok _) [0] rfl rfl ?_ ?_
        · repeat' (first | exact trivial | exact rfl | exact (fun _ _ => rfl) | refine And.intro ?_ ?_ | intro _)
          all_goals (first | omega | exact of_decide_eq_true (by assumption) | decide | exact hmay | exact hlm | exact hbytes | exact hmx | exact prog_lit _ _ | exact procs_lit _ _ | (rename_i hg; exact hg) | (rename_i hg; change (_ : Bool) = true; rw [hg]; rfl) | (change (_ : Bool) = true; simp_all; done) | trace_state)
        refine AW_seq ?_
        refine AW_seq ?_
        refine AW_slot 10 (y := .cv (.one (uS 64 false M.m))) rfl (SLe.of_eq (congrArg (fun s : MSt => SV.cv (CV.one (uS 64 false s.m))) hM)) ?_
        refine AW_slot 11 (y := .cv (.one (prcS 2 false M.l))) rfl (SLe.of_eq (congrArg (fun s : MSt => SV.cv (CV.one (prcS 2 false s.l))) hM)) ?_
        refine AW_all good tabO tabO_ok rfl rfl ?_ ?_
        · repeat' (first | exact trivial | exact rfl | exact (fun _ _ => rfl) | refine And.intro ?_ ?_ | intro _)
          all_goals (first | omega | exact of_decide_eq_true (by assumption) | decide | exact hmay | exact hlm | exact hbytes | exact hmx | exact prog_lit _ _ | exact procs_lit _ _ | (rename_i hg; exact hg) | (rename_i hg; change (_ : Bool) = true; rw [hg]; rfl) | (change (_ : Bool) = true; simp_all; done) | trace_state)
        refine AW_cond rfl (fun h4 => ?_) (fun h4 => ?_)
        · first
          | (exfalso; simp_all; done)
          | (
              refine AW_seq ?_
              refine AW_all good tabO tabO_ok rfl rfl ?_ ?_
              · repeat' (first | exact trivial | exact rfl | exact (fun _ _ => rfl) | refine And.intro ?_ ?_ | intro _)
                all_goals (first | omega | exact of_decide_eq_true (by assumption) | decide | exact hmay | exact hlm | exact hbytes | exact hmx | exact prog_lit _ _ | exact procs_lit _ _ | (rename_i hg; exact hg) | (rename_i hg; change (_ : Bool) = true; rw [hg]; rfl) | (change (_ : Bool) = true; simp_all; done) | trace_state)
              refine AW_ret (bodyQ_ret rfl ?_ (Ends.intro rfl ?_ ?_))
              · repeat' (first | exact trivial | exact rfl | exact (fun _ _ => rfl) | refine And.intro ?_ ?_ | intro _)
                all_goals (first | omega | exact of_decide_eq_true (by assumption) | decide | exact hmay | exact hlm | exact hbytes | exact hmx | exact prog_lit _ _ | exact procs_lit _ _ | (rename_i hg; exact hg) | (rename_i hg; change (_ : Bool) = true; rw [hg]; rfl) | (change (_ : Bool) = true; simp_all; done) | trace_state)
              · repeat' (first | exact trivial | exact rfl | exact (fun _ _ => rfl) | refine And.intro ?_ ?_ | intro _)
                all_goals (first | omega | exact of_decide_eq_true (by assumption) | decide | exact hmay | exact hlm | exact hbytes | exact hmx | exact prog_lit _ _ | exact procs_lit _ _ | (rename_i hg; exact hg) | (rename_i hg; change (_ : Bool) = true; rw [hg]; rfl) | (change (_ : Bool) = true; simp_all; done) | trace_state)
              exact absurd h4 (by simp)
          )
        · first
          | (exfalso; simp_all; done)
          | (
              refine AW_skip ?_
              refine AW_seq ?_
              refine AW_drwE good rfl tabO tabO_ok rfl rfl rfl rfl ?_ ?_
              · repeat' (first | exact trivial | exact rfl | exact (fun _ _ => rfl) | refine And.intro ?_ ?_ | intro _)
                all_goals (first | omega | exact of_decide_eq_true (by assumption) | decide | exact hmay | exact hlm | exact hbytes | exact hmx | exact prog_lit _ _ | exact procs_lit _ _ | (rename_i hg; exact hg) | (rename_i hg; change (_ : Bool) = true; rw [hg]; rfl) | (change (_ : Bool) = true; simp_all; done) | trace_state)
              refine AW_ret (bodyQ_ret rfl ?_ (Ends.intro rfl ?_ ?_))
              · repeat' (first | exact trivial | exact rfl | exact (fun _ _ => rfl) | refine And.intro ?_ ?_ | intro _)
                all_goals (first | omega | exact of_decide_eq_true (by assumption) | decide | exact hmay | exact hlm | exact hbytes | exact hmx | exact prog_lit _ _ | exact procs_lit _ _ | (rename_i hg; exact hg) | (rename_i hg; change (_ : Bool) = true; rw [hg]; rfl) | (change (_ : Bool) = true; simp_all; done) | trace_state)
              · repeat' (first | exact trivial | exact rfl | exact (fun _ _ => rfl) | refine And.intro ?_ ?_ | intro _)
                all_goals (first | omega | exact of_decide_eq_true (by assumption) | decide | exact hmay | exact hlm | exact hbytes | exact hmx | exact prog_lit _ _ | exact procs_lit _ _ | (rename_i hg; exact hg) | (rename_i hg; change (_ : Bool) = true; rw [hg]; rfl) | (change (_ : Bool) = true; simp_all; done) | trace_state)
              refine ret_bool ?_
              have hA0 := hA 0 (by omega)
              have q1 : likeP (M.l 1) (l 1) = true := by rw [hidle]; exact like_self _
              have q2 : (M.m 1 == 0) = true := by
                rw [hW 1, addedN_two, cnt_none (i := 1) len hne]
                simp [IntKind.wrap_u64]
              have q3 : (M.m 0 == IntKind.u64.wrap (if (Kn : Int) < (cnt sm 0 len : Int) then (Kn : Int) else (cnt sm 0 len : Int))) = true := by
                rw [hW 0, addedN_two, cnt_none (i := 1) len hne]
                have : ((min (cnt sm 0 len) Kn : Nat) : Int) = (if (Kn : Int) < (cnt sm 0 len : Int) then (Kn : Int) else (cnt sm 0 len : Int)) := by split <;> omega
                rw [← this]
                simp
              have q4 : ((M.l 0).took == (if IntKind.i64.wrap ((Kn : Int) + 1) < (cnt sm 0 len : Int) then IntKind.i64.wrap ((Kn : Int) + 1) else (cnt sm 0 len : Int))) = true := by
                have hw : IntKind.i64.wrap ((Kn : Int) + 1) = (Kn : Int) + 1 := by rw [IntKind.wrap_i64]; omega
                rw [hA0.took, hw, beq_iff_eq]
                split <;> omega
              have q5 : ((M.l 0).done == decide ((cnt sm 0 len : Int) > (Kn : Int))) = true := by
                rw [hA0.done, beq_iff_eq]
                by_cases hc : Kn < cnt sm 0 len
                · rw [decide_eq_true (show (cnt sm 0 len : Int) > (Kn : Int) by omega), show min (cnt sm 0 len) (Kn + 1) = Kn + 1 from by omega]
                  simp
                · rw [decide_eq_false (show ¬ (cnt sm 0 len : Int) > (Kn : Int) by omega)]
                  cases hb : Nat.beq (min (cnt sm 0 len) (Kn + 1)) (Kn + 1) with
                  | false => rfl
                  | true => have := Nat.eq_of_beq_eq_true hb; omega
              show (bif bif bif bif likeP (M.l 1) (l 1) then (M.m 1 == 0) else false then _ else false then _ else false then _ else false) = true
              rw [q1, q2]
              show (bif bif (M.m 0 == IntKind.u64.wrap (if (Kn : Int) < (cnt sm 0 len : Int) then (Kn : Int) else (cnt sm 0 len : Int))) then ((M.l 0).took == (if IntKind.i64.wrap ((Kn : Int) + 1) < (cnt sm 0 len : Int) then IntKind.i64.wrap ((Kn : Int) + 1) else (cnt sm 0 len : Int))) else false then ((M.l 0).done == decide ((cnt sm 0 len : Int) > (Kn : Int))) else false) = true
              rw [q3, q4, q5]
              rfl
          )
    )
end Go.Proofs.Ytndfcbcmeeemfaa.Abs
