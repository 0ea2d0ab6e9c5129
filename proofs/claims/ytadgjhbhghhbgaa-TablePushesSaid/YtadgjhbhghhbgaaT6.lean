/-
  THE LAW TableSnaps as a contract.
-/
import Derived.Test.YtadgjhbhghhbgaaT5
namespace Go.Proofs.Ytadgjhbhghhbgaa.Abs
open Go
set_option maxRecDepth 10000

def tabS1 : Tab := tabAdd 11 (fun args => match args with
  | [.one (.imm (.val (.int .i64 n)))] => some (.tup [tblC (newT n.toNat), iint 0], 1 ≤ n ∧ n ≤ 8)
  | _ => none) (tabAdd 12 (fun args => match args with
  | [c] => match asTbl c with
    | some (t, q) => some (.tup [tblC (openT t), iint (openH t), iint (openE t)], q)
    | none => none
  | _ => none) (tabAdd 14 (fun args => match args with
  | [c, .one (.imm (.val (.int .i64 h)))] => match asTbl c with
    | some (t, q) => some (.tup [tblC (shutT t h), iint (shutE t h)], q)
    | none => none
  | _ => none) tabP1))
theorem tabS1_ok : TabOk Try.prog tabS1 := by
  refine tabAdd_ok rfl (fun args r p h hp => ?_) (tabAdd_ok rfl (fun args r p h hp => ?_) (tabAdd_ok rfl (fun args r p h hp => ?_) tabP1_ok))
  · split at h
    · rename_i n
      simp only [Option.some.injEq, Prod.mk.injEq] at h; obtain ⟨rfl, rfl⟩ := h
      obtain ⟨k, rfl⟩ : ∃ k : Nat, n = k := ⟨n.toNat, by omega⟩
      exact new11 k (by omega) (by omega)
    · cases h
  · split at h
    · split at h
      · rename_i hc
        simp only [Option.some.injEq, Prod.mk.injEq] at h; obtain ⟨rfl, rfl⟩ := h
        exact (open12 _).args (TLe.cons (asTbl_le hc hp) TLe.nil)
      · cases h
    · cases h
  · split at h
    · split at h
      · rename_i hc
        simp only [Option.some.injEq, Prod.mk.injEq] at h; obtain ⟨rfl, rfl⟩ := h
        exact (shut14 _ _).args (TLe.cons (asTbl_le hc hp) (TLe.refl _))
      · cases h
    · cases h

theorem alive13 : PCall Try.prog 13 [] (.cv (ibool true)) := by
  refine PCall_of (ACall_body good Try.func13 rfl 44 rfl (by simp) ?_)
  refine AW_seq ?_
  refine AW_all good tabS1 tabS1_ok rfl rfl ?_ ?_
  · repeat' (first | exact trivial | exact rfl | exact (fun _ _ => rfl) | refine And.intro ?_ ?_ | intro _)
    all_goals (first | omega | exact of_decide_eq_true (by assumption) | decide | exact hmx | exact hbytes | exact hh.1 | exact hh.2 | exact recs_lit | exact ints_lit | (rename_i hg; exact hg) | (rename_i hg; change (_ : Bool) = true; rw [hg]; rfl) | (change (_ : Bool) = true; simp_all; done) | trace_state)
  refine AW_seq ?_
  refine AW_all good tabS1 tabS1_ok rfl rfl ?_ ?_
  · repeat' (first | exact trivial | exact rfl | exact (fun _ _ => rfl) | refine And.intro ?_ ?_ | intro _)
    all_goals (first | omega | exact of_decide_eq_true (by assumption) | decide | exact hmx | exact hbytes | exact hh.1 | exact hh.2 | exact recs_lit | exact ints_lit | (rename_i hg; exact hg) | (rename_i hg; change (_ : Bool) = true; rw [hg]; rfl) | (change (_ : Bool) = true; simp_all; done) | trace_state)
  refine AW_seq ?_
  refine AW_all good tabS1 tabS1_ok rfl rfl ?_ ?_
  · repeat' (first | exact trivial | exact rfl | exact (fun _ _ => rfl) | refine And.intro ?_ ?_ | intro _)
    all_goals (first | omega | exact of_decide_eq_true (by assumption) | decide | exact hmx | exact hbytes | exact hh.1 | exact hh.2 | exact recs_lit | exact ints_lit | (rename_i hg; exact hg) | (rename_i hg; change (_ : Bool) = true; rw [hg]; rfl) | (change (_ : Bool) = true; simp_all; done) | trace_state)
  refine AW_seq ?_
  refine AW_all good tabS1 tabS1_ok rfl rfl ?_ ?_
  · repeat' (first | exact trivial | exact rfl | exact (fun _ _ => rfl) | refine And.intro ?_ ?_ | intro _)
    all_goals (first | omega | exact of_decide_eq_true (by assumption) | decide | exact hmx | exact hbytes | exact hh.1 | exact hh.2 | exact recs_lit | exact ints_lit | (rename_i hg; exact hg) | (rename_i hg; change (_ : Bool) = true; rw [hg]; rfl) | (change (_ : Bool) = true; simp_all; done) | trace_state)
  refine AW_ret (bodyQ_ret rfl ?_ (Ends.intro rfl ?_ ?_))
  · repeat' (first | exact trivial | exact rfl | exact (fun _ _ => rfl) | refine And.intro ?_ ?_ | intro _)
    all_goals (first | omega | exact of_decide_eq_true (by assumption) | decide | exact hmx | exact hbytes | exact hh.1 | exact hh.2 | exact recs_lit | exact ints_lit | (rename_i hg; exact hg) | (rename_i hg; change (_ : Bool) = true; rw [hg]; rfl) | (change (_ : Bool) = true; simp_all; done) | trace_state)
  · repeat' (first | exact trivial | exact rfl | exact (fun _ _ => rfl) | refine And.intro ?_ ?_ | intro _)
    all_goals (first | omega | exact of_decide_eq_true (by assumption) | decide | exact hmx | exact hbytes | exact hh.1 | exact hh.2 | exact recs_lit | exact ints_lit | (rename_i hg; exact hg) | (rename_i hg; change (_ : Bool) = true; rw [hg]; rfl) | (change (_ : Bool) = true; simp_all; done) | trace_state)
  rfl

def tabA1 : Tab := tabAdd 13 (fun args => match args with
  | [] => some (.cv (ibool true), True)
  | _ => none) tabS1
theorem tabA1_ok : TabOk Try.prog tabA1 := by
  refine tabAdd_ok rfl (fun args r p h hp => ?_) tabS1_ok
  split at h
  · simp only [Option.some.injEq, Prod.mk.injEq] at h; obtain ⟨rfl, rfl⟩ := h
    exact alive13
  · cases h

/-- Eight snapshots, of which the first i are open. -/
def snT (n i : Nat) : Tbl := ⟨1, fun _ => beginR n, n, fun _ => -1, 8, fun q => bif Nat.blt q i then 0 else -1⟩
def shT (n k : Nat) : Tbl := ⟨1, fun _ => beginR n, n, fun _ => -1, 8, fun q => bif Nat.beq q k then -1 else bif Nat.blt q 8 then 0 else -1⟩
theorem sn_shp (n i : Nat) : shp (snT n i) = true := rfl
theorem sn_new (n : Nat) : newT n = snT n 0 := by
  have : (fun _ : Nat => (-1 : Int)) = fun q => bif Nat.blt q 0 then 0 else -1 := by
    funext q
    rw [blt_f (Nat.zero_le q)]
    rfl
  unfold newT snT
  rw [← this]
theorem sn_idx {n i : Nat} (h : i < 8) : idxT (snT n i) = i := by
  unfold idxT
  refine idx_found (i := i) h ?_ fun k hk => ?_
  · show ((-1 : Int) == bif Nat.blt i i then 0 else -1) = true
    rw [blt_f (Nat.le_refl i)]
    rfl
  · show ((-1 : Int) == bif Nat.blt k i then 0 else -1) = false
    rw [blt_t hk]
    rfl
theorem sn_full (n : Nat) : idxT (snT n 8) = -1 := by
  unfold idxT
  refine idx_none fun k hk => ?_
  show ((-1 : Int) == bif Nat.blt k 8 then 0 else -1) = false
  rw [blt_t (show k < 8 from hk)]
  rfl
theorem sn_openE {n i : Nat} (h : i < 8) : openE (snT n i) = 0 := by
  unfold openE
  rw [sn_shp, sn_idx h, decide_eq_false (by omega)]
  rfl
theorem sn_openH {n i : Nat} (h : i < 8) : openH (snT n i) = i := by
  unfold openH
  rw [sn_openE h, sn_idx h]
  rfl
theorem sn_openT {n i : Nat} (h : i < 8) : openT (snT n i) = snT n (i + 1) := by
  unfold openT
  rw [sn_openE h, sn_idx h]
  show Tbl.mk _ _ _ _ _ _ = Tbl.mk _ _ _ _ _ _
  congr 1
  funext q
  show (bif Nat.beq q i then 0 else bif Nat.blt q i then (0 : Int) else -1) = bif Nat.blt q (i + 1) then 0 else -1
  rcases Nat.lt_trichotomy q i with h | h | h
  · rw [beq_f (by omega), blt_t h, blt_t (show q < i + 1 by omega)]
    rfl
  · rw [h, Nat.beq_refl, blt_t (show i < i + 1 by omega)]
    rfl
  · rw [beq_f (by omega), blt_f (by omega), blt_f (show i + 1 ≤ q by omega)]
    rfl
theorem sn_fullE (n : Nat) : openE (snT n 8) = 7 := by
  unfold openE
  rw [sn_shp, sn_full]
  rfl
theorem sh_shp (n k : Nat) : shp (shT n k) = true := rfl
theorem sh_shutE {n k : Nat} (h : k < 8) : shutE (snT n 8) k = 0 := by
  unfold shutE badH
  rw [sn_shp, decide_eq_false (show ¬ (k : Int) < 0 by omega), decide_eq_false (show ¬ (k : Int) ≥ ((snT n 8).ns : Nat) by show ¬ (k : Int) ≥ ((8 : Nat) : Int); omega)]
  show (bif ((bif Nat.blt k 8 then (0 : Int) else -1) == -1) then (8 : Int) else 0) = 0
  rw [blt_t h]
  rfl
theorem sh_shutT {n k : Nat} (h : k < 8) : shutT (snT n 8) k = shT n k := by
  unfold shutT
  rw [sh_shutE h]
  rfl
theorem sh_again {n k : Nat} (h : k < 8) : shutE (shT n k) k = 8 := by
  unfold shutE badH
  rw [sh_shp, decide_eq_false (show ¬ (k : Int) < 0 by omega), decide_eq_false (show ¬ (k : Int) ≥ ((shT n k).ns : Nat) by show ¬ (k : Int) ≥ ((8 : Nat) : Int); omega)]
  show (bif ((bif Nat.beq k k then (-1 : Int) else bif Nat.blt k 8 then 0 else -1) == -1) then (8 : Int) else 0) = 8
  rw [Nat.beq_refl]
  rfl
theorem sh_idx {n k : Nat} (h : k < 8) : idxT (shT n k) = k := by
  unfold idxT
  refine idx_found (i := k) h ?_ fun q hq => ?_
  · show ((-1 : Int) == bif Nat.beq k k then -1 else bif Nat.blt k 8 then 0 else -1) = true
    rw [Nat.beq_refl]
    rfl
  · show ((-1 : Int) == bif Nat.beq q k then -1 else bif Nat.blt q 8 then 0 else -1) = false
    rw [beq_f (by omega), blt_t (show q < 8 by omega)]
    rfl
theorem sh_openE {n k : Nat} (h : k < 8) : openE (shT n k) = 0 := by
  unfold openE
  rw [sh_shp, sh_idx h, decide_eq_false (by omega)]
  rfl
theorem sh_openH {n k : Nat} (h : k < 8) : openH (shT n k) = k := by
  unfold openH
  rw [sh_openE h, sh_idx h]
  rfl
theorem sh_openT {n k : Nat} (h : k < 8) : openT (shT n k) = snT n 8 := by
  unfold openT
  rw [sh_openE h, sh_idx h]
  show Tbl.mk _ _ _ _ _ _ = Tbl.mk _ _ _ _ _ _
  congr 1
  funext q
  show (bif Nat.beq q k then 0 else bif Nat.beq q k then -1 else bif Nat.blt q 8 then (0 : Int) else -1) = bif Nat.blt q 8 then 0 else -1
  by_cases hq : q = k
  · rw [hq, Nat.beq_refl, blt_t h]
    rfl
  · rw [beq_f hq]
    rfl
theorem eight (x : Int) : ∃ k : Nat, k < 8 ∧ Int.tmod (IntKind.i64.wrap (Int.tmod x 8 + 8)) 8 = (k : Int) := by
  have h2 := Int.tmod_lt_of_pos x (b := 8) (by omega)
  have h3 : -8 < Int.tmod x 8 := Int.lt_tmod_of_pos x (by omega)
  have e : IntKind.i64.wrap (Int.tmod x 8 + 8) = Int.tmod x 8 + 8 := by rw [IntKind.wrap_i64]; omega
  rw [e]
  have h4 : 0 ≤ Int.tmod (Int.tmod x 8 + 8) 8 := Int.tmod_nonneg _ (by omega)
  have h5 := Int.tmod_lt_of_pos (Int.tmod x 8 + 8) (b := 8) (by omega)
  exact ⟨(Int.tmod (Int.tmod x 8 + 8) 8).toNat, by omega, by omega⟩
def seen (i : Nat) : List Int → Bool
  | [k] => decide (0 ≤ k) && decide (k < i)
  | _ => false

def tblV (t : Tbl) : ABlk := .var 25 [recS t.nr t.rc, iS t.np false t.pn, iS t.ns false t.sn]
theorem seen_len {i : Nat} : ∀ ks, seen i ks = true → ks.length = [IntKind.i64].length
  | [_], _ => rfl
  | [], h => by cases h
  | _ :: _ :: _, h => by cases h
theorem seen_0 : ∀ ks, seen 0 ks = false
  | [k] => by
    show (decide (0 ≤ k) && decide (k < ((0 : Nat) : Int))) = false
    cases h : decide (0 ≤ k) with
    | false => rfl
    | true => have := of_decide_eq_true h; exact decide_eq_false (by omega)
  | [] => rfl
  | _ :: _ :: _ => rfl

theorem seen_succ {i : Nat} : ∀ ks, ks.length = [IntKind.i64].length → seen (i + 1) ks = (eqI [(i : Int)] ks || seen i ks)
  | [k], _ => by
    show (decide (0 ≤ k) && decide (k < ((i + 1 : Nat) : Int))) = (((i : Int) == k && true) || (decide (0 ≤ k) && decide (k < (i : Int))))
    by_cases hk : (i : Int) = k
    · rw [← hk, decide_eq_true (show (0 : Int) ≤ (i : Int) by omega), decide_eq_true (show (i : Int) < ((i + 1 : Nat) : Int) by omega)]
      simp
    · rw [show ((i : Int) == k) = false from beq_eq_false_iff_ne.2 hk, show decide (k < ((i + 1 : Nat) : Int)) = decide (k < (i : Int)) from decide_eq_decide.2 (by omega)]
      simp
  | [], h => by cases h
  | _ :: _ :: _, h => by cases h
theorem sn_cond {i : Nat} : (bif (bif (bif ((0 : Int) != 0) then true else (bif seen i [(i : Int)] then ivBool (IV.val (Value.bool true)) else false)) then true else decide ((i : Int) < 0)) then true else decide ((i : Int) > 7)) = decide ((i : Int) > 7) := by
  have h1 : seen i [(i : Int)] = false := by
    show (decide (0 ≤ (i : Int)) && decide ((i : Int) < i)) = false
    rw [decide_eq_false (show ¬ (i : Int) < i by omega), Bool.and_false]
  rw [h1, decide_eq_false (show ¬ (i : Int) < 0 by omega)]
  rfl

theorem snaps3 (procs : Int) (ns : Nat) (ex : Bool) (shut : Nat → Int) : PCall Try.prog 3 [iint procs, .one (iS ns ex shut)] (.cv (ibool true)) := by
  refine PCall_of (ACall_body good Try.func3 rfl 125 rfl (by simp) ?_)
  refine AW_lenle 1 rfl (fun hm => ?_)
  refine AW_seq ?_
  refine AW_all good tabA1 tabA1_ok rfl rfl ?_ ?_
  · repeat' (first | exact trivial | exact rfl | exact (fun _ _ => rfl) | refine And.intro ?_ ?_ | intro _)
    all_goals (first | omega | exact of_decide_eq_true (by assumption) | decide | exact hmx | exact hbytes | exact hh.1 | exact hh.2 | exact recs_lit | exact ints_lit | (rename_i hg; exact hg) | (rename_i hg; change (_ : Bool) = true; rw [hg]; rfl) | (change (_ : Bool) = true; simp_all; done) | trace_state)
  refine AW_seq ?_
  refine AW_all good tabA1 tabA1_ok rfl rfl ?_ ?_
  · repeat' (first | exact trivial | exact rfl | exact (fun _ _ => rfl) | refine And.intro ?_ ?_ | intro _)
    all_goals (first | omega | exact of_decide_eq_true (by assumption) | decide | exact hmx | exact hbytes | exact hh.1 | exact hh.2 | exact recs_lit | exact ints_lit | (rename_i hg; exact hg) | (rename_i hg; change (_ : Bool) = true; rw [hg]; rfl) | (change (_ : Bool) = true; simp_all; done) | trace_state)
  refine AW_seq ?_
  obtain ⟨k0, hk0, hke⟩ := eight procs
  obtain ⟨n, hn⟩ : ∃ n, n = 1 + k0 := ⟨_, rfl⟩
  refine AW_slot 0 (y := .cv (iint n)) rfl (SLe.of_eq (congrArg (fun z => SV.cv (iint z)) ?_)) ?_
  · show IntKind.i64.wrap (1 + Int.tmod (IntKind.i64.wrap (Int.tmod procs 8 + 8)) 8) = n
    rw [hke, IntKind.wrap_i64]
    omega
  refine AW_all good tabA1 tabA1_ok rfl rfl ?_ ?_
  · repeat' (first | exact trivial | exact rfl | exact (fun _ _ => rfl) | refine And.intro ?_ ?_ | intro _)
    all_goals (first | omega | exact of_decide_eq_true (by assumption) | decide | exact hmx | exact hbytes | exact hh.1 | exact hh.2 | exact recs_lit | exact ints_lit | (rename_i hg; exact hg) | (rename_i hg; change (_ : Bool) = true; rw [hg]; rfl) | (change (_ : Bool) = true; simp_all; done) | trace_state)
  refine AW_seq ?_
  refine AW_all good tabA1 tabA1_ok rfl rfl ?_ ?_
  · repeat' (first | exact trivial | exact rfl | exact (fun _ _ => rfl) | refine And.intro ?_ ?_ | intro _)
    all_goals (first | omega | exact of_decide_eq_true (by assumption) | decide | exact hmx | exact hbytes | exact hh.1 | exact hh.2 | exact recs_lit | exact ints_lit | (rename_i hg; exact hg) | (rename_i hg; change (_ : Bool) = true; rw [hg]; rfl) | (change (_ : Bool) = true; simp_all; done) | trace_state)
  refine AW_seq ?_
  refine AW_seq ?_
  refine AW_all good tabA1 tabA1_ok rfl rfl ?_ ?_
  · repeat' (first | exact trivial | exact rfl | exact (fun _ _ => rfl) | refine And.intro ?_ ?_ | intro _)
    all_goals (first | omega | exact of_decide_eq_true (by assumption) | decide | exact hmx | exact hbytes | exact hh.1 | exact hh.2 | exact recs_lit | exact ints_lit | (rename_i hg; exact hg) | (rename_i hg; change (_ : Bool) = true; rw [hg]; rfl) | (change (_ : Bool) = true; simp_all; done) | trace_state)
  refine AW_block ?_
  refine AW_loopH 2 (fun j : { j : Nat // j ≤ 8 } => [(1, .cv (.one (iS ns ex shut))), (5, .cv (.one (.own 0 0 0 0))), (6, .cv (iint 0)), (7, .cv (.one (.omp 1))), (34, .cv (iint j.1))]) (fun j => [(0, tblV (snT n j.1)), (1, .mp false [.i64] false 1 (seen j.1) fun _ _ => .val (.bool true))]) (fun j => 8 - j.1) ⟨0, Nat.zero_le _⟩ [0, 2] rfl rfl ?_ ?_ ?_
  · exact ⟨SLe.of_eq rfl, SLe.of_eq rfl, SLe.of_eq rfl, SLe.of_eq rfl, SLe.of_eq rfl, trivial⟩
  · exact ⟨⟨rfl, _, rfl, BLe.of_eq (congrArg tblV (sn_new n))⟩, ⟨rfl, _, rfl, BLe.mp (fun ks _ => seen_0 ks) seen_len fun ks j _ h _ => by cases h⟩, trivial⟩
  rintro ⟨i, hi⟩
  dsimp only at hi ⊢
  refine AW_seq ?_
  refine AW_all good tabA1 tabA1_ok rfl rfl ?_ ?_
  · repeat' (first | exact trivial | exact rfl | exact (fun _ _ => rfl) | refine And.intro ?_ ?_ | intro _)
    all_goals (first | omega | exact of_decide_eq_true (by assumption) | decide | exact hmx | exact hbytes | exact hh.1 | exact hh.2 | exact recs_lit | exact ints_lit | (rename_i hg; exact hg) | (rename_i hg; change (_ : Bool) = true; rw [hg]; rfl) | (change (_ : Bool) = true; simp_all; done) | trace_state)
  refine AW_seq ?_
  refine AW_cond rfl (fun h1 => ?_) (fun h1 => ?_)
  · first
    | (exfalso; (cases h1; done); done)
    | (
        refine AW_skip ?_
        refine AW_seq ?_
        refine AW_block ?_
        refine AW_seq ?_
        refine AW_all good tabA1 tabA1_ok rfl rfl ?_ ?_
        · repeat' (first | exact trivial | exact rfl | exact (fun _ _ => rfl) | refine And.intro ?_ ?_ | intro _)
          all_goals (first | omega | exact of_decide_eq_true (by assumption) | decide | exact hmx | exact hbytes | exact hh.1 | exact hh.2 | exact recs_lit | exact ints_lit | (rename_i hg; exact hg) | (rename_i hg; change (_ : Bool) = true; rw [hg]; rfl) | (change (_ : Bool) = true; simp_all; done) | trace_state)
        refine AW_seq ?_
        refine AW_seq ?_
        have hlt : i < 8 := by
          have := of_decide_eq_true h1
          omega
        refine AW_tell [(1, .cv (.one (iS ns ex shut))), (5, .cv (.one (.own 0 0 0 0))), (6, .cv (iint 0)), (7, .cv (.one (.omp 1))), (8, .cv (.one (.own 2 0 0 0))), (9, .cv (iint i)), (10, .cv (iint 0)), (34, .cv (iint i))] [(0, tblV (snT n i)), (1, .mp false [.i64] false 1 (seen i) fun _ _ => .val (.bool true)), (2, tblV (snT n (i + 1)))] [0, 1, 2] rfl rfl ⟨SLe.of_eq rfl, SLe.of_eq rfl, SLe.of_eq rfl, SLe.of_eq rfl, SLe.of_eq rfl, SLe.of_eq (congrArg (fun z => SV.cv (iint z)) (sn_openH hlt)), SLe.of_eq (congrArg (fun z => SV.cv (iint z)) (sn_openE hlt)), SLe.of_eq rfl, trivial⟩ ⟨⟨rfl, _, rfl, BLe.of_eq rfl⟩, ⟨rfl, _, rfl, BLe.of_eq rfl⟩, ⟨rfl, _, rfl, BLe.of_eq (congrArg tblV (sn_openT hlt))⟩, trivial⟩ ?_
        refine AW_all good tabA1 tabA1_ok rfl rfl ?_ ?_
        · repeat' (first | exact trivial | exact rfl | exact (fun _ _ => rfl) | refine And.intro ?_ ?_ | intro _)
          all_goals (first | omega | exact of_decide_eq_true (by assumption) | decide | exact hmx | exact hbytes | exact hh.1 | exact hh.2 | exact recs_lit | exact ints_lit | (rename_i hg; exact hg) | (rename_i hg; change (_ : Bool) = true; rw [hg]; rfl) | (change (_ : Bool) = true; simp_all; done) | trace_state)
        refine AW_cond rfl (fun h2 => ?_) (fun h2 => ?_)
        · first
          | (exfalso; (cases h2; done); done)
          | (
              refine AW_seq ?_
              refine AW_all good tabA1 tabA1_ok rfl rfl ?_ ?_
              · repeat' (first | exact trivial | exact rfl | exact (fun _ _ => rfl) | refine And.intro ?_ ?_ | intro _)
                all_goals (first | omega | exact of_decide_eq_true (by assumption) | decide | exact hmx | exact hbytes | exact hh.1 | exact hh.2 | exact recs_lit | exact ints_lit | (rename_i hg; exact hg) | (rename_i hg; change (_ : Bool) = true; rw [hg]; rfl) | (change (_ : Bool) = true; simp_all; done) | trace_state)
              refine AW_ret (bodyQ_ret rfl ?_ (Ends.intro rfl ?_ ?_))
              · repeat' (first | exact trivial | exact rfl | exact (fun _ _ => rfl) | refine And.intro ?_ ?_ | intro _)
                all_goals (first | omega | exact of_decide_eq_true (by assumption) | decide | exact hmx | exact hbytes | exact hh.1 | exact hh.2 | exact recs_lit | exact ints_lit | (rename_i hg; exact hg) | (rename_i hg; change (_ : Bool) = true; rw [hg]; rfl) | (change (_ : Bool) = true; simp_all; done) | trace_state)
              · repeat' (first | exact trivial | exact rfl | exact (fun _ _ => rfl) | refine And.intro ?_ ?_ | intro _)
                all_goals (first | omega | exact of_decide_eq_true (by assumption) | decide | exact hmx | exact hbytes | exact hh.1 | exact hh.2 | exact recs_lit | exact ints_lit | (rename_i hg; exact hg) | (rename_i hg; change (_ : Bool) = true; rw [hg]; rfl) | (change (_ : Bool) = true; simp_all; done) | trace_state)
              have := of_decide_eq_true (sn_cond.symm.trans h2)
              omega
          )
        · first
          | (exfalso; (cases h2; done); done)
          | (
              refine AW_skip ?_
              refine AW_all good tabA1 tabA1_ok rfl rfl ?_ ?_
              · repeat' (first | exact trivial | exact rfl | exact (fun _ _ => rfl) | refine And.intro ?_ ?_ | intro _)
                all_goals (first | omega | exact of_decide_eq_true (by assumption) | decide | exact hmx | exact hbytes | exact hh.1 | exact hh.2 | exact recs_lit | exact ints_lit | (rename_i hg; exact hg) | (rename_i hg; change (_ : Bool) = true; rw [hg]; rfl) | (change (_ : Bool) = true; simp_all; done) | trace_state)
              refine AW_all good tabA1 tabA1_ok rfl rfl ?_ ?_
              · repeat' (first | exact trivial | exact rfl | exact (fun _ _ => rfl) | refine And.intro ?_ ?_ | intro _)
                all_goals (first | omega | exact of_decide_eq_true (by assumption) | decide | exact hmx | exact hbytes | exact hh.1 | exact hh.2 | exact recs_lit | exact ints_lit | (rename_i hg; exact hg) | (rename_i hg; change (_ : Bool) = true; rw [hg]; rfl) | (change (_ : Bool) = true; simp_all; done) | trace_state)
              refine loopH_next ⟨i + 1, hlt⟩ [0, 1] rfl rfl ⟨SLe.of_eq rfl, SLe.of_eq rfl, SLe.of_eq rfl, SLe.of_eq rfl, SLe.of_eq (congrArg (fun z => SV.cv (iint z)) (by show IntKind.i64.wrap ((i : Int) + 1) = ((i + 1 : Nat) : Int); rw [IntKind.wrap_i64]; omega)), trivial⟩ ⟨⟨rfl, _, rfl, BLe.of_eq rfl⟩, ⟨rfl, _, rfl, BLe.mp (fun ks hk => seen_succ ks hk) seen_len fun ks j _ h _ => ILe.of_eq ?_⟩, trivial⟩ ?_
              · obtain rfl : j = 0 := by omega
                show (bif eqI [(i : Int)] ks then (fun j => [ivOf (Value.bool true)].getD j ivDef) else fun _ => IV.val (Value.bool true)) 0 = _
                cases eqI [(i : Int)] ks <;> rfl
              show 8 - (i + 1) < 8 - i
              omega
          )
    )
  · first
    | (exfalso; (cases h1; done); done)
    | (
        refine AW_exit ?_
        refine AW_seq ?_
        refine AW_seq ?_
        have he : i = 8 := by
          have := of_decide_eq_false h1
          omega
        subst he
        refine AW_all good tabA1 tabA1_ok rfl rfl ?_ ?_
        · repeat' (first | exact trivial | exact rfl | exact (fun _ _ => rfl) | refine And.intro ?_ ?_ | intro _)
          all_goals (first | omega | exact of_decide_eq_true (by assumption) | decide | exact hmx | exact hbytes | exact hh.1 | exact hh.2 | exact recs_lit | exact ints_lit | (rename_i hg; exact hg) | (rename_i hg; change (_ : Bool) = true; rw [hg]; rfl) | (change (_ : Bool) = true; simp_all; done) | trace_state)
        refine AW_seq ?_
        refine AW_tell [(1, .cv (.one (iS ns ex shut))), (5, .cv (.one (.own 0 0 0 0))), (6, .cv (iint 0)), (13, .cv (iint 7))] [(0, tblV (snT n 8))] [0] rfl rfl ⟨SLe.of_eq rfl, SLe.of_eq rfl, SLe.of_eq rfl, SLe.of_eq (congrArg (fun z => SV.cv (iint z)) (sn_fullE n)), trivial⟩ ⟨⟨rfl, _, rfl, BLe.of_eq rfl⟩, trivial⟩ ?_
        refine AW_all good tabA1 tabA1_ok rfl rfl ?_ ?_
        · repeat' (first | exact trivial | exact rfl | exact (fun _ _ => rfl) | refine And.intro ?_ ?_ | intro _)
          all_goals (first | omega | exact of_decide_eq_true (by assumption) | decide | exact hmx | exact hbytes | exact hh.1 | exact hh.2 | exact recs_lit | exact ints_lit | (rename_i hg; exact hg) | (rename_i hg; change (_ : Bool) = true; rw [hg]; rfl) | (change (_ : Bool) = true; simp_all; done) | trace_state)
        refine AW_cond rfl (fun h3 => ?_) (fun h3 => ?_)
        · first
          | (exfalso; (cases h3; done); done)
          | (
              refine AW_seq ?_
              refine AW_all good tabA1 tabA1_ok rfl rfl ?_ ?_
              · repeat' (first | exact trivial | exact rfl | exact (fun _ _ => rfl) | refine And.intro ?_ ?_ | intro _)
                all_goals (first | omega | exact of_decide_eq_true (by assumption) | decide | exact hmx | exact hbytes | exact hh.1 | exact hh.2 | exact recs_lit | exact ints_lit | (rename_i hg; exact hg) | (rename_i hg; change (_ : Bool) = true; rw [hg]; rfl) | (change (_ : Bool) = true; simp_all; done) | trace_state)
              refine AW_ret (bodyQ_ret rfl ?_ (Ends.intro rfl ?_ ?_))
              · repeat' (first | exact trivial | exact rfl | exact (fun _ _ => rfl) | refine And.intro ?_ ?_ | intro _)
                all_goals (first | omega | exact of_decide_eq_true (by assumption) | decide | exact hmx | exact hbytes | exact hh.1 | exact hh.2 | exact recs_lit | exact ints_lit | (rename_i hg; exact hg) | (rename_i hg; change (_ : Bool) = true; rw [hg]; rfl) | (change (_ : Bool) = true; simp_all; done) | trace_state)
              · repeat' (first | exact trivial | exact rfl | exact (fun _ _ => rfl) | refine And.intro ?_ ?_ | intro _)
                all_goals (first | omega | exact of_decide_eq_true (by assumption) | decide | exact hmx | exact hbytes | exact hh.1 | exact hh.2 | exact recs_lit | exact ints_lit | (rename_i hg; exact hg) | (rename_i hg; change (_ : Bool) = true; rw [hg]; rfl) | (change (_ : Bool) = true; simp_all; done) | trace_state)
              fail
          )
        · first
          | (exfalso; (cases h3; done); done)
          | (
              refine AW_skip ?_
              refine AW_seq ?_
              refine AW_seq ?_
              refine AW_all good tabA1 tabA1_ok rfl rfl ?_ ?_
              · repeat' (first | exact trivial | exact rfl | exact (fun _ _ => rfl) | refine And.intro ?_ ?_ | intro _)
                all_goals (first | omega | exact of_decide_eq_true (by assumption) | decide | exact hmx | exact hbytes | exact hh.1 | exact hh.2 | exact recs_lit | exact ints_lit | (rename_i hg; exact hg) | (rename_i hg; change (_ : Bool) = true; rw [hg]; rfl) | (change (_ : Bool) = true; simp_all; done) | trace_state)
              refine AW_block ?_
              refine AW_loopH 1 (fun j : { j : Nat // j ≤ ns } => [(1, .cv (.one (iS ns ex shut))), (5, .cv (.one (.own 0 0 0 0))), (77, .cv (.one (iS ns ex shut))), (78, .cv (iint ns)), (79, .cv (iint j.1))]) (fun j => [(0, tblV (snT n 8))]) (fun j => ns - j.1) ⟨0, Nat.zero_le _⟩ [0] rfl rfl ?_ ?_ ?_
              · exact ⟨SLe.of_eq rfl, SLe.of_eq rfl, SLe.of_eq rfl, SLe.of_eq rfl, SLe.of_eq rfl, trivial⟩
              · exact ⟨⟨rfl, _, rfl, BLe.of_eq rfl⟩, trivial⟩
              rintro ⟨j, hj⟩
              dsimp only at hj ⊢
              refine AW_seq ?_
              refine AW_all good tabA1 tabA1_ok rfl rfl ?_ ?_
              · repeat' (first | exact trivial | exact rfl | exact (fun _ _ => rfl) | refine And.intro ?_ ?_ | intro _)
                all_goals (first | omega | exact of_decide_eq_true (by assumption) | decide | exact hmx | exact hbytes | exact hh.1 | exact hh.2 | exact recs_lit | exact ints_lit | (rename_i hg; exact hg) | (rename_i hg; change (_ : Bool) = true; rw [hg]; rfl) | (change (_ : Bool) = true; simp_all; done) | trace_state)
              refine AW_seq ?_
              refine AW_cond rfl (fun h4 => ?_) (fun h4 => ?_)
              · first
                | (exfalso; (cases h4; done); done)
                | (
                    refine AW_skip ?_
                    refine AW_seq ?_
                    refine AW_block ?_
                    refine AW_seq ?_
                    have hltj : j < ns := by simpa using h4
                    refine AW_all good tabA1 tabA1_ok rfl rfl ?_ ?_
                    · repeat' (first | exact trivial | exact rfl | exact (fun _ _ => rfl) | refine And.intro ?_ ?_ | intro _)
                      all_goals (first | omega | exact of_decide_eq_true (by assumption) | decide | exact hmx | exact hbytes | exact hh.1 | exact hh.2 | exact recs_lit | exact ints_lit | (rename_i hg; exact hg) | (rename_i hg; change (_ : Bool) = true; rw [hg]; rfl) | (change (_ : Bool) = true; simp_all; done) | trace_state)
                    refine AW_seq ?_
                    refine AW_seq ?_
                    refine AW_all good tabA1 tabA1_ok rfl rfl ?_ ?_
                    · repeat' (first | exact trivial | exact rfl | exact (fun _ _ => rfl) | refine And.intro ?_ ?_ | intro _)
                      all_goals (first | omega | exact of_decide_eq_true (by assumption) | decide | exact hmx | exact hbytes | exact hh.1 | exact hh.2 | exact recs_lit | exact ints_lit | (rename_i hg; exact hg) | (rename_i hg; change (_ : Bool) = true; rw [hg]; rfl) | (change (_ : Bool) = true; simp_all; done) | trace_state)
                    refine AW_cond rfl (fun h5 => ?_) (fun h5 => ?_)
                    · first
                      | (exfalso; (cases h5; done); done)
                      | (
                          refine AW_exit ?_
                          refine AW_seq ?_
                          refine AW_all good tabA1 tabA1_ok rfl rfl ?_ ?_
                          · repeat' (first | exact trivial | exact rfl | exact (fun _ _ => rfl) | refine And.intro ?_ ?_ | intro _)
                            all_goals (first | omega | exact of_decide_eq_true (by assumption) | decide | exact hmx | exact hbytes | exact hh.1 | exact hh.2 | exact recs_lit | exact ints_lit | (rename_i hg; exact hg) | (rename_i hg; change (_ : Bool) = true; rw [hg]; rfl) | (change (_ : Bool) = true; simp_all; done) | trace_state)
                          refine AW_ret (bodyQ_ret rfl ?_ (Ends.intro rfl ?_ ?_))
                          · repeat' (first | exact trivial | exact rfl | exact (fun _ _ => rfl) | refine And.intro ?_ ?_ | intro _)
                            all_goals (first | omega | exact of_decide_eq_true (by assumption) | decide | exact hmx | exact hbytes | exact hh.1 | exact hh.2 | exact recs_lit | exact ints_lit | (rename_i hg; exact hg) | (rename_i hg; change (_ : Bool) = true; rw [hg]; rfl) | (change (_ : Bool) = true; simp_all; done) | trace_state)
                          · repeat' (first | exact trivial | exact rfl | exact (fun _ _ => rfl) | refine And.intro ?_ ?_ | intro _)
                            all_goals (first | omega | exact of_decide_eq_true (by assumption) | decide | exact hmx | exact hbytes | exact hh.1 | exact hh.2 | exact recs_lit | exact ints_lit | (rename_i hg; exact hg) | (rename_i hg; change (_ : Bool) = true; rw [hg]; rfl) | (change (_ : Bool) = true; simp_all; done) | trace_state)
                          rfl
                      )
                    · first
                      | (exfalso; (cases h5; done); done)
                      | (
                          refine AW_skip ?_
                          refine AW_seq ?_
                          refine AW_all good tabA1 tabA1_ok rfl rfl ?_ ?_
                          · repeat' (first | exact trivial | exact rfl | exact (fun _ _ => rfl) | refine And.intro ?_ ?_ | intro _)
                            all_goals (first | omega | exact of_decide_eq_true (by assumption) | decide | exact hmx | exact hbytes | exact hh.1 | exact hh.2 | exact recs_lit | exact ints_lit | (rename_i hg; exact hg) | (rename_i hg; change (_ : Bool) = true; rw [hg]; rfl) | (change (_ : Bool) = true; simp_all; done) | trace_state)
                          refine AW_seq ?_
                          obtain ⟨k, hk, hke2⟩ := eight (shut (j : Int).toNat)
                          refine AW_slot 15 (y := .cv (iint k)) rfl (SLe.of_eq (congrArg (fun z => SV.cv (iint z)) hke2)) ?_
                          refine AW_all good tabA1 tabA1_ok rfl rfl ?_ ?_
                          · repeat' (first | exact trivial | exact rfl | exact (fun _ _ => rfl) | refine And.intro ?_ ?_ | intro _)
                            all_goals (first | omega | exact of_decide_eq_true (by assumption) | decide | exact hmx | exact hbytes | exact hh.1 | exact hh.2 | exact recs_lit | exact ints_lit | (rename_i hg; exact hg) | (rename_i hg; change (_ : Bool) = true; rw [hg]; rfl) | (change (_ : Bool) = true; simp_all; done) | trace_state)
                          refine AW_seq ?_
                          refine AW_tell [(1, .cv (.one (iS ns ex shut))), (5, .cv (.one (.own 0 0 0 0))), (77, .cv (.one (iS ns ex shut))), (78, .cv (iint ns)), (79, .cv (iint j)), (15, .cv (iint k)), (16, .cv (.one (.own 1 0 0 0))), (17, .cv (iint 0))] [(0, tblV (snT n 8)), (1, tblV (shT n k))] [0, 1] rfl rfl ⟨SLe.of_eq rfl, SLe.of_eq rfl, SLe.of_eq rfl, SLe.of_eq rfl, SLe.of_eq rfl, SLe.of_eq rfl, SLe.of_eq rfl, SLe.of_eq (congrArg (fun z => SV.cv (iint z)) (sh_shutE hk)), trivial⟩ ⟨⟨rfl, _, rfl, BLe.of_eq rfl⟩, ⟨rfl, _, rfl, BLe.of_eq (congrArg tblV (sh_shutT hk))⟩, trivial⟩ ?_
                          refine AW_all good tabA1 tabA1_ok rfl rfl ?_ ?_
                          · repeat' (first | exact trivial | exact rfl | exact (fun _ _ => rfl) | refine And.intro ?_ ?_ | intro _)
                            all_goals (first | omega | exact of_decide_eq_true (by assumption) | decide | exact hmx | exact hbytes | exact hh.1 | exact hh.2 | exact recs_lit | exact ints_lit | (rename_i hg; exact hg) | (rename_i hg; change (_ : Bool) = true; rw [hg]; rfl) | (change (_ : Bool) = true; simp_all; done) | trace_state)
                          refine AW_seq ?_
                          refine AW_all good tabA1 tabA1_ok rfl rfl ?_ ?_
                          · repeat' (first | exact trivial | exact rfl | exact (fun _ _ => rfl) | refine And.intro ?_ ?_ | intro _)
                            all_goals (first | omega | exact of_decide_eq_true (by assumption) | decide | exact hmx | exact hbytes | exact hh.1 | exact hh.2 | exact recs_lit | exact ints_lit | (rename_i hg; exact hg) | (rename_i hg; change (_ : Bool) = true; rw [hg]; rfl) | (change (_ : Bool) = true; simp_all; done) | trace_state)
                          refine AW_seq ?_
                          refine AW_seq ?_
                          refine AW_tell [(1, .cv (.one (iS ns ex shut))), (5, .cv (.one (.own 0 0 0 0))), (77, .cv (.one (iS ns ex shut))), (78, .cv (iint ns)), (79, .cv (iint j)), (15, .cv (iint k)), (17, .cv (iint 0)), (19, .cv (iint 8)), (20, .cv (.one (.own 1 0 0 0))), (21, .cv (iint k)), (22, .cv (iint 0))] [(0, tblV (snT n 8)), (1, tblV (snT n 8))] [0, 4] rfl rfl ⟨SLe.of_eq rfl, SLe.of_eq rfl, SLe.of_eq rfl, SLe.of_eq rfl, SLe.of_eq rfl, SLe.of_eq rfl, SLe.of_eq rfl, SLe.of_eq (congrArg (fun z => SV.cv (iint z)) (sh_again hk)), SLe.of_eq rfl, SLe.of_eq (congrArg (fun z => SV.cv (iint z)) (sh_openH hk)), SLe.of_eq (congrArg (fun z => SV.cv (iint z)) (sh_openE hk)), trivial⟩ ⟨⟨rfl, _, rfl, BLe.of_eq rfl⟩, ⟨rfl, _, rfl, BLe.of_eq (congrArg tblV (sh_openT hk))⟩, trivial⟩ ?_
                          refine AW_all good tabA1 tabA1_ok rfl rfl ?_ ?_
                          · repeat' (first | exact trivial | exact rfl | exact (fun _ _ => rfl) | refine And.intro ?_ ?_ | intro _)
                            all_goals (first | omega | exact of_decide_eq_true (by assumption) | decide | exact hmx | exact hbytes | exact hh.1 | exact hh.2 | exact recs_lit | exact ints_lit | (rename_i hg; exact hg) | (rename_i hg; change (_ : Bool) = true; rw [hg]; rfl) | (change (_ : Bool) = true; simp_all; done) | trace_state)
                          refine AW_cond rfl (fun h6 => ?_) (fun h6 => ?_)
                          · first
                            | (exfalso; (cases h6; done); done)
                            | (
                                refine AW_seq ?_
                                refine AW_all good tabA1 tabA1_ok rfl rfl ?_ ?_
                                · repeat' (first | exact trivial | exact rfl | exact (fun _ _ => rfl) | refine And.intro ?_ ?_ | intro _)
                                  all_goals (first | omega | exact of_decide_eq_true (by assumption) | decide | exact hmx | exact hbytes | exact hh.1 | exact hh.2 | exact recs_lit | exact ints_lit | (rename_i hg; exact hg) | (rename_i hg; change (_ : Bool) = true; rw [hg]; rfl) | (change (_ : Bool) = true; simp_all; done) | trace_state)
                                refine AW_ret (bodyQ_ret rfl ?_ (Ends.intro rfl ?_ ?_))
                                · repeat' (first | exact trivial | exact rfl | exact (fun _ _ => rfl) | refine And.intro ?_ ?_ | intro _)
                                  all_goals (first | omega | exact of_decide_eq_true (by assumption) | decide | exact hmx | exact hbytes | exact hh.1 | exact hh.2 | exact recs_lit | exact ints_lit | (rename_i hg; exact hg) | (rename_i hg; change (_ : Bool) = true; rw [hg]; rfl) | (change (_ : Bool) = true; simp_all; done) | trace_state)
                                · repeat' (first | exact trivial | exact rfl | exact (fun _ _ => rfl) | refine And.intro ?_ ?_ | intro _)
                                  all_goals (first | omega | exact of_decide_eq_true (by assumption) | decide | exact hmx | exact hbytes | exact hh.1 | exact hh.2 | exact recs_lit | exact ints_lit | (rename_i hg; exact hg) | (rename_i hg; change (_ : Bool) = true; rw [hg]; rfl) | (change (_ : Bool) = true; simp_all; done) | trace_state)
                                simp at h6
                            )
                          · first
                            | (exfalso; (cases h6; done); done)
                            | (
                                refine AW_skip ?_
                                refine AW_all good tabA1 tabA1_ok rfl rfl ?_ ?_
                                · repeat' (first | exact trivial | exact rfl | exact (fun _ _ => rfl) | refine And.intro ?_ ?_ | intro _)
                                  all_goals (first | omega | exact of_decide_eq_true (by assumption) | decide | exact hmx | exact hbytes | exact hh.1 | exact hh.2 | exact recs_lit | exact ints_lit | (rename_i hg; exact hg) | (rename_i hg; change (_ : Bool) = true; rw [hg]; rfl) | (change (_ : Bool) = true; simp_all; done) | trace_state)
                                refine AW_all good tabA1 tabA1_ok rfl rfl ?_ ?_
                                · repeat' (first | exact trivial | exact rfl | exact (fun _ _ => rfl) | refine And.intro ?_ ?_ | intro _)
                                  all_goals (first | omega | exact of_decide_eq_true (by assumption) | decide | exact hmx | exact hbytes | exact hh.1 | exact hh.2 | exact recs_lit | exact ints_lit | (rename_i hg; exact hg) | (rename_i hg; change (_ : Bool) = true; rw [hg]; rfl) | (change (_ : Bool) = true; simp_all; done) | trace_state)
                                refine loopH_next ⟨j + 1, hltj⟩ [0] rfl rfl ⟨SLe.of_eq rfl, SLe.of_eq rfl, SLe.of_eq rfl, SLe.of_eq rfl, SLe.of_eq (congrArg (fun z => SV.cv (iint z)) (next_int j ns hltj hm)), trivial⟩ ⟨⟨rfl, _, rfl, BLe.of_eq rfl⟩, trivial⟩ ?_
                                show ns - (j + 1) < ns - j
                                omega
                            )
                      )
                )
              · first
                | (exfalso; (cases h4; done); done)
                | (
                    refine AW_exit ?_
                    refine AW_seq ?_
                    refine AW_all good tabA1 tabA1_ok rfl rfl ?_ ?_
                    · repeat' (first | exact trivial | exact rfl | exact (fun _ _ => rfl) | refine And.intro ?_ ?_ | intro _)
                      all_goals (first | omega | exact of_decide_eq_true (by assumption) | decide | exact hmx | exact hbytes | exact hh.1 | exact hh.2 | exact recs_lit | exact ints_lit | (rename_i hg; exact hg) | (rename_i hg; change (_ : Bool) = true; rw [hg]; rfl) | (change (_ : Bool) = true; simp_all; done) | trace_state)
                    refine AW_ret (bodyQ_ret rfl ?_ (Ends.intro rfl ?_ ?_))
                    · repeat' (first | exact trivial | exact rfl | exact (fun _ _ => rfl) | refine And.intro ?_ ?_ | intro _)
                      all_goals (first | omega | exact of_decide_eq_true (by assumption) | decide | exact hmx | exact hbytes | exact hh.1 | exact hh.2 | exact recs_lit | exact ints_lit | (rename_i hg; exact hg) | (rename_i hg; change (_ : Bool) = true; rw [hg]; rfl) | (change (_ : Bool) = true; simp_all; done) | trace_state)
                    · repeat' (first | exact trivial | exact rfl | exact (fun _ _ => rfl) | refine And.intro ?_ ?_ | intro _)
                      all_goals (first | omega | exact of_decide_eq_true (by assumption) | decide | exact hmx | exact hbytes | exact hh.1 | exact hh.2 | exact recs_lit | exact ints_lit | (rename_i hg; exact hg) | (rename_i hg; change (_ : Bool) = true; rw [hg]; rfl) | (change (_ : Bool) = true; simp_all; done) | trace_state)
                    rfl
                )
          )
    )
end Go.Proofs.Ytadgjhbhghhbgaa.Abs
