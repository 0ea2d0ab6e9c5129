/-
  THE CONTRACTS OF PACKAGE machine (5): a step.
-/
import Derived.Test.YtndfcbcmeeemfaaYM1
import Derived.Test.YtndfcbcmeeemfaaX6
namespace Go.Proofs.Ytndfcbcmeeemfaa.Abs
open Go
set_option maxRecDepth 10000

/-- Calls on words that may be. -/
def tabK : Tab := tabAdd 20 (fun args => match args with
  | [.one (.imm (.sl 1 n _ cell)), .one (.imm (.val (.int .i64 at_)))] => some (.tup [iu (wordsAt cell at_.toNat), iint 0], isWords n cell ∧ badAt n at_ = false)
  | _ => none) (tabAdd 22 (fun args => match args with
  | [.one (.imm (.sl 1 n _ cell)), .one (.imm (.val (.int .i64 at_))), .one (.imm (.val (.int .u64 v)))] => some (.tup [.one (uS n false (putW (wordsAt cell) at_ v)), iint 0], isWords n cell ∧ badAt n at_ = false)
  | _ => none) (tabAdd 16 (fun args => match args with
  | [.one (.imm (.sl 1 n _ cell)), .one (.imm (.val (.int .i64 at_))), .one (.imm (.val (.int .u64 old))), .one (.imm (.val (.int .u64 v)))] => some (.tup [.one (uS n false (putW (wordsAt cell) at_ (casG old v (wordsAt cell at_.toNat)).1)), ibool ((casG old v (wordsAt cell at_.toNat)).2 == 1), iint 0], isWords n cell ∧ badAt n at_ = false)
  | _ => none) (tabAdd 17 (fun args => match args with
  | [.one (.imm (.sl 1 n _ cell)), .one (.imm (.val (.int .i64 at_))), .one (.imm (.val (.int .u64 v)))] => some (.tup [.one (uS n false (putW (wordsAt cell) at_ (IntKind.u64.wrap (wordsAt cell at_.toNat + v)))), iu (wordsAt cell at_.toNat), iint 0], isWords n cell ∧ badAt n at_ = false)
  | _ => none) tabJ)))
theorem tabK_ok : TabOk Try.prog tabK := by
  refine tabAdd_ok rfl (fun args r p h hp => ?_) (tabAdd_ok rfl (fun args r p h hp => ?_) (tabAdd_ok rfl (fun args r p h hp => ?_) (tabAdd_ok rfl (fun args r p h hp => ?_) tabJ_ok)))
  · split at h
    · rename_i n ex cell at_
      simp only [Option.some.injEq, Prod.mk.injEq] at h; obtain ⟨rfl, rfl⟩ := h
      have := (load20 n ex (wordsAt cell) at_).args (TLe.cons (words_le (ex := ex) hp.1) (TLe.refl [iint at_]))
      simp only [loadV, errAt, hp.2, cond_false] at this
      exact this
    · cases h
  · split at h
    · rename_i n ex cell at_ v
      simp only [Option.some.injEq, Prod.mk.injEq] at h; obtain ⟨rfl, rfl⟩ := h
      have := (store22 n ex (wordsAt cell) at_ v).args (TLe.cons (words_le (ex := ex) hp.1) (TLe.refl [iint at_, iu v]))
      simp only [storeV, errAt, hp.2, cond_false] at this
      exact this
    · cases h
  · split at h
    · rename_i n ex cell at_ old v
      simp only [Option.some.injEq, Prod.mk.injEq] at h; obtain ⟨rfl, rfl⟩ := h
      have := (cas16 n ex (wordsAt cell) at_ old v).args (TLe.cons (words_le (ex := ex) hp.1) (TLe.refl [iint at_, iu old, iu v]))
      simp only [casV, errAt, hp.2, cond_false] at this
      exact this
    · cases h
  · split at h
    · rename_i n ex cell at_ v
      simp only [Option.some.injEq, Prod.mk.injEq] at h; obtain ⟨rfl, rfl⟩ := h
      have := (add17 n ex (wordsAt cell) at_ v).args (TLe.cons (words_le (ex := ex) hp.1) (TLe.refl [iint at_, iu v]))
      simp only [callV, hp.2, cond_false] at this
      exact this
    · cases h

structure Core where
  m : Nat → Int
  r0 : Int
  r1 : Int
  r2 : Int
  r3 : Int
  nx : Int
def getR (r0 r1 r2 r3 k : Int) : Int := bif k == 0 then r0 else bif k == 1 then r1 else bif k == 2 then r2 else r3
def Core.set (c : Core) (k v : Int) : Core := ⟨c.m, bif k == 0 then v else c.r0, bif k == 1 then v else c.r1, bif k == 2 then v else c.r2, bif k == 3 then v else c.r3, c.nx⟩
/-- What an instruction does to words and registers, and where it goes. -/
def coreM (m : Nat → Int) (r0 r1 r2 r3 pat : Int) (n : Nat) (I : Ins) : Core :=
  bif I.kd == 1 then Core.set ⟨m, r0, r1, r2, r3, pat + 1⟩ I.rg (m I.at_.toNat)
  else bif I.kd == 2 then ⟨putW m I.at_ (getR r0 r1 r2 r3 I.rg), r0, r1, r2, r3, pat + 1⟩
  else bif I.kd == 3 then Core.set ⟨putW m I.at_ (casG I.a (getR r0 r1 r2 r3 I.rg) (m I.at_.toNat)).1, r0, r1, r2, r3, pat + 1⟩ I.rg (casG I.a (getR r0 r1 r2 r3 I.rg) (m I.at_.toNat)).2
  else bif I.kd == 4 then Core.set ⟨putW m I.at_ (IntKind.u64.wrap (m I.at_.toNat + I.a)), r0, r1, r2, r3, pat + 1⟩ I.rg (m I.at_.toNat)
  else bif I.kd == 5 then Core.set ⟨m, r0, r1, r2, r3, pat + 1⟩ I.rg I.a
  else bif I.kd == 6 then Core.set ⟨m, r0, r1, r2, r3, pat + 1⟩ I.rg (IntKind.u64.wrap (getR r0 r1 r2 r3 I.rg + getR r0 r1 r2 r3 I.b))
  else bif I.kd == 7 then ⟨m, r0, r1, r2, r3, bif getR r0 r1 r2 r3 I.rg == 0 then I.b else pat + 1⟩
  else ⟨m, r0, r1, r2, r3, n⟩
def coreP (m : Nat → Int) (p : Prc) : Core := coreM m p.r0 p.r1 p.r2 p.r3 p.at_ p.n (p.prog p.at_.toNat)
def stops (p : Prc) : Bool := bif p.done then true else decide (p.took ≥ 1099511627776)
/-- A process's step. -/
def stepW (m : Nat → Int) (p : Prc) : Nat → Int := bif stops p then m else (coreP m p).m
def stepP (m : Nat → Int) (p : Prc) : Prc := bif stops p then p else
  ⟨p.n, p.prog, bif (coreP m p).nx == p.n then p.at_ else (coreP m p).nx, (coreP m p).r0, (coreP m p).r1, (coreP m p).r2, (coreP m p).r3, (coreP m p).nx == p.n, p.took + 1⟩

theorem may_facts {p : Prc} (h : mayP p = true) : 1 ≤ p.n ∧ p.n ≤ 64 ∧ 0 ≤ p.at_ ∧ p.at_ < p.n ∧ 0 ≤ p.took ∧ p.took ≤ 1099511627776 ∧ ∀ i, i < p.n → mayI (p.prog i) p.n = true := by
  simp only [mayP, Bool.and_eq_true, decide_eq_true_eq, Bool.not_eq_true', anyB, List.any_eq_false, List.mem_range] at h
  obtain ⟨h1, h2, h3, h4, h5, h6, h7⟩ := h
  refine ⟨by omega, by omega, by omega, by omega, by omega, by omega, fun i hi => ?_⟩
  have := h7 i hi
  simpa using this
theorem ins_facts {I : Ins} {n : Int} (h : mayI I n = true) : 1 ≤ I.kd ∧ I.kd ≤ 8 ∧ 0 ≤ I.rg ∧ I.rg < 4 ∧ 0 ≤ I.at_ ∧ I.at_ < 64 ∧ (I.kd = 6 → 0 ≤ I.b ∧ I.b < 4) ∧ (I.kd = 7 → 0 ≤ I.b ∧ I.b < n) := by
  unfold mayI at h
  cases hb : badIns I with
  | true => rw [hb] at h; simp at h
  | false =>
    rw [hb] at h
    simp only [badIns, Bool.or_eq_false_iff, decide_eq_false_iff_not] at hb
    refine ⟨by omega, by omega, by omega, by omega, by omega, by omega, fun hk => ?_, fun hk => ?_⟩
    · rw [hk] at h
      simpa using h
    · rw [hk] at h
      simpa using h

theorem core3 {m : Nat → Int} {r0 r1 r2 r3 pat rg at_ a b k : Int} {n : Nat} (h : (casG a (getR r0 r1 r2 r3 rg) (m at_.toNat)).2 = k) : coreM m r0 r1 r2 r3 pat n ⟨3, rg, at_, a, b⟩ = Core.set ⟨putW m at_ (casG a (getR r0 r1 r2 r3 rg) (m at_.toNat)).1, r0, r1, r2, r3, pat + 1⟩ rg k := by
  subst h
  rfl
theorem core7 {m : Nat → Int} {r0 r1 r2 r3 pat rg at_ a b : Int} {n : Nat} {k : Bool} (h : (getR r0 r1 r2 r3 rg == 0) = k) : coreM m r0 r1 r2 r3 pat n ⟨7, rg, at_, a, b⟩ = ⟨m, r0, r1, r2, r3, bif k then b else pat + 1⟩ := by
  subst h
  rfl
theorem cas_no {x y w : Int} (h : ((casG x y w).2 == 1) = false) : (casG x y w).2 = 0 := by
  unfold casG at h ⊢
  cases hc : w == x with
  | true => rw [hc] at h; simp at h
  | false => rfl

set_option maxHeartbeats 2000000 in
theorem step46 (ex : Bool) (m : Nat → Int) (p : Prc) (hp : mayP p = true) : PCall Try.prog 46 [.one (uS 64 ex m), prcC p] (.tup [.one (uS 64 false (stepW m p)), prcC (stepP m p)]) := by
  obtain ⟨n, prog, pat, r0, r1, r2, r3, done, took⟩ := p
  obtain ⟨hn1, hn2, hat1, hat2, hto1, hto2, hall⟩ := may_facts hp
  dsimp only at hn1 hn2 hat1 hat2 hto1 hto2 hall
  have hI := ins_facts (hall pat.toNat (by omega))
  have hgoal : coreP m ⟨n, prog, pat, r0, r1, r2, r3, done, took⟩ = coreM m r0 r1 r2 r3 pat n (prog pat.toNat) := rfl
  refine PCall_of (ACall_body good Try.func46 rfl 155 rfl (by simp) ?_)
  refine AW_seq ?_
  refine AW_all good tabK tabK_ok rfl rfl ?_ ?_
  · repeat' (first | exact trivial | exact rfl | exact (fun _ _ => rfl) | apply And.intro | intro _)
    all_goals (first | omega | exact hb | exact prog_lit _ _ | exact procs_lit _ _ | (rename_i hg; exact hg) | (rename_i hg; change (_ : Bool) = true; rw [hg]; rfl) | (change (_ : Bool) = true; simp_all; done))
  refine AW_seq ?_
  refine AW_seq ?_
  refine AW_all good tabK tabK_ok rfl rfl ?_ ?_
  · repeat' (first | exact trivial | exact rfl | exact (fun _ _ => rfl) | apply And.intro | intro _)
    all_goals (first | omega | exact hb | exact prog_lit _ _ | exact procs_lit _ _ | (rename_i hg; exact hg) | (rename_i hg; change (_ : Bool) = true; rw [hg]; rfl) | (change (_ : Bool) = true; simp_all; done))
  refine AW_cond rfl (fun h1 => ?_) (fun h1 => ?_)
  · first
    | (exfalso; simp_all; done)
    | (
        refine AW_seq ?_
        refine AW_drwE good rfl tabK tabK_ok rfl rfl rfl rfl ?_ ?_
        · repeat' (first | exact trivial | exact rfl | exact (fun _ _ => rfl) | apply And.intro | intro _)
          all_goals (first | omega | exact hb | exact prog_lit _ _ | exact procs_lit _ _ | (rename_i hg; exact hg) | (rename_i hg; change (_ : Bool) = true; rw [hg]; rfl) | (change (_ : Bool) = true; simp_all; done))
        refine AW_ret (bodyQ_ret rfl ?_ (Ends.le rfl ?_ ?_))
        · repeat' (first | exact trivial | exact rfl | exact (fun _ _ => rfl) | apply And.intro | intro _)
          all_goals (first | omega | exact hb | exact prog_lit _ _ | exact procs_lit _ _ | (rename_i hg; exact hg) | (rename_i hg; change (_ : Bool) = true; rw [hg]; rfl) | (change (_ : Bool) = true; simp_all; done))
        · repeat' (first | exact trivial | exact rfl | exact (fun _ _ => rfl) | apply And.intro | intro _)
          all_goals (first | omega | exact hb | exact prog_lit _ _ | exact procs_lit _ _ | (rename_i hg; exact hg) | (rename_i hg; change (_ : Bool) = true; rw [hg]; rfl) | (change (_ : Bool) = true; simp_all; done))
        have hs : stops ⟨n, prog, pat, r0, r1, r2, r3, done, took⟩ = true := h1
        unfold stepW stepP
        rw [hs]
        exact SLe.pair (uS_le rfl fun _ => rfl) (CLe.of_eq rfl)
    )
  · first
    | (exfalso; simp_all; done)
    | (
        refine AW_skip ?_
        refine AW_seq ?_
        refine AW_all good tabK tabK_ok rfl rfl ?_ ?_
        · repeat' (first | exact trivial | exact rfl | exact (fun _ _ => rfl) | apply And.intro | intro _)
          all_goals (first | omega | exact hb | exact prog_lit _ _ | exact procs_lit _ _ | (rename_i hg; exact hg) | (rename_i hg; change (_ : Bool) = true; rw [hg]; rfl) | (change (_ : Bool) = true; simp_all; done))
        refine AW_seq ?_
        generalize hIg : prog pat.toNat = I at hI hgoal
        obtain ⟨kd, rg, at_, a, b⟩ := I
        dsimp only at hI
        refine AW_tell [(0, .cv (.one (uS 64 false m))), (3, .cv (.one (.own 0 0 0 0))), (5, .cv (.one (.own 1 0 0 0))), (6, .cv (.one (.own 2 0 0 0)))] [(0, .var 54 [.imm (progI n prog), .imm (.val (.int .i64 pat)), .imm (.val (.int .u64 r0)), .imm (.val (.int .u64 r1)), .imm (.val (.int .u64 r2)), .imm (.val (.int .u64 r3)), .imm (.val (.bool done)), .imm (.val (.int .i64 took))]), (1, .var 54 (zeros lay54)), (2, .var 67 [.imm (.val (.int .i64 kd)), .imm (.val (.int .i64 rg)), .imm (.val (.int .i64 at_)), .imm (.val (.int .u64 a)), .imm (.val (.int .i64 b))])] [0, 1, 2] rfl rfl ?_ ?_ ?_
        · exact ⟨SLe.cv (uS_le rfl fun _ => rfl), SLe.of_eq rfl, SLe.of_eq rfl, SLe.of_eq rfl, trivial⟩
        · refine ⟨⟨rfl, _, rfl, BLe.of_eq rfl⟩, ⟨rfl, _, rfl, BLe.of_eq rfl⟩, ⟨rfl, _, rfl, BLe.of_eq ?_⟩, trivial⟩
          show ABlk.var 67 [.imm (insI (prog pat.toNat) 0), .imm (insI (prog pat.toNat) 1), .imm (insI (prog pat.toNat) 2), .imm (insI (prog pat.toNat) 3), .imm (insI (prog pat.toNat) 4)] = _
          rw [hIg]
          rfl
        refine AW_all good tabK tabK_ok rfl rfl ?_ ?_
        · repeat' (first | exact trivial | exact rfl | exact (fun _ _ => rfl) | apply And.intro | intro _)
          all_goals (first | omega | exact hb | exact prog_lit _ _ | exact procs_lit _ _ | (rename_i hg; exact hg) | (rename_i hg; change (_ : Bool) = true; rw [hg]; rfl) | (change (_ : Bool) = true; simp_all; done))
        refine AW_seq ?_
        refine AW_all good tabK tabK_ok rfl rfl ?_ ?_
        · repeat' (first | exact trivial | exact rfl | exact (fun _ _ => rfl) | apply And.intro | intro _)
          all_goals (first | omega | exact hb | exact prog_lit _ _ | exact procs_lit _ _ | (rename_i hg; exact hg) | (rename_i hg; change (_ : Bool) = true; rw [hg]; rfl) | (change (_ : Bool) = true; simp_all; done))
        refine AW_seq ?_
        refine AW_seq ?_
        refine AW_all good tabK tabK_ok rfl rfl ?_ ?_
        · repeat' (first | exact trivial | exact rfl | exact (fun _ _ => rfl) | apply And.intro | intro _)
          all_goals (first | omega | exact hb | exact prog_lit _ _ | exact procs_lit _ _ | (rename_i hg; exact hg) | (rename_i hg; change (_ : Bool) = true; rw [hg]; rfl) | (change (_ : Bool) = true; simp_all; done))
        have hb : badAt 64 at_ = false := by
          have := badAt_in (N := 64) (A := at_.toNat) (by omega) (by omega)
          have e : ((at_.toNat : Nat) : Int) = at_ := by omega
          rw [e] at this
          exact this
        generalize hCe : coreM m r0 r1 r2 r3 pat n ⟨kd, rg, at_, a, b⟩ = c at hgoal
        refine AW_slot 8 (y := .cv (iint (pat + 1))) rfl (SLe.of_eq (congrArg (fun z => SV.cv (iint z)) (by rw [IntKind.wrap_i64]; omega))) ?_
        refine AW_viaH 3 (fun _ : Unit => [(0, .cv (.one (uS 64 false c.m))), (3, .cv (.one (.own 0 0 0 0))), (5, .cv (.one (.own 1 0 0 0))), (7, .cv (.one (.own 2 0 0 0))), (8, .cv (iint c.nx))]) (fun _ => [(0, .var 54 [.imm (progI n prog), .imm (.val (.int .i64 pat)), .imm (.val (.int .u64 r0)), .imm (.val (.int .u64 r1)), .imm (.val (.int .u64 r2)), .imm (.val (.int .u64 r3)), .imm (.val (.bool done)), .imm (.val (.int .i64 took))]), (1, .var 54 (zeros lay54)), (2, .var 52 [.imm (.val (.int .u64 c.r0)), .imm (.val (.int .u64 c.r1)), .imm (.val (.int .u64 c.r2)), .imm (.val (.int .u64 c.r3))])]) ?_ ?_
        · rintro ⟨⟩
          refine AW_seq ?_
          refine AW_all good tabK tabK_ok rfl rfl ?_ ?_
          · repeat' (first | exact trivial | exact rfl | exact (fun _ _ => rfl) | apply And.intro | intro _)
            all_goals (first | omega | exact hb | exact prog_lit _ _ | exact procs_lit _ _ | (rename_i hg; exact hg) | (rename_i hg; change (_ : Bool) = true; rw [hg]; rfl) | (change (_ : Bool) = true; simp_all; done))
          refine AW_seq ?_
          refine AW_seq ?_
          refine AW_all good tabK tabK_ok rfl rfl ?_ ?_
          · repeat' (first | exact trivial | exact rfl | exact (fun _ _ => rfl) | apply And.intro | intro _)
            all_goals (first | omega | exact hb | exact prog_lit _ _ | exact procs_lit _ _ | (rename_i hg; exact hg) | (rename_i hg; change (_ : Bool) = true; rw [hg]; rfl) | (change (_ : Bool) = true; simp_all; done))
          refine AW_seq ?_
          refine AW_all good tabK tabK_ok rfl rfl ?_ ?_
          · repeat' (first | exact trivial | exact rfl | exact (fun _ _ => rfl) | apply And.intro | intro _)
            all_goals (first | omega | exact hb | exact prog_lit _ _ | exact procs_lit _ _ | (rename_i hg; exact hg) | (rename_i hg; change (_ : Bool) = true; rw [hg]; rfl) | (change (_ : Bool) = true; simp_all; done))
          refine AW_cond rfl (fun h2 => ?_) (fun h2 => ?_)
          · first
            | (exfalso; simp_all; done)
            | (
                refine AW_all good tabK tabK_ok rfl rfl ?_ ?_
                · repeat' (first | exact trivial | exact rfl | exact (fun _ _ => rfl) | apply And.intro | intro _)
                  all_goals (first | omega | exact hb | exact prog_lit _ _ | exact procs_lit _ _ | (rename_i hg; exact hg) | (rename_i hg; change (_ : Bool) = true; rw [hg]; rfl) | (change (_ : Bool) = true; simp_all; done))
                refine AW_seq ?_
                refine AW_drwE good rfl tabK tabK_ok rfl rfl rfl rfl ?_ ?_
                · repeat' (first | exact trivial | exact rfl | exact (fun _ _ => rfl) | apply And.intro | intro _)
                  all_goals (first | omega | exact hb | exact prog_lit _ _ | exact procs_lit _ _ | (rename_i hg; exact hg) | (rename_i hg; change (_ : Bool) = true; rw [hg]; rfl) | (change (_ : Bool) = true; simp_all; done))
                refine AW_ret (bodyQ_ret rfl ?_ (Ends.le rfl ?_ ?_))
                · repeat' (first | exact trivial | exact rfl | exact (fun _ _ => rfl) | apply And.intro | intro _)
                  all_goals (first | omega | exact hb | exact prog_lit _ _ | exact procs_lit _ _ | (rename_i hg; exact hg) | (rename_i hg; change (_ : Bool) = true; rw [hg]; rfl) | (change (_ : Bool) = true; simp_all; done))
                · repeat' (first | exact trivial | exact rfl | exact (fun _ _ => rfl) | apply And.intro | intro _)
                  all_goals (first | omega | exact hb | exact prog_lit _ _ | exact procs_lit _ _ | (rename_i hg; exact hg) | (rename_i hg; change (_ : Bool) = true; rw [hg]; rfl) | (change (_ : Bool) = true; simp_all; done))
                have hs : stops ⟨n, prog, pat, r0, r1, r2, r3, done, took⟩ = false := h1
                have hw : IntKind.i64.wrap (took + 1) = took + 1 := by rw [IntKind.wrap_i64]; omega
                have hd : (c.nx == (n : Int)) = false := by simpa using h2
                have e1 : stepW m ⟨n, prog, pat, r0, r1, r2, r3, done, took⟩ = c.m := by
                  unfold stepW
                  rw [hs, hgoal]
                  rfl
                have e2 : stepP m ⟨n, prog, pat, r0, r1, r2, r3, done, took⟩ = ⟨n, prog, c.nx, c.r0, c.r1, c.r2, c.r3, false, took + 1⟩ := by
                  unfold stepP
                  rw [hs, hgoal]
                  simp only [cond_false, hd]
                rw [e1, e2, hw, hd]
                exact SLe.of_eq rfl
            )
          · first
            | (exfalso; simp_all; done)
            | (
                refine AW_skip ?_
                refine AW_seq ?_
                refine AW_drwE good rfl tabK tabK_ok rfl rfl rfl rfl ?_ ?_
                · repeat' (first | exact trivial | exact rfl | exact (fun _ _ => rfl) | apply And.intro | intro _)
                  all_goals (first | omega | exact hb | exact prog_lit _ _ | exact procs_lit _ _ | (rename_i hg; exact hg) | (rename_i hg; change (_ : Bool) = true; rw [hg]; rfl) | (change (_ : Bool) = true; simp_all; done))
                refine AW_ret (bodyQ_ret rfl ?_ (Ends.le rfl ?_ ?_))
                · repeat' (first | exact trivial | exact rfl | exact (fun _ _ => rfl) | apply And.intro | intro _)
                  all_goals (first | omega | exact hb | exact prog_lit _ _ | exact procs_lit _ _ | (rename_i hg; exact hg) | (rename_i hg; change (_ : Bool) = true; rw [hg]; rfl) | (change (_ : Bool) = true; simp_all; done))
                · repeat' (first | exact trivial | exact rfl | exact (fun _ _ => rfl) | apply And.intro | intro _)
                  all_goals (first | omega | exact hb | exact prog_lit _ _ | exact procs_lit _ _ | (rename_i hg; exact hg) | (rename_i hg; change (_ : Bool) = true; rw [hg]; rfl) | (change (_ : Bool) = true; simp_all; done))
                have hs : stops ⟨n, prog, pat, r0, r1, r2, r3, done, took⟩ = false := h1
                have hw : IntKind.i64.wrap (took + 1) = took + 1 := by rw [IntKind.wrap_i64]; omega
                have hd : (c.nx == (n : Int)) = true := by simpa using h2
                have e1 : stepW m ⟨n, prog, pat, r0, r1, r2, r3, done, took⟩ = c.m := by
                  unfold stepW
                  rw [hs, hgoal]
                  rfl
                have e2 : stepP m ⟨n, prog, pat, r0, r1, r2, r3, done, took⟩ = ⟨n, prog, pat, c.r0, c.r1, c.r2, c.r3, true, took + 1⟩ := by
                  unfold stepP
                  rw [hs, hgoal]
                  simp only [cond_false, cond_true, hd]
                rw [e1, e2, hw, hd]
                exact SLe.of_eq rfl
            )
        subst hCe
        have hrg : rg = 0 ∨ rg = 1 ∨ rg = 2 ∨ rg = 3 := by omega
        rcases hrg with rfl | rfl | rfl | rfl
        all_goals (
          refine AW_block ?_
          refine AW_seq ?_
          refine AW_all good tabK tabK_ok rfl rfl ?_ ?_
          · repeat' (first | exact trivial | exact rfl | exact (fun _ _ => rfl) | apply And.intro | intro _)
            all_goals (first | omega | exact hb | exact prog_lit _ _ | exact procs_lit _ _ | (rename_i hg; exact hg) | (rename_i hg; change (_ : Bool) = true; rw [hg]; rfl) | (change (_ : Bool) = true; simp_all; done))
          refine AW_cond rfl (fun h3 => ?_) (fun h3 => ?_)
          · first
            | (exfalso; simp_all; done)
            | (
                refine AW_drwE good rfl tabK tabK_ok rfl rfl rfl rfl ?_ ?_
                · repeat' (first | exact trivial | exact rfl | exact (fun _ _ => rfl) | apply And.intro | intro _)
                  all_goals (first | omega | exact hb | exact prog_lit _ _ | exact procs_lit _ _ | (rename_i hg; exact hg) | (rename_i hg; change (_ : Bool) = true; rw [hg]; rfl) | (change (_ : Bool) = true; simp_all; done))
                obtain rfl : kd = 1 := by simpa using h3
                exact join_end () [0, 1, 3] rfl rfl ⟨SLe.of_eq rfl, SLe.of_eq rfl, SLe.of_eq rfl, SLe.of_eq rfl, SLe.of_eq rfl, trivial⟩ ⟨⟨rfl, _, rfl, BLe.of_eq rfl⟩, ⟨rfl, _, rfl, BLe.of_eq rfl⟩, ⟨rfl, _, rfl, BLe.of_eq rfl⟩, trivial⟩
            )
          · first
            | (exfalso; simp_all; done)
            | (
                refine AW_seq ?_
                refine AW_all good tabK tabK_ok rfl rfl ?_ ?_
                · repeat' (first | exact trivial | exact rfl | exact (fun _ _ => rfl) | apply And.intro | intro _)
                  all_goals (first | omega | exact hb | exact prog_lit _ _ | exact procs_lit _ _ | (rename_i hg; exact hg) | (rename_i hg; change (_ : Bool) = true; rw [hg]; rfl) | (change (_ : Bool) = true; simp_all; done))
                refine AW_cond rfl (fun h4 => ?_) (fun h4 => ?_)
                · first
                  | (exfalso; simp_all; done)
                  | (
                      refine AW_drwE good rfl tabK tabK_ok rfl rfl rfl rfl ?_ ?_
                      · repeat' (first | exact trivial | exact rfl | exact (fun _ _ => rfl) | apply And.intro | intro _)
                        all_goals (first | omega | exact hb | exact prog_lit _ _ | exact procs_lit _ _ | (rename_i hg; exact hg) | (rename_i hg; change (_ : Bool) = true; rw [hg]; rfl) | (change (_ : Bool) = true; simp_all; done))
                      obtain rfl : kd = 2 := by simpa using h4
                      exact join_end () [0, 1, 3] rfl rfl ⟨SLe.of_eq rfl, SLe.of_eq rfl, SLe.of_eq rfl, SLe.of_eq rfl, SLe.of_eq rfl, trivial⟩ ⟨⟨rfl, _, rfl, BLe.of_eq rfl⟩, ⟨rfl, _, rfl, BLe.of_eq rfl⟩, ⟨rfl, _, rfl, BLe.of_eq rfl⟩, trivial⟩
                  )
                · first
                  | (exfalso; simp_all; done)
                  | (
                      refine AW_seq ?_
                      refine AW_all good tabK tabK_ok rfl rfl ?_ ?_
                      · repeat' (first | exact trivial | exact rfl | exact (fun _ _ => rfl) | apply And.intro | intro _)
                        all_goals (first | omega | exact hb | exact prog_lit _ _ | exact procs_lit _ _ | (rename_i hg; exact hg) | (rename_i hg; change (_ : Bool) = true; rw [hg]; rfl) | (change (_ : Bool) = true; simp_all; done))
                      refine AW_cond rfl (fun h5 => ?_) (fun h5 => ?_)
                      · first
                        | (exfalso; simp_all; done)
                        | (
                            refine AW_seq ?_
                            refine AW_drwE good rfl tabK tabK_ok rfl rfl rfl rfl ?_ ?_
                            · repeat' (first | exact trivial | exact rfl | exact (fun _ _ => rfl) | apply And.intro | intro _)
                              all_goals (first | omega | exact hb | exact prog_lit _ _ | exact procs_lit _ _ | (rename_i hg; exact hg) | (rename_i hg; change (_ : Bool) = true; rw [hg]; rfl) | (change (_ : Bool) = true; simp_all; done))
                            refine AW_seq ?_
                            refine AW_drwE good rfl tabK tabK_ok rfl rfl rfl rfl ?_ ?_
                            · repeat' (first | exact trivial | exact rfl | exact (fun _ _ => rfl) | apply And.intro | intro _)
                              all_goals (first | omega | exact hb | exact prog_lit _ _ | exact procs_lit _ _ | (rename_i hg; exact hg) | (rename_i hg; change (_ : Bool) = true; rw [hg]; rfl) | (change (_ : Bool) = true; simp_all; done))
                            refine AW_seq ?_
                            refine AW_all good tabK tabK_ok rfl rfl ?_ ?_
                            · repeat' (first | exact trivial | exact rfl | exact (fun _ _ => rfl) | apply And.intro | intro _)
                              all_goals (first | omega | exact hb | exact prog_lit _ _ | exact procs_lit _ _ | (rename_i hg; exact hg) | (rename_i hg; change (_ : Bool) = true; rw [hg]; rfl) | (change (_ : Bool) = true; simp_all; done))
                            refine AW_cond rfl (fun h6 => ?_) (fun h6 => ?_)
                            · first
                              | (exfalso; simp_all; done)
                              | (
                                  refine AW_all good tabK tabK_ok rfl rfl ?_ ?_
                                  · repeat' (first | exact trivial | exact rfl | exact (fun _ _ => rfl) | apply And.intro | intro _)
                                    all_goals (first | omega | exact hb | exact prog_lit _ _ | exact procs_lit _ _ | (rename_i hg; exact hg) | (rename_i hg; change (_ : Bool) = true; rw [hg]; rfl) | (change (_ : Bool) = true; simp_all; done))
                                  obtain rfl : kd = 3 := by simpa using h5
                                  rw [core3 (k := 1)]
                                  · exact join_end () [0, 1, 3] rfl rfl ⟨SLe.of_eq rfl, SLe.of_eq rfl, SLe.of_eq rfl, SLe.of_eq rfl, SLe.of_eq rfl, trivial⟩ ⟨⟨rfl, _, rfl, BLe.of_eq rfl⟩, ⟨rfl, _, rfl, BLe.of_eq rfl⟩, ⟨rfl, _, rfl, BLe.of_eq rfl⟩, trivial⟩
                                  · exact eq_of_beq h6
                              )
                            · first
                              | (exfalso; simp_all; done)
                              | (
                                  refine AW_skip ?_
                                  obtain rfl : kd = 3 := by simpa using h5
                                  rw [core3 (k := 0)]
                                  · exact join_end () [0, 1, 3] rfl rfl ⟨SLe.of_eq rfl, SLe.of_eq rfl, SLe.of_eq rfl, SLe.of_eq rfl, SLe.of_eq rfl, trivial⟩ ⟨⟨rfl, _, rfl, BLe.of_eq rfl⟩, ⟨rfl, _, rfl, BLe.of_eq rfl⟩, ⟨rfl, _, rfl, BLe.of_eq rfl⟩, trivial⟩
                                  · exact cas_no h6
                              )
                        )
                      · first
                        | (exfalso; simp_all; done)
                        | (
                            refine AW_seq ?_
                            refine AW_all good tabK tabK_ok rfl rfl ?_ ?_
                            · repeat' (first | exact trivial | exact rfl | exact (fun _ _ => rfl) | apply And.intro | intro _)
                              all_goals (first | omega | exact hb | exact prog_lit _ _ | exact procs_lit _ _ | (rename_i hg; exact hg) | (rename_i hg; change (_ : Bool) = true; rw [hg]; rfl) | (change (_ : Bool) = true; simp_all; done))
                            refine AW_cond rfl (fun h7 => ?_) (fun h7 => ?_)
                            · first
                              | (exfalso; simp_all; done)
                              | (
                                  refine AW_seq ?_
                                  refine AW_all good tabK tabK_ok rfl rfl ?_ ?_
                                  · repeat' (first | exact trivial | exact rfl | exact (fun _ _ => rfl) | apply And.intro | intro _)
                                    all_goals (first | omega | exact hb | exact prog_lit _ _ | exact procs_lit _ _ | (rename_i hg; exact hg) | (rename_i hg; change (_ : Bool) = true; rw [hg]; rfl) | (change (_ : Bool) = true; simp_all; done))
                                  refine AW_drwE good rfl tabK tabK_ok rfl rfl rfl rfl ?_ ?_
                                  · repeat' (first | exact trivial | exact rfl | exact (fun _ _ => rfl) | apply And.intro | intro _)
                                    all_goals (first | omega | exact hb | exact prog_lit _ _ | exact procs_lit _ _ | (rename_i hg; exact hg) | (rename_i hg; change (_ : Bool) = true; rw [hg]; rfl) | (change (_ : Bool) = true; simp_all; done))
                                  obtain rfl : kd = 4 := by simpa using h7
                                  exact join_end () [0, 1, 3] rfl rfl ⟨SLe.of_eq rfl, SLe.of_eq rfl, SLe.of_eq rfl, SLe.of_eq rfl, SLe.of_eq rfl, trivial⟩ ⟨⟨rfl, _, rfl, BLe.of_eq rfl⟩, ⟨rfl, _, rfl, BLe.of_eq rfl⟩, ⟨rfl, _, rfl, BLe.of_eq rfl⟩, trivial⟩
                              )
                            · first
                              | (exfalso; simp_all; done)
                              | (
                                  refine AW_seq ?_
                                  refine AW_all good tabK tabK_ok rfl rfl ?_ ?_
                                  · repeat' (first | exact trivial | exact rfl | exact (fun _ _ => rfl) | apply And.intro | intro _)
                                    all_goals (first | omega | exact hb | exact prog_lit _ _ | exact procs_lit _ _ | (rename_i hg; exact hg) | (rename_i hg; change (_ : Bool) = true; rw [hg]; rfl) | (change (_ : Bool) = true; simp_all; done))
                                  refine AW_cond rfl (fun h8 => ?_) (fun h8 => ?_)
                                  · first
                                    | (exfalso; simp_all; done)
                                    | (
                                        refine AW_all good tabK tabK_ok rfl rfl ?_ ?_
                                        · repeat' (first | exact trivial | exact rfl | exact (fun _ _ => rfl) | apply And.intro | intro _)
                                          all_goals (first | omega | exact hb | exact prog_lit _ _ | exact procs_lit _ _ | (rename_i hg; exact hg) | (rename_i hg; change (_ : Bool) = true; rw [hg]; rfl) | (change (_ : Bool) = true; simp_all; done))
                                        obtain rfl : kd = 5 := by simpa using h8
                                        exact join_end () [0, 1, 3] rfl rfl ⟨SLe.of_eq rfl, SLe.of_eq rfl, SLe.of_eq rfl, SLe.of_eq rfl, SLe.of_eq rfl, trivial⟩ ⟨⟨rfl, _, rfl, BLe.of_eq rfl⟩, ⟨rfl, _, rfl, BLe.of_eq rfl⟩, ⟨rfl, _, rfl, BLe.of_eq rfl⟩, trivial⟩
                                    )
                                  · first
                                    | (exfalso; simp_all; done)
                                    | (
                                        refine AW_seq ?_
                                        refine AW_all good tabK tabK_ok rfl rfl ?_ ?_
                                        · repeat' (first | exact trivial | exact rfl | exact (fun _ _ => rfl) | apply And.intro | intro _)
                                          all_goals (first | omega | exact hb | exact prog_lit _ _ | exact procs_lit _ _ | (rename_i hg; exact hg) | (rename_i hg; change (_ : Bool) = true; rw [hg]; rfl) | (change (_ : Bool) = true; simp_all; done))
                                        refine AW_cond rfl (fun h9 => ?_) (fun h9 => ?_)
                                        · first
                                          | (exfalso; simp_all; done)
                                          | (
                                              obtain rfl : kd = 6 := by simpa using h9
                                              have hb4 : b = 0 ∨ b = 1 ∨ b = 2 ∨ b = 3 := by omega
                                              rcases hb4 with rfl | rfl | rfl | rfl
                                              all_goals (
                                                refine AW_drwE good rfl tabK tabK_ok rfl rfl rfl rfl ?_ ?_
                                                · repeat' (first | exact trivial | exact rfl | exact (fun _ _ => rfl) | apply And.intro | intro _)
                                                  all_goals (first | omega | exact hb | exact prog_lit _ _ | exact procs_lit _ _ | (rename_i hg; exact hg) | (rename_i hg; change (_ : Bool) = true; rw [hg]; rfl) | (change (_ : Bool) = true; simp_all; done))
                                                exact join_end () [0, 1, 3] rfl rfl ⟨SLe.of_eq rfl, SLe.of_eq rfl, SLe.of_eq rfl, SLe.of_eq rfl, SLe.of_eq rfl, trivial⟩ ⟨⟨rfl, _, rfl, BLe.of_eq rfl⟩, ⟨rfl, _, rfl, BLe.of_eq rfl⟩, ⟨rfl, _, rfl, BLe.of_eq rfl⟩, trivial⟩
                                              )
                                          )
                                        · first
                                          | (exfalso; simp_all; done)
                                          | (
                                              refine AW_seq ?_
                                              refine AW_all good tabK tabK_ok rfl rfl ?_ ?_
                                              · repeat' (first | exact trivial | exact rfl | exact (fun _ _ => rfl) | apply And.intro | intro _)
                                                all_goals (first | omega | exact hb | exact prog_lit _ _ | exact procs_lit _ _ | (rename_i hg; exact hg) | (rename_i hg; change (_ : Bool) = true; rw [hg]; rfl) | (change (_ : Bool) = true; simp_all; done))
                                              refine AW_cond rfl (fun h10 => ?_) (fun h10 => ?_)
                                              · first
                                                | (exfalso; simp_all; done)
                                                | (
                                                    refine AW_seq ?_
                                                    refine AW_all good tabK tabK_ok rfl rfl ?_ ?_
                                                    · repeat' (first | exact trivial | exact rfl | exact (fun _ _ => rfl) | apply And.intro | intro _)
                                                      all_goals (first | omega | exact hb | exact prog_lit _ _ | exact procs_lit _ _ | (rename_i hg; exact hg) | (rename_i hg; change (_ : Bool) = true; rw [hg]; rfl) | (change (_ : Bool) = true; simp_all; done))
                                                    refine AW_cond rfl (fun h11 => ?_) (fun h11 => ?_)
                                                    · first
                                                      | (exfalso; simp_all; done)
                                                      | (
                                                          refine AW_all good tabK tabK_ok rfl rfl ?_ ?_
                                                          · repeat' (first | exact trivial | exact rfl | exact (fun _ _ => rfl) | apply And.intro | intro _)
                                                            all_goals (first | omega | exact hb | exact prog_lit _ _ | exact procs_lit _ _ | (rename_i hg; exact hg) | (rename_i hg; change (_ : Bool) = true; rw [hg]; rfl) | (change (_ : Bool) = true; simp_all; done))
                                                          obtain rfl : kd = 7 := by simpa using h10
                                                          rw [core7 (k := true)]
                                                          · exact join_end () [0, 1, 3] rfl rfl ⟨SLe.of_eq rfl, SLe.of_eq rfl, SLe.of_eq rfl, SLe.of_eq rfl, SLe.of_eq rfl, trivial⟩ ⟨⟨rfl, _, rfl, BLe.of_eq rfl⟩, ⟨rfl, _, rfl, BLe.of_eq rfl⟩, ⟨rfl, _, rfl, BLe.of_eq rfl⟩, trivial⟩
                                                          · exact h11
                                                      )
                                                    · first
                                                      | (exfalso; simp_all; done)
                                                      | (
                                                          refine AW_skip ?_
                                                          obtain rfl : kd = 7 := by simpa using h10
                                                          rw [core7 (k := false)]
                                                          · exact join_end () [0, 1, 3] rfl rfl ⟨SLe.of_eq rfl, SLe.of_eq rfl, SLe.of_eq rfl, SLe.of_eq rfl, SLe.of_eq rfl, trivial⟩ ⟨⟨rfl, _, rfl, BLe.of_eq rfl⟩, ⟨rfl, _, rfl, BLe.of_eq rfl⟩, ⟨rfl, _, rfl, BLe.of_eq rfl⟩, trivial⟩
                                                          · exact h11
                                                      )
                                                )
                                              · first
                                                | (exfalso; simp_all; done)
                                                | (
                                                    refine AW_seq ?_
                                                    refine AW_all good tabK tabK_ok rfl rfl ?_ ?_
                                                    · repeat' (first | exact trivial | exact rfl | exact (fun _ _ => rfl) | apply And.intro | intro _)
                                                      all_goals (first | omega | exact hb | exact prog_lit _ _ | exact procs_lit _ _ | (rename_i hg; exact hg) | (rename_i hg; change (_ : Bool) = true; rw [hg]; rfl) | (change (_ : Bool) = true; simp_all; done))
                                                    refine AW_cond rfl (fun h12 => ?_) (fun h12 => ?_)
                                                    · first
                                                      | (exfalso; simp_all; done)
                                                      | (
                                                          refine AW_all good tabK tabK_ok rfl rfl ?_ ?_
                                                          · repeat' (first | exact trivial | exact rfl | exact (fun _ _ => rfl) | apply And.intro | intro _)
                                                            all_goals (first | omega | exact hb | exact prog_lit _ _ | exact procs_lit _ _ | (rename_i hg; exact hg) | (rename_i hg; change (_ : Bool) = true; rw [hg]; rfl) | (change (_ : Bool) = true; simp_all; done))
                                                          obtain rfl : kd = 8 := by simpa using h12
                                                          exact join_end () [0, 1, 3] rfl rfl ⟨SLe.of_eq rfl, SLe.of_eq rfl, SLe.of_eq rfl, SLe.of_eq rfl, SLe.of_eq rfl, trivial⟩ ⟨⟨rfl, _, rfl, BLe.of_eq rfl⟩, ⟨rfl, _, rfl, BLe.of_eq rfl⟩, ⟨rfl, _, rfl, BLe.of_eq rfl⟩, trivial⟩
                                                      )
                                                    · first
                                                      | (exfalso; simp_all; done)
                                                      | (
                                                          refine AW_skip ?_
                                                          exfalso
                                                          simp only [beq_eq_false_iff_ne] at h3 h4 h5 h7 h8 h9 h10 h12
                                                          omega
                                                      )
                                                )
                                          )
                                    )
                              )
                        )
                  )
            )
        )
    )
end Go.Proofs.Ytndfcbcmeeemfaa.Abs

/-
  THE CONTRACTS OF PACKAGE machine (6): runs.
-/
namespace Go.Proofs.Ytndfcbcmeeemfaa.Abs
open Go
set_option maxRecDepth 10000

theorem mayP_mk {p : Prc} (h1 : 1 ≤ p.n) (h2 : p.n ≤ 64) (h3 : 0 ≤ p.at_) (h4 : p.at_ < p.n) (h5 : 0 ≤ p.took) (h6 : p.took ≤ 1099511627776) (h7 : ∀ i, i < p.n → mayI (p.prog i) p.n = true) : mayP p = true := by
  simp only [mayP, Bool.and_eq_true, decide_eq_true_eq, Bool.not_eq_true', anyB, List.any_eq_false, List.mem_range]
  refine ⟨by omega, by omega, h3, h4, h5, h6, fun i hi => ?_⟩
  rw [h7 i hi]
  simp
theorem core_nx {m : Nat → Int} {r0 r1 r2 r3 pat : Int} {n : Nat} {I : Ins} (hp : 0 ≤ pat ∧ pat < n) (hI : mayI I n = true) : (coreM m r0 r1 r2 r3 pat n I).nx = n ∨ (0 ≤ (coreM m r0 r1 r2 r3 pat n I).nx ∧ (coreM m r0 r1 r2 r3 pat n I).nx < n) := by
  obtain ⟨_, _, _, _, _, _, _, h7⟩ := ins_facts hI
  have key : ∀ c : Core, c.nx = pat + 1 → c.nx = n ∨ (0 ≤ c.nx ∧ c.nx < n) := fun c h => by omega
  unfold coreM
  cases h1 : I.kd == 1 with
  | true => exact key _ rfl
  | false => cases h2 : I.kd == 2 with
    | true => exact key _ rfl
    | false => cases h3 : I.kd == 3 with
      | true => exact key _ rfl
      | false => cases h4 : I.kd == 4 with
        | true => exact key _ rfl
        | false => cases h5 : I.kd == 5 with
          | true => exact key _ rfl
          | false => cases h6 : I.kd == 6 with
            | true => exact key _ rfl
            | false => cases h8 : I.kd == 7 with
              | true =>
                have := h7 (by simpa using h8)
                show (bif getR r0 r1 r2 r3 I.rg == 0 then I.b else pat + 1) = n ∨ (0 ≤ (bif getR r0 r1 r2 r3 I.rg == 0 then I.b else pat + 1) ∧ (bif getR r0 r1 r2 r3 I.rg == 0 then I.b else pat + 1) < n)
                cases getR r0 r1 r2 r3 I.rg == 0 with
                | true => exact .inr this
                | false => exact key ⟨m, r0, r1, r2, r3, pat + 1⟩ rfl
              | false => exact .inl rfl
theorem may_step {m : Nat → Int} {p : Prc} (h : mayP p = true) : mayP (stepP m p) = true := by
  obtain ⟨h1, h2, h3, h4, h5, h6, h7⟩ := may_facts h
  unfold stepP
  cases hs : stops p with
  | true => exact h
  | false =>
    have ht : p.took < 1099511627776 := by
      unfold stops at hs
      cases hd : p.done with
      | true => rw [hd] at hs; simp at hs
      | false => rw [hd] at hs; simp at hs; exact hs
    have hnx := core_nx (m := m) (r0 := p.r0) (r1 := p.r1) (r2 := p.r2) (r3 := p.r3) ⟨h3, h4⟩ (h7 p.at_.toNat (by omega))
    have hnx : (coreP m p).nx = p.n ∨ (0 ≤ (coreP m p).nx ∧ (coreP m p).nx < p.n) := hnx
    have hat : 0 ≤ (bif (coreP m p).nx == p.n then p.at_ else (coreP m p).nx) ∧ (bif (coreP m p).nx == p.n then p.at_ else (coreP m p).nx) < p.n := by
      cases hq : (coreP m p).nx == p.n with
      | true => exact ⟨h3, h4⟩
      | false =>
        have : ¬ (coreP m p).nx = p.n := by simpa using hq
        show 0 ≤ (coreP m p).nx ∧ (coreP m p).nx < p.n
        omega
    exact mayP_mk (p := ⟨_, _, _, _, _, _, _, _, _⟩) h1 h2 hat.1 hat.2 (by show 0 ≤ p.took + 1; omega) (by show p.took + 1 ≤ _; omega) h7
theorem step_n (m : Nat → Int) (p : Prc) : (stepP m p).n = p.n := by
  unfold stepP
  cases stops p <;> rfl

structure MSt where
  m : Nat → Int
  l : Nat → Prc
/-- What a pick does. -/
def pickM (n : Nat) (s : MSt) (k : Int) : MSt := bif decide (k ≥ 0) && decide (k < n) then ⟨stepW s.m (s.l k.toNat), fun i => bif Nat.beq i k.toNat then stepP s.m (s.l k.toNat) else s.l i⟩ else s
def runM (n : Nat) (s : MSt) (picks : Nat → Int) : Nat → MSt
  | 0 => s
  | j + 1 => pickM n (runM n s picks j) (picks j)
theorem pick_may {n : Nat} {s : MSt} {k : Int} (h : ∀ i, i < n → mayP (s.l i) = true) : ∀ i, i < n → mayP ((pickM n s k).l i) = true := by
  intro i hi
  unfold pickM
  cases hk : decide (k ≥ 0) && decide (k < n) with
  | false => exact h i hi
  | true =>
    show mayP (bif Nat.beq i k.toNat then stepP s.m (s.l k.toNat) else s.l i) = true
    cases hb : Nat.beq i k.toNat with
    | false => exact h i hi
    | true =>
      have := Nat.eq_of_beq_eq_true hb
      subst this
      exact may_step (h _ hi)
theorem run_may {n : Nat} {s : MSt} {picks : Nat → Int} (h : ∀ i, i < n → mayP (s.l i) = true) : ∀ j i, i < n → mayP ((runM n s picks j).l i) = true
  | 0 => h
  | j + 1 => pick_may (run_may h j)
theorem mayL_facts {n : Nat} {l : Nat → Prc} (h : mayL n l = true) : n ≤ 8 ∧ ∀ i, i < n → mayP (l i) = true := by
  simp only [mayL, Bool.and_eq_true, decide_eq_true_eq, Bool.not_eq_true', anyB, List.any_eq_false, List.mem_range] at h
  refine ⟨by omega, fun i hi => ?_⟩
  have := h.2 i hi
  simpa using this

/-- Integers as data. -/
def iS (n : Nat) (ex : Bool) (g : Nat → Int) : AV := .imm (.sl 1 n ex fun i _ => .val (.int .i64 (g i)))
def isInts (n : Nat) (cell : Nat → Nat → IV) : Prop := ∀ i, i < n → cell i 0 = .val (.int .i64 (wordsAt cell i))
theorem ints_le {n : Nat} {ex : Bool} {cell : Nat → Nat → IV} (h : isInts n cell) : CLe (.one (.imm (.sl 1 n ex cell))) (.one (iS n ex (wordsAt cell))) :=
  CLe.imm (ILe.sl rfl id (.inr ⟨rfl, fun i j hi hj => by
    obtain rfl : j = 0 := by omega
    exact ILe.of_eq (h i hi)⟩))

def tabL : Tab := tabAdd 36 (fun args => match args with
  | [.one (.imm (.sl 8 n _ cell))] => some (.cv (ibool (mayL n (procsAt cell))), isProcs n cell)
  | _ => none) (tabAdd 46 (fun args => match args with
  | [.one (.imm (.sl 1 n _ cell)), c] => match asPrc c with
    | some (p, q) => some (.tup [.one (uS 64 false (stepW (wordsAt cell) p)), prcC (stepP (wordsAt cell) p)], n = 64 ∧ isWords n cell ∧ q ∧ mayP p = true)
    | none => none
  | _ => none) tabK)
theorem tabL_ok : TabOk Try.prog tabL := by
  refine tabAdd_ok rfl (fun args r p h hp => ?_) (tabAdd_ok rfl (fun args r p h hp => ?_) tabK_ok)
  · split at h
    · rename_i n ex cell
      simp only [Option.some.injEq, Prod.mk.injEq] at h; obtain ⟨rfl, rfl⟩ := h; exact (right36 n ex (procsAt cell)).args (TLe.cons (procs_le hp) TLe.nil)
    · cases h
  · split at h
    · rename_i n ex cell c
      split at h
      · rename_i p q hc
        simp only [Option.some.injEq, Prod.mk.injEq] at h; obtain ⟨rfl, rfl⟩ := h
        obtain ⟨rfl, h2, h3, h4⟩ := hp
        exact (step46 ex (wordsAt cell) p h4).args (TLe.cons (words_le h2) (TLe.cons (asPrc_le hc h3) TLe.nil))
      · cases h
    · cases h

def etL : ETab := etAdd 45 (fun args _ => match args with
  | [.one (.imm (.sl 8 n _ cell))] => some ⟨[], .cv (.one (.osl 0 8 0 0 n true)), [(0, some (.rows 54 8 n cell))], 1, n * 80 ≤ 140737488355328 ∧ n ≤ maxLen⟩
  | _ => none) et0
theorem etL_ok : ETabOk Try.prog etL := by
  refine etAdd_ok rfl (fun args H e h hv => ?_) (et0_ok _)
  split at h
  · rename_i n ex cell
    simp only [Option.some.injEq] at h
    subst h
    exact ⟨rfl, _, [], rfl, fun nx => rfl, fun nx j b hb => by simp at hb, clone45 n ex cell hv.1 hv.2⟩
  · cases h

theorem pick_in {n : Nat} {s : MSt} {k : Int} (h : 0 ≤ k ∧ k < n) : pickM n s k = ⟨stepW s.m (s.l k.toNat), fun i => bif Nat.beq i k.toNat then stepP s.m (s.l k.toNat) else s.l i⟩ := by
  unfold pickM
  rw [decide_eq_true (show k ≥ 0 from h.1), decide_eq_true h.2]
  rfl
theorem pick_out {n : Nat} {s : MSt} {k : Int} (h : (bif decide (k ≥ 0) then decide (k < n) else false) = false) : pickM n s k = s := by
  unfold pickM
  cases hq : decide (k ≥ 0) with
  | false => rfl
  | true => rw [hq] at h; rw [show decide (k < (n : Int)) = false from h]; rfl
theorem row_put {p : Prc} {l : Nat → Prc} (q k j : Nat) (hj : j < 8) : (bif Nat.beq q k && (Nat.ble 0 j && Nat.blt j (0 + 8)) then [prcI p 0, prcI p 1, prcI p 2, prcI p 3, prcI p 4, prcI p 5, prcI p 6, prcI p 7].getD (j - 0) ivDef else prcI (l q) j) = prcI (bif Nat.beq q k then p else l q) j := by
  cases Nat.beq q k with
  | false => rfl
  | true =>
    match j, hj with
    | 0, _ => rfl
    | 1, _ => rfl
    | 2, _ => rfl
    | 3, _ => rfl
    | 4, _ => rfl
    | 5, _ => rfl
    | 6, _ => rfl
    | 7, _ => rfl

theorem run28 (nm : Nat) (ex : Bool) (m : Nat → Int) (n : Nat) (ex' : Bool) (l : Nat → Prc) (np : Nat) (ex'' : Bool) (picks : Nat → Int) (hl : mayL n l = true) (hm : nm = 64) (hp : np ≤ 4000) :
    PCall Try.prog 28 [.one (uS nm ex m), .one (prcS n ex' l), .one (iS np ex'' picks)] (.tup [.one (uS 64 false (runM n ⟨m, l⟩ picks np).m), .one (prcS n false (runM n ⟨m, l⟩ picks np).l), iint 0]) := by
  subst hm
  obtain ⟨hn8, hmay⟩ := mayL_facts hl
  have hmx : n ≤ maxLen := by simp only [maxLen]; omega
  refine PCall_of (ACall_body good Try.func28 rfl 55 rfl (by simp) ?_)
  refine AW_seq ?_
  refine AW_all good tabL tabL_ok rfl rfl ?_ ?_
  · repeat' (first | exact trivial | exact rfl | exact (fun _ _ => rfl) | apply And.intro | intro _)
    all_goals (first | exact hmx | omega | exact hk.1 | exact hk.2 | (show 0 + (picks i).toNat < n; omega) | exact run_may hmay _ _ (by omega) | exact run_may hmay i _ (show 0 + (picks i).toNat < n by omega) | exact prog_lit _ _ | exact procs_lit _ _ | (rename_i hg; exact hg) | (rename_i hg; change (_ : Bool) = true; rw [hg]; rfl) | (change (_ : Bool) = true; simp_all; done))
  refine AW_seq ?_
  refine AW_seq ?_
  refine AW_all good tabL tabL_ok rfl rfl ?_ ?_
  · repeat' (first | exact trivial | exact rfl | exact (fun _ _ => rfl) | apply And.intro | intro _)
    all_goals (first | exact hmx | omega | exact hk.1 | exact hk.2 | (show 0 + (picks i).toNat < n; omega) | exact run_may hmay _ _ (by omega) | exact run_may hmay i _ (show 0 + (picks i).toNat < n by omega) | exact prog_lit _ _ | exact procs_lit _ _ | (rename_i hg; exact hg) | (rename_i hg; change (_ : Bool) = true; rw [hg]; rfl) | (change (_ : Bool) = true; simp_all; done))
  refine AW_cond rfl (fun h1 => ?_) (fun h1 => ?_)
  · first
    | (exfalso; simp_all; done)
    | (
        refine AW_seq ?_
        refine AW_all good tabL tabL_ok rfl rfl ?_ ?_
        · repeat' (first | exact trivial | exact rfl | exact (fun _ _ => rfl) | apply And.intro | intro _)
          all_goals (first | exact hmx | omega | exact hk.1 | exact hk.2 | (show 0 + (picks i).toNat < n; omega) | exact run_may hmay _ _ (by omega) | exact run_may hmay i _ (show 0 + (picks i).toNat < n by omega) | exact prog_lit _ _ | exact procs_lit _ _ | (rename_i hg; exact hg) | (rename_i hg; change (_ : Bool) = true; rw [hg]; rfl) | (change (_ : Bool) = true; simp_all; done))
        refine AW_ret (bodyQ_ret rfl ?_ (Ends.le rfl ?_ ?_))
        · repeat' (first | exact trivial | exact rfl | exact (fun _ _ => rfl) | apply And.intro | intro _)
          all_goals (first | exact hmx | omega | exact hk.1 | exact hk.2 | (show 0 + (picks i).toNat < n; omega) | exact run_may hmay _ _ (by omega) | exact run_may hmay i _ (show 0 + (picks i).toNat < n by omega) | exact prog_lit _ _ | exact procs_lit _ _ | (rename_i hg; exact hg) | (rename_i hg; change (_ : Bool) = true; rw [hg]; rfl) | (change (_ : Bool) = true; simp_all; done))
        · repeat' (first | exact trivial | exact rfl | exact (fun _ _ => rfl) | apply And.intro | intro _)
          all_goals (first | exact hmx | omega | exact hk.1 | exact hk.2 | (show 0 + (picks i).toNat < n; omega) | exact run_may hmay _ _ (by omega) | exact run_may hmay i _ (show 0 + (picks i).toNat < n by omega) | exact prog_lit _ _ | exact procs_lit _ _ | (rename_i hg; exact hg) | (rename_i hg; change (_ : Bool) = true; rw [hg]; rfl) | (change (_ : Bool) = true; simp_all; done))
        exfalso
        change (bif bif !mayL n l then true else false then true else decide ((np : Int) > 4000)) = true at h1
        rw [hl] at h1
        simp at h1
        omega
    )
  · first
    | (exfalso; simp_all; done)
    | (
        refine AW_skip ?_
        refine AW_seq ?_
        refine AW_eff good tabL tabL_ok etL etL_ok [] rfl rfl ?_ ?_
        · repeat' (first | exact trivial | exact rfl | exact (fun _ _ => rfl) | apply And.intro | intro _)
          all_goals (first | exact hmx | omega | exact hk.1 | exact hk.2 | (show 0 + (picks i).toNat < n; omega) | exact run_may hmay _ _ (by omega) | exact run_may hmay i _ (show 0 + (picks i).toNat < n by omega) | exact prog_lit _ _ | exact procs_lit _ _ | (rename_i hg; exact hg) | (rename_i hg; change (_ : Bool) = true; rw [hg]; rfl) | (change (_ : Bool) = true; simp_all; done))
        refine AW_seq ?_
        refine AW_seq ?_
        refine AW_all good tabL tabL_ok rfl rfl ?_ ?_
        · repeat' (first | exact trivial | exact rfl | exact (fun _ _ => rfl) | apply And.intro | intro _)
          all_goals (first | exact hmx | omega | exact hk.1 | exact hk.2 | (show 0 + (picks i).toNat < n; omega) | exact run_may hmay _ _ (by omega) | exact run_may hmay i _ (show 0 + (picks i).toNat < n by omega) | exact prog_lit _ _ | exact procs_lit _ _ | (rename_i hg; exact hg) | (rename_i hg; change (_ : Bool) = true; rw [hg]; rfl) | (change (_ : Bool) = true; simp_all; done))
        refine AW_block ?_
        refine AW_loopH 1 (fun j : { i : Nat // i ≤ np } => [(0, .cv (.one (uS 64 false (runM n ⟨m, l⟩ picks j.1).m))), (1, .cv (.one (.osl 0 8 0 0 n true))), (26, .cv (.one (iS np ex'' picks))), (27, .cv (iint np)), (28, .cv (iint j.1))]) (fun j => [(0, .rows 54 8 n fun i q => prcI ((runM n ⟨m, l⟩ picks j.1).l i) q)]) (fun j => np - j.1) ⟨0, Nat.zero_le _⟩ [0] rfl rfl ?_ ?_ ?_
        · exact ⟨SLe.cv (uS_le rfl fun _ => rfl), SLe.of_eq rfl, SLe.of_eq rfl, SLe.of_eq rfl, SLe.of_eq rfl, trivial⟩
        · exact ⟨⟨rfl, _, rfl, BLe.of_eq rfl⟩, trivial⟩
        rintro ⟨i, hi⟩
        dsimp only
        refine AW_seq ?_
        refine AW_all good tabL tabL_ok rfl rfl ?_ ?_
        · repeat' (first | exact trivial | exact rfl | exact (fun _ _ => rfl) | apply And.intro | intro _)
          all_goals (first | exact hmx | omega | exact hk.1 | exact hk.2 | (show 0 + (picks i).toNat < n; omega) | exact run_may hmay _ _ (by omega) | exact run_may hmay i _ (show 0 + (picks i).toNat < n by omega) | exact prog_lit _ _ | exact procs_lit _ _ | (rename_i hg; exact hg) | (rename_i hg; change (_ : Bool) = true; rw [hg]; rfl) | (change (_ : Bool) = true; simp_all; done))
        refine AW_seq ?_
        refine AW_cond rfl (fun h2 => ?_) (fun h2 => ?_)
        · first
          | (exfalso; simp_all; done)
          | (
              refine AW_skip ?_
              refine AW_seq ?_
              refine AW_block ?_
              refine AW_seq ?_
              have hlt : i < np := by simpa using h2
              refine AW_all good tabL tabL_ok rfl rfl ?_ ?_
              · repeat' (first | exact trivial | exact rfl | exact (fun _ _ => rfl) | apply And.intro | intro _)
                all_goals (first | exact hmx | omega | exact hk.1 | exact hk.2 | (show 0 + (picks i).toNat < n; omega) | exact run_may hmay _ _ (by omega) | exact run_may hmay i _ (show 0 + (picks i).toNat < n by omega) | exact prog_lit _ _ | exact procs_lit _ _ | (rename_i hg; exact hg) | (rename_i hg; change (_ : Bool) = true; rw [hg]; rfl) | (change (_ : Bool) = true; simp_all; done))
              refine AW_seq ?_
              refine AW_all good tabL tabL_ok rfl rfl ?_ ?_
              · repeat' (first | exact trivial | exact rfl | exact (fun _ _ => rfl) | apply And.intro | intro _)
                all_goals (first | exact hmx | omega | exact hk.1 | exact hk.2 | (show 0 + (picks i).toNat < n; omega) | exact run_may hmay _ _ (by omega) | exact run_may hmay i _ (show 0 + (picks i).toNat < n by omega) | exact prog_lit _ _ | exact procs_lit _ _ | (rename_i hg; exact hg) | (rename_i hg; change (_ : Bool) = true; rw [hg]; rfl) | (change (_ : Bool) = true; simp_all; done))
              refine AW_cond rfl (fun h3 => ?_) (fun h3 => ?_)
              · first
                | (exfalso; simp_all; done)
                | (
                    have hk : 0 ≤ picks i ∧ picks i < n := by
                      have h : (bif decide (picks i ≥ 0) then decide (picks i < n) else false) = true := h3
                      cases hq : decide (picks i ≥ 0) with
                      | false => rw [hq] at h; cases h
                      | true => rw [hq] at h; exact ⟨of_decide_eq_true hq, of_decide_eq_true h⟩
                    have hki : ((i : Nat) : Int).toNat = i := by omega
                    refine AW_all good tabL tabL_ok rfl rfl ?_ ?_
                    · repeat' (first | exact trivial | exact rfl | exact (fun _ _ => rfl) | apply And.intro | intro _)
                      all_goals (first | exact hmx | omega | exact hk.1 | exact hk.2 | (show 0 + (picks i).toNat < n; omega) | exact run_may hmay _ _ (by omega) | exact run_may hmay i _ (show 0 + (picks i).toNat < n by omega) | exact prog_lit _ _ | exact procs_lit _ _ | (rename_i hg; exact hg) | (rename_i hg; change (_ : Bool) = true; rw [hg]; rfl) | (change (_ : Bool) = true; simp_all; done))
                    refine AW_all good tabL tabL_ok rfl rfl ?_ ?_
                    · repeat' (first | exact trivial | exact rfl | exact (fun _ _ => rfl) | apply And.intro | intro _)
                      all_goals (first | exact hmx | omega | exact hk.1 | exact hk.2 | (show 0 + (picks i).toNat < n; omega) | exact run_may hmay _ _ (by omega) | exact run_may hmay i _ (show 0 + (picks i).toNat < n by omega) | exact prog_lit _ _ | exact procs_lit _ _ | (rename_i hg; exact hg) | (rename_i hg; change (_ : Bool) = true; rw [hg]; rfl) | (change (_ : Bool) = true; simp_all; done))
                    have e : runM n ⟨m, l⟩ picks (i + 1) = ⟨stepW (runM n ⟨m, l⟩ picks i).m ((runM n ⟨m, l⟩ picks i).l (0 + (picks i).toNat)), fun q => bif Nat.beq q (0 + (picks i).toNat) then stepP (runM n ⟨m, l⟩ picks i).m ((runM n ⟨m, l⟩ picks i).l (0 + (picks i).toNat)) else (runM n ⟨m, l⟩ picks i).l q⟩ := by
                      rw [Nat.zero_add]
                      exact pick_in hk
                    refine loopH_next ⟨i + 1, hlt⟩ [0] rfl rfl ⟨SLe.of_eq (congrArg (fun s : MSt => SV.cv (CV.one (uS 64 false s.m))) e.symm), SLe.of_eq rfl, SLe.of_eq rfl, SLe.of_eq rfl, SLe.of_eq (congrArg (fun z => SV.cv (iint z)) (next_int i np hlt (by simp only [maxLen]; omega))), trivial⟩ ⟨⟨rfl, _, rfl, BLe.rows rfl (fun q j hq hj => ILe.of_eq ?_)⟩, trivial⟩ ?_
                    · rw [e]
                      exact row_put q (0 + (picks i).toNat) j hj
                    show np - (i + 1) < np - i
                    omega
                )
              · first
                | (exfalso; simp_all; done)
                | (
                    refine AW_skip ?_
                    refine AW_all good tabL tabL_ok rfl rfl ?_ ?_
                    · repeat' (first | exact trivial | exact rfl | exact (fun _ _ => rfl) | apply And.intro | intro _)
                      all_goals (first | exact hmx | omega | exact hk.1 | exact hk.2 | (show 0 + (picks i).toNat < n; omega) | exact run_may hmay _ _ (by omega) | exact run_may hmay i _ (show 0 + (picks i).toNat < n by omega) | exact prog_lit _ _ | exact procs_lit _ _ | (rename_i hg; exact hg) | (rename_i hg; change (_ : Bool) = true; rw [hg]; rfl) | (change (_ : Bool) = true; simp_all; done))
                    have e : runM n ⟨m, l⟩ picks (i + 1) = runM n ⟨m, l⟩ picks i := pick_out h3
                    refine loopH_next ⟨i + 1, hlt⟩ [0] rfl rfl ⟨SLe.of_eq (congrArg (fun s : MSt => SV.cv (CV.one (uS 64 false s.m))) e.symm), SLe.of_eq rfl, SLe.of_eq rfl, SLe.of_eq rfl, SLe.of_eq (congrArg (fun z => SV.cv (iint z)) (next_int i np hlt (by simp only [maxLen]; omega))), trivial⟩ ⟨⟨rfl, _, rfl, BLe.of_eq (congrArg (fun s : MSt => ABlk.rows 54 8 n fun i q => prcI (s.l i) q) e.symm)⟩, trivial⟩ ?_
                    show np - (i + 1) < np - i
                    omega
                )
          )
        · first
          | (exfalso; simp_all; done)
          | (
              refine AW_exit ?_
              refine AW_seq ?_
              refine AW_all good tabL tabL_ok rfl rfl ?_ ?_
              · repeat' (first | exact trivial | exact rfl | exact (fun _ _ => rfl) | apply And.intro | intro _)
                all_goals (first | exact hmx | omega | exact hk.1 | exact hk.2 | (show 0 + (picks i).toNat < n; omega) | exact run_may hmay _ _ (by omega) | exact run_may hmay i _ (show 0 + (picks i).toNat < n by omega) | exact prog_lit _ _ | exact procs_lit _ _ | (rename_i hg; exact hg) | (rename_i hg; change (_ : Bool) = true; rw [hg]; rfl) | (change (_ : Bool) = true; simp_all; done))
              refine AW_ret (bodyQ_ret rfl ?_ (Ends.le rfl ?_ ?_))
              · repeat' (first | exact trivial | exact rfl | exact (fun _ _ => rfl) | apply And.intro | intro _)
                all_goals (first | exact hmx | omega | exact hk.1 | exact hk.2 | (show 0 + (picks i).toNat < n; omega) | exact run_may hmay _ _ (by omega) | exact run_may hmay i _ (show 0 + (picks i).toNat < n by omega) | exact prog_lit _ _ | exact procs_lit _ _ | (rename_i hg; exact hg) | (rename_i hg; change (_ : Bool) = true; rw [hg]; rfl) | (change (_ : Bool) = true; simp_all; done))
              · repeat' (first | exact trivial | exact rfl | exact (fun _ _ => rfl) | apply And.intro | intro _)
                all_goals (first | exact hmx | omega | exact hk.1 | exact hk.2 | (show 0 + (picks i).toNat < n; omega) | exact run_may hmay _ _ (by omega) | exact run_may hmay i _ (show 0 + (picks i).toNat < n by omega) | exact prog_lit _ _ | exact procs_lit _ _ | (rename_i hg; exact hg) | (rename_i hg; change (_ : Bool) = true; rw [hg]; rfl) | (change (_ : Bool) = true; simp_all; done))
              have he : i = np := by
                have : ¬ i < np := by simpa using h2
                omega
              subst he
              exact SLe.triple (CLe.of_eq rfl) (CLe.imm (ILe.sl (by simp) (by simp) (.inr ⟨rfl, fun i j _ _ => ILe.of_eq (by rw [Nat.zero_add])⟩))) (CLe.of_eq rfl)
          )
    )
end Go.Proofs.Ytndfcbcmeeemfaa.Abs

/-
  WHAT THE LAWS OF machine ARE MADE OF (7): words, few, adds.
-/
namespace Go.Proofs.Ytndfcbcmeeemfaa.Abs
open Go
set_option maxRecDepth 10000

theorem words26 (n : Nat) (ex : Bool) (m : Nat → Int) : PCall Try.prog 26 [.one (uS n ex m)] (.cv (.one (uS 64 false fun i => bif Nat.blt i n then m i else 0))) := by
  refine PCall_of (ACall_body good Try.func26 rfl 9 rfl (by simp) ?_)
  refine AW_seq ?_
  refine AW_all good tabL tabL_ok rfl rfl ?_ ?_
  · repeat' (first | exact trivial | exact rfl | exact (fun _ _ => rfl) | apply And.intro | intro _)
    all_goals (first | omega | decide | exact prog_lit _ _ | exact procs_lit _ _ | (rename_i hg; exact hg) | (rename_i hg; change (_ : Bool) = true; rw [hg]; rfl) | (change (_ : Bool) = true; simp_all; done))
  refine AW_seq ?_
  refine AW_all good tabL tabL_ok rfl rfl ?_ ?_
  · repeat' (first | exact trivial | exact rfl | exact (fun _ _ => rfl) | apply And.intro | intro _)
    all_goals (first | omega | decide | exact prog_lit _ _ | exact procs_lit _ _ | (rename_i hg; exact hg) | (rename_i hg; change (_ : Bool) = true; rw [hg]; rfl) | (change (_ : Bool) = true; simp_all; done))
  refine AW_seq ?_
  refine AW_part good tabL tabL_ok et0 (et0_ok _) [] rfl rfl ?_ (AL_copy good (m := n) rfl rfl rfl rfl rfl rfl rfl rfl trivial trivial rfl (AL_nil ?_))
  · repeat' (first | exact trivial | exact rfl | exact (fun _ _ => rfl) | apply And.intro | intro _)
    all_goals (first | omega | decide | exact prog_lit _ _ | exact procs_lit _ _ | (rename_i hg; exact hg) | (rename_i hg; change (_ : Bool) = true; rw [hg]; rfl) | (change (_ : Bool) = true; simp_all; done))
  refine AW_seq ?_
  refine AW_all good tabL tabL_ok rfl rfl ?_ ?_
  · repeat' (first | exact trivial | exact rfl | exact (fun _ _ => rfl) | apply And.intro | intro _)
    all_goals (first | omega | decide | exact prog_lit _ _ | exact procs_lit _ _ | (rename_i hg; exact hg) | (rename_i hg; change (_ : Bool) = true; rw [hg]; rfl) | (change (_ : Bool) = true; simp_all; done))
  refine AW_ret (bodyQ_ret rfl ?_ (Ends.le rfl ?_ ?_))
  · repeat' (first | exact trivial | exact rfl | exact (fun _ _ => rfl) | apply And.intro | intro _)
    all_goals (first | omega | decide | exact prog_lit _ _ | exact procs_lit _ _ | (rename_i hg; exact hg) | (rename_i hg; change (_ : Bool) = true; rw [hg]; rfl) | (change (_ : Bool) = true; simp_all; done))
  · repeat' (first | exact trivial | exact rfl | exact (fun _ _ => rfl) | apply And.intro | intro _)
    all_goals (first | omega | decide | exact prog_lit _ _ | exact procs_lit _ _ | (rename_i hg; exact hg) | (rename_i hg; change (_ : Bool) = true; rw [hg]; rfl) | (change (_ : Bool) = true; simp_all; done))
  refine SLe.cv (CLe.imm (ILe.sl rfl (by simp) (.inr ⟨rfl, fun i j hi hj => ILe.of_eq ?_⟩)))
  obtain rfl : j = 0 := by
    have : j < 1 := hj
    omega
  rw [Nat.zero_add]
  show (bif Nat.blt i n then IV.val (.int .u64 (m i)) else zeroIV lay22 0) = IV.val (.int .u64 (bif Nat.blt i n then m i else 0))
  cases Nat.blt i n <;> rfl

def fewP (p : Prc) : Prc := ⟨min p.n 66, p.prog, p.at_, p.r0, p.r1, p.r2, p.r3, p.done, p.took⟩
theorem few27 (p : Prc) : PCall Try.prog 27 [prcC p] (.cv (prcC (fewP p))) := by
  refine PCall_of (ACall_body good Try.func27 rfl 12 rfl (by simp) ?_)
  refine AW_seq ?_
  refine AW_all good tabL tabL_ok rfl rfl ?_ ?_
  · repeat' (first | exact trivial | exact rfl | exact (fun _ _ => rfl) | apply And.intro | intro _)
    all_goals (first | omega | (split <;> omega) | skip)
  refine AW_seq ?_
  refine AW_all good tabL tabL_ok rfl rfl ?_ ?_
  · repeat' (first | exact trivial | exact rfl | exact (fun _ _ => rfl) | apply And.intro | intro _)
    all_goals (first | omega | (split <;> omega) | skip)
  refine AW_seq ?_
  refine AW_all good tabL tabL_ok rfl rfl ?_ ?_
  · repeat' (first | exact trivial | exact rfl | exact (fun _ _ => rfl) | apply And.intro | intro _)
    all_goals (first | omega | (split <;> omega) | skip)
  refine AW_ret (bodyQ_ret rfl ?_ (Ends.le rfl ?_ ?_))
  · repeat' (first | exact trivial | exact rfl | exact (fun _ _ => rfl) | apply And.intro | intro _)
    all_goals (first | omega | (split <;> omega) | skip)
  · repeat' (first | exact trivial | exact rfl | exact (fun _ _ => rfl) | apply And.intro | intro _)
    all_goals (first | omega | (split <;> omega) | skip)
  refine SLe.cv (CLe.aggL ⟨CLe.imm (ILe.sl ?_ (by simp) (.inr ⟨rfl, fun i j hi hj => ILe.of_eq (congrArg (fun i => insI (p.prog i) j) (Nat.zero_add i))⟩)), CLe.refl _, CLe.refl _, CLe.refl _, CLe.refl _, CLe.refl _, CLe.refl _, CLe.refl _, trivial⟩)
  show min p.n 66 = _
  split <;> omega

/-- A process that adds 1 to a word so many times, and ends. -/
def addI (at_ : Int) (k i : Nat) : Ins := bif Nat.blt i k then ⟨4, 0, at_, 1, 0⟩ else ⟨8, 0, 0, 0, 0⟩
def addsP (at_ : Int) (k : Nat) : Prc := ⟨k + 1, addI at_ k, 0, 0, 0, 0, 0, false, 0⟩
theorem adds33 (at_ many : Int) (hm : 0 ≤ many) (hm2 : many ≤ 1000000) : PCall Try.prog 33 [iint at_, iint many] (.cv (prcC (addsP at_ many.toNat))) := by
  obtain ⟨k, rfl⟩ : ∃ k : Nat, many = k := ⟨many.toNat, by omega⟩
  refine PCall_of (ACall_body good Try.func33 rfl 25 rfl (by simp) ?_)
  refine AW_seq ?_
  refine AW_all good tabL tabL_ok rfl rfl ?_ ?_
  · repeat' (first | exact trivial | exact rfl | exact (fun _ _ => rfl) | apply And.intro | intro _)
    all_goals (first | omega | (simp only [maxLen]; omega) | (show (i + 1) * 40 ≤ 140737488355328; omega) | (show (k + 1) * 40 ≤ 140737488355328; omega) | (have hlt : i < k := by simpa using h1) | skip)
  refine AW_seq ?_
  refine AW_all good tabL tabL_ok rfl rfl ?_ ?_
  · repeat' (first | exact trivial | exact rfl | exact (fun _ _ => rfl) | apply And.intro | intro _)
    all_goals (first | omega | (simp only [maxLen]; omega) | (show (i + 1) * 40 ≤ 140737488355328; omega) | (show (k + 1) * 40 ≤ 140737488355328; omega) | (have hlt : i < k := by simpa using h1) | skip)
  refine AW_seq ?_
  refine AW_seq ?_
  refine AW_all good tabL tabL_ok rfl rfl ?_ ?_
  · repeat' (first | exact trivial | exact rfl | exact (fun _ _ => rfl) | apply And.intro | intro _)
    all_goals (first | omega | (simp only [maxLen]; omega) | (show (i + 1) * 40 ≤ 140737488355328; omega) | (show (k + 1) * 40 ≤ 140737488355328; omega) | (have hlt : i < k := by simpa using h1) | skip)
  refine AW_block ?_
  refine AW_absent 67 5 (fun _ _ => ivDef) ?_
  refine AW_loopH 3 (fun j : { i : Nat // i ≤ k } => [(0, .cv (iint at_)), (4, .cv (.one (.own 0 0 0 0))), (5, .cv (.one (.own 1 0 0 0))), (7, .cv (iint k)), (8, .cv (iint j.1))]) (fun j => [(0, .var 54 (zeros lay54)), (1, .var 54 [.osl 2 5 0 0 j.1 true, .imm (.val (.int .i64 0)), .imm (.val (.int .u64 0)), .imm (.val (.int .u64 0)), .imm (.val (.int .u64 0)), .imm (.val (.int .u64 0)), .imm (.val (.bool false)), .imm (.val (.int .i64 0))]), (2, .rows 67 5 j.1 fun _ q => insI ⟨4, 0, at_, 1, 0⟩ q)]) (fun j => k - j.1) ⟨0, Nat.zero_le _⟩ [0, 1, 3] rfl rfl ?_ ?_ ?_
  · exact ⟨SLe.of_eq rfl, SLe.of_eq rfl, SLe.of_eq rfl, SLe.of_eq rfl, SLe.of_eq rfl, trivial⟩
  · exact ⟨⟨rfl, _, rfl, BLe.of_eq rfl⟩, ⟨rfl, _, rfl, BLe.var ⟨CLe.empty, CLe.refl _, CLe.refl _, CLe.refl _, CLe.refl _, CLe.refl _, CLe.refl _, CLe.refl _, trivial⟩⟩, ⟨rfl, _, rfl, BLe.rows rfl fun i j hi _ => absurd hi (Nat.not_lt_zero i)⟩, trivial⟩
  rintro ⟨i, hi⟩
  dsimp only
  refine AW_seq ?_
  refine AW_all good tabL tabL_ok rfl rfl ?_ ?_
  · repeat' (first | exact trivial | exact rfl | exact (fun _ _ => rfl) | apply And.intro | intro _)
    all_goals (first | omega | (simp only [maxLen]; omega) | (show (i + 1) * 40 ≤ 140737488355328; omega) | (show (k + 1) * 40 ≤ 140737488355328; omega) | (have hlt : i < k := by simpa using h1) | skip)
  refine AW_seq ?_
  refine AW_cond rfl (fun h1 => ?_) (fun h1 => ?_)
  · first
    | (exfalso; simp_all; done)
    | (
        refine AW_skip ?_
        refine AW_seq ?_
        refine AW_block ?_
        refine AW_all good tabL tabL_ok rfl rfl ?_ ?_
        · repeat' (first | exact trivial | exact rfl | exact (fun _ _ => rfl) | apply And.intro | intro _)
          all_goals (first | omega | (simp only [maxLen]; omega) | (show (i + 1) * 40 ≤ 140737488355328; omega) | (show (k + 1) * 40 ≤ 140737488355328; omega) | (have hlt : i < k := by simpa using h1) | skip)
        refine AW_all good tabL tabL_ok rfl rfl ?_ ?_
        · repeat' (first | exact trivial | exact rfl | exact (fun _ _ => rfl) | apply And.intro | intro _)
          all_goals (first | omega | (simp only [maxLen]; omega) | (show (i + 1) * 40 ≤ 140737488355328; omega) | (show (k + 1) * 40 ≤ 140737488355328; omega) | (have hlt : i < k := by simpa using h1) | skip)
        have hlt : i < k := by simpa using h1
        refine loopH_next ⟨i + 1, hlt⟩ [0, 1, 4] rfl rfl ⟨SLe.of_eq rfl, SLe.of_eq rfl, SLe.of_eq rfl, SLe.of_eq rfl, SLe.of_eq (congrArg (fun z => SV.cv (iint z)) (next_int i k hlt (by simp only [maxLen]; omega))), trivial⟩ ⟨⟨rfl, _, rfl, BLe.of_eq rfl⟩, ⟨rfl, _, rfl, BLe.of_eq rfl⟩, ⟨rfl, _, rfl, BLe.rows rfl (fun q j hq hj => ILe.of_eq (app_last (f := fun _ j => insI ⟨4, 0, at_, 1, 0⟩ j) hq fun _ => ?_))⟩, trivial⟩ ?_
        · match j, hj with
          | 0, _ => rfl
          | 1, _ => rfl
          | 2, _ => rfl
          | 3, _ => rfl
          | 4, _ => rfl
        show k - (i + 1) < k - i
        omega
    )
  · first
    | (exfalso; simp_all; done)
    | (
        refine AW_exit ?_
        refine AW_seq ?_
        refine AW_all good tabL tabL_ok rfl rfl ?_ ?_
        · repeat' (first | exact trivial | exact rfl | exact (fun _ _ => rfl) | apply And.intro | intro _)
          all_goals (first | omega | (simp only [maxLen]; omega) | (show (i + 1) * 40 ≤ 140737488355328; omega) | (show (k + 1) * 40 ≤ 140737488355328; omega) | (have hlt : i < k := by simpa using h1) | skip)
        refine AW_seq ?_
        refine AW_all good tabL tabL_ok rfl rfl ?_ ?_
        · repeat' (first | exact trivial | exact rfl | exact (fun _ _ => rfl) | apply And.intro | intro _)
          all_goals (first | omega | (simp only [maxLen]; omega) | (show (i + 1) * 40 ≤ 140737488355328; omega) | (show (k + 1) * 40 ≤ 140737488355328; omega) | (have hlt : i < k := by simpa using h1) | skip)
        refine AW_ret (bodyQ_ret rfl ?_ (Ends.le rfl ?_ ?_))
        · repeat' (first | exact trivial | exact rfl | exact (fun _ _ => rfl) | apply And.intro | intro _)
          all_goals (first | omega | (simp only [maxLen]; omega) | (show (i + 1) * 40 ≤ 140737488355328; omega) | (show (k + 1) * 40 ≤ 140737488355328; omega) | (have hlt : i < k := by simpa using h1) | skip)
        · repeat' (first | exact trivial | exact rfl | exact (fun _ _ => rfl) | apply And.intro | intro _)
          all_goals (first | omega | (simp only [maxLen]; omega) | (show (i + 1) * 40 ≤ 140737488355328; omega) | (show (k + 1) * 40 ≤ 140737488355328; omega) | (have hlt : i < k := by simpa using h1) | skip)
        have he : i = k := by
          have : ¬ i < k := by simpa using h1
          omega
        subst he
        refine SLe.cv (CLe.aggL ⟨CLe.imm (ILe.sl rfl (by simp) (.inr ⟨rfl, fun q j hq hj => ILe.of_eq ?_⟩)), CLe.refl _, CLe.refl _, CLe.refl _, CLe.refl _, CLe.refl _, CLe.refl _, CLe.refl _, trivial⟩)
        rw [Nat.zero_add]
        show (bif Nat.blt q i then insI ⟨4, 0, at_, 1, 0⟩ j else [IV.val (.int .i64 8), .val (.int .i64 0), .val (.int .i64 0), .val (.int .u64 0), .val (.int .i64 0)].getD ((0 + (q - i)) * 5 + j) ivDef) = insI (addI at_ i q) j
        unfold addI
        cases hb : Nat.blt q i with
        | true => rfl
        | false =>
          have hqi : q = i := by
            have h2 : ¬ q < i := fun h => by
              have : Nat.blt q i = true := Nat.ble_eq_true_of_le h
              rw [hb] at this
              cases this
            have h3 : q < i + 1 := hq
            omega
          subst hqi
          rw [Nat.sub_self]
          match j, hj with
          | 0, _ => rfl
          | 1, _ => rfl
          | 2, _ => rfl
          | 3, _ => rfl
          | 4, _ => rfl
    )
end Go.Proofs.Ytndfcbcmeeemfaa.Abs

/-
  WHAT THE LAWS OF machine ARE MADE OF (8): alive.
-/
namespace Go.Proofs.Ytndfcbcmeeemfaa.Abs
open Go
set_option maxRecDepth 10000

def tabM : Tab := tabAdd 33 (fun args => match args with
  | [.one (.imm (.val (.int .i64 at_))), .one (.imm (.val (.int .i64 many)))] => some (.cv (prcC (addsP at_ many.toNat)), 0 ≤ many ∧ many ≤ 1000000)
  | _ => none) (tabAdd 28 (fun args => match args with
  | [.one (.imm (.sl 1 nm _ cm)), .one (.imm (.sl 8 n _ cl)), .one (.imm (.sl 1 np _ cp))] => some (.tup [.one (uS 64 false (runM n ⟨wordsAt cm, procsAt cl⟩ (wordsAt cp) np).m), .one (prcS n false (runM n ⟨wordsAt cm, procsAt cl⟩ (wordsAt cp) np).l), iint 0], isWords nm cm ∧ isProcs n cl ∧ isInts np cp ∧ mayL n (procsAt cl) = true ∧ nm = 64 ∧ np ≤ 4000)
  | _ => none) (tabAdd 26 (fun args => match args with
  | [.one (.imm (.sl 1 n _ cell))] => some (.cv (.one (uS 64 false fun i => bif Nat.blt i n then wordsAt cell i else 0)), isWords n cell)
  | _ => none) (tabAdd 27 (fun args => match args with
  | [c] => match asPrc c with
    | some (p, q) => some (.cv (prcC (fewP p)), q)
    | none => none
  | _ => none) tabL)))
theorem tabM_ok : TabOk Try.prog tabM := by
  refine tabAdd_ok rfl (fun args r p h hp => ?_) (tabAdd_ok rfl (fun args r p h hp => ?_) (tabAdd_ok rfl (fun args r p h hp => ?_) (tabAdd_ok rfl (fun args r p h hp => ?_) tabL_ok)))
  · split at h
    · simp only [Option.some.injEq, Prod.mk.injEq] at h; obtain ⟨rfl, rfl⟩ := h; exact adds33 _ _ hp.1 hp.2
    · cases h
  · split at h
    · rename_i nm ex cm n ex' cl np ex'' cp
      simp only [Option.some.injEq, Prod.mk.injEq] at h; obtain ⟨rfl, rfl⟩ := h
      exact (run28 nm ex (wordsAt cm) n ex' (procsAt cl) np ex'' (wordsAt cp) hp.2.2.2.1 hp.2.2.2.2.1 hp.2.2.2.2.2).args (TLe.cons (words_le hp.1) (TLe.cons (procs_le hp.2.1) (TLe.cons (ints_le hp.2.2.1) TLe.nil)))
    · cases h
  · split at h
    · rename_i n ex cell
      simp only [Option.some.injEq, Prod.mk.injEq] at h; obtain ⟨rfl, rfl⟩ := h; exact (words26 n ex (wordsAt cell)).args (TLe.cons (words_le hp) TLe.nil)
    · cases h
  · split at h
    · split at h
      · rename_i hc
        simp only [Option.some.injEq, Prod.mk.injEq] at h; obtain ⟨rfl, rfl⟩ := h; exact (few27 _).args (TLe.cons (asPrc_le hc hp) TLe.nil)
      · cases h
    · cases h

theorem alive30 : PCall Try.prog 30 [] (.cv (ibool true)) := by
  refine PCall_of (ACall_body good Try.func30 rfl 44 rfl (by simp) ?_)
  refine AW_seq ?_
  refine AW_all good tabM tabM_ok rfl rfl ?_ ?_
  · repeat' (first | exact trivial | exact rfl | exact (fun _ _ => rfl) | apply And.intro | intro _)
    all_goals (first | omega | decide | exact prog_lit _ _ | exact procs_lit _ _ | (rename_i hg; exact hg) | (rename_i hg; change (_ : Bool) = true; rw [hg]; rfl) | (change (_ : Bool) = true; simp_all; done) | (rename_i i hi; match i, hi with | 0, _ => rfl | 1, _ => rfl | 2, _ => rfl) | (rename_i i hi j hj w O v h; obtain rfl : i = 0 := (by omega); match j, hj, h with | 0, _, h => exact h | 1, _, h => exact h | 2, _, h => exact h | 3, _, h => exact h | 4, _, h => exact h | 5, _, h => exact h | 6, _, h => exact h | 7, _, h => exact h))
  refine AW_seq ?_
  refine AW_drwF good rfl tabM tabM_ok [0, 2, 3] rfl rfl rfl rfl ?_ ?_
  · repeat' (first | exact trivial | exact rfl | exact (fun _ _ => rfl) | apply And.intro | intro _)
    all_goals (first | omega | decide | exact prog_lit _ _ | exact procs_lit _ _ | (rename_i hg; exact hg) | (rename_i hg; change (_ : Bool) = true; rw [hg]; rfl) | (change (_ : Bool) = true; simp_all; done) | (rename_i i hi; match i, hi with | 0, _ => rfl | 1, _ => rfl | 2, _ => rfl) | (rename_i i hi j hj w O v h; obtain rfl : i = 0 := (by omega); match j, hj, h with | 0, _, h => exact h | 1, _, h => exact h | 2, _, h => exact h | 3, _, h => exact h | 4, _, h => exact h | 5, _, h => exact h | 6, _, h => exact h | 7, _, h => exact h))
  refine AW_seq ?_
  refine AW_all good tabM tabM_ok rfl rfl ?_ ?_
  · repeat' (first | exact trivial | exact rfl | exact (fun _ _ => rfl) | apply And.intro | intro _)
    all_goals (first | omega | decide | exact prog_lit _ _ | exact procs_lit _ _ | (rename_i hg; exact hg) | (rename_i hg; change (_ : Bool) = true; rw [hg]; rfl) | (change (_ : Bool) = true; simp_all; done) | (rename_i i hi; match i, hi with | 0, _ => rfl | 1, _ => rfl | 2, _ => rfl) | (rename_i i hi j hj w O v h; obtain rfl : i = 0 := (by omega); match j, hj, h with | 0, _, h => exact h | 1, _, h => exact h | 2, _, h => exact h | 3, _, h => exact h | 4, _, h => exact h | 5, _, h => exact h | 6, _, h => exact h | 7, _, h => exact h))
  refine AW_ret (bodyQ_ret rfl ?_ (Ends.intro rfl ?_ ?_))
  · repeat' (first | exact trivial | exact rfl | exact (fun _ _ => rfl) | apply And.intro | intro _)
    all_goals (first | omega | decide | exact prog_lit _ _ | exact procs_lit _ _ | (rename_i hg; exact hg) | (rename_i hg; change (_ : Bool) = true; rw [hg]; rfl) | (change (_ : Bool) = true; simp_all; done) | (rename_i i hi; match i, hi with | 0, _ => rfl | 1, _ => rfl | 2, _ => rfl) | (rename_i i hi j hj w O v h; obtain rfl : i = 0 := (by omega); match j, hj, h with | 0, _, h => exact h | 1, _, h => exact h | 2, _, h => exact h | 3, _, h => exact h | 4, _, h => exact h | 5, _, h => exact h | 6, _, h => exact h | 7, _, h => exact h))
  · repeat' (first | exact trivial | exact rfl | exact (fun _ _ => rfl) | apply And.intro | intro _)
    all_goals (first | omega | decide | exact prog_lit _ _ | exact procs_lit _ _ | (rename_i hg; exact hg) | (rename_i hg; change (_ : Bool) = true; rw [hg]; rfl) | (change (_ : Bool) = true; simp_all; done) | (rename_i i hi; match i, hi with | 0, _ => rfl | 1, _ => rfl | 2, _ => rfl) | (rename_i i hi j hj w O v h; obtain rfl : i = 0 := (by omega); match j, hj, h with | 0, _, h => exact h | 1, _, h => exact h | 2, _, h => exact h | 3, _, h => exact h | 4, _, h => exact h | 5, _, h => exact h | 6, _, h => exact h | 7, _, h => exact h))
  rfl
end Go.Proofs.Ytndfcbcmeeemfaa.Abs
