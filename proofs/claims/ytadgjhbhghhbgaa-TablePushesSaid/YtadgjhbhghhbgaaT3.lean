/-
  TABLES AS DATA; the contracts of package table: shape, Now, New, Open, Shut.
-/
import Derived.Test.YtadgjhbhghhbgaaT2
namespace Go.Proofs.Ytadgjhbhghhbgaa.Abs
open Go
set_option maxRecDepth 10000

/-- A version: its number, and six cells more. -/
structure RecD where
  no : Int
  a : IV
  b : IV
  c : IV
  d : IV
  e : IV
  f : IV
def recI (r : RecD) : Nat → IV := fun j => [IV.val (.int .i64 r.no), r.a, r.b, r.c, r.d, r.e, r.f].getD j ivDef
def recC (r : RecD) : CV := .agg [.imm (recI r 0), .imm (recI r 1), .imm (recI r 2), .imm (recI r 3), .imm (recI r 4), .imm (recI r 5), .imm (recI r 6)]
def recAt (rc : Nat → Nat → IV) (i : Nat) : RecD := ⟨ivInt (rc i 0), rc i 1, rc i 2, rc i 3, rc i 4, rc i 5, rc i 6⟩
def isRecs (n : Nat) (rc : Nat → Nat → IV) : Prop := ∀ i, i < n → rc i 0 = .val (.int .i64 (ivInt (rc i 0)))
theorem recs_lit {n : Nat} {r : Nat → RecD} : isRecs n fun i j => recI (r i) j := fun _ _ => rfl
theorem recs_le {n : Nat} {rc : Nat → Nat → IV} {ex : Bool} (h : isRecs n rc) : CLe (.one (.imm (.sl 7 n ex rc))) (.one (.imm (.sl 7 n ex fun i j => recI (recAt rc i) j))) :=
  CLe.imm (ILe.sl rfl id (.inr ⟨rfl, fun i j hi hj => ILe.of_eq (by
    match j, hj with
    | 0, _ => exact h i hi
    | 1, _ => rfl
    | 2, _ => rfl
    | 3, _ => rfl
    | 4, _ => rfl
    | 5, _ => rfl
    | 6, _ => rfl)⟩))
def asRec (c : CV) : Option RecD := match c with
  | .agg [.imm (.val (.int .i64 no)), .imm a, .imm b, .imm c, .imm d, .imm e, .imm f] => some ⟨no, a, b, c, d, e, f⟩
  | _ => none
theorem asRec_le {c : CV} {r : RecD} (h : asRec c = some r) : CLe c (recC r) := by
  unfold asRec at h
  split at h
  · simp only [Option.some.injEq] at h
    subst h
    exact CLe.refl _
  · cases h

/-- A table: its versions, pins, snapshots. -/
structure Tbl where
  nr : Nat
  rc : Nat → RecD
  np : Nat
  pn : Nat → Int
  ns : Nat
  sn : Nat → Int
def recS (n : Nat) (r : Nat → RecD) : AV := .imm (.sl 7 n false fun i j => recI (r i) j)
def tblC (t : Tbl) : CV := .agg [recS t.nr t.rc, iS t.np false t.pn, iS t.ns false t.sn]
def asTbl (c : CV) : Option (Tbl × Prop) := match c with
  | .agg [.imm (.sl 7 nr _ rc), .imm (.sl 1 np _ pc), .imm (.sl 1 ns _ sc)] => some (⟨nr, recAt rc, np, intsAt pc, ns, intsAt sc⟩, isRecs nr rc ∧ isInts np pc ∧ isInts ns sc)
  | _ => none
theorem CLe.unex {e n : Nat} {ex : Bool} {c : Nat → Nat → IV} : CLe (.one (.imm (.sl e n ex c))) (.one (.imm (.sl e n false c))) := CLe.imm (ILe.sl rfl (by simp) (.inr ⟨rfl, fun i j _ _ => ILe.refl _⟩))
theorem asTbl_le {c : CV} {t : Tbl} {q : Prop} (h : asTbl c = some (t, q)) (hq : q) : CLe c (tblC t) := by
  unfold asTbl at h
  split at h
  · simp only [Option.some.injEq, Prod.mk.injEq] at h
    obtain ⟨rfl, rfl⟩ := h
    exact CLe.aggL ⟨fun w O μ v hv => recs_le hq.1 w O μ v (CLe.unex w O μ v hv), fun w O μ v hv => ints_le hq.2.1 w O μ v (CLe.unex w O μ v hv), fun w O μ v hv => ints_le hq.2.2 w O μ v (CLe.unex w O μ v hv), trivial⟩
  · cases h
def zeroR : RecD := ⟨0, zeroIV lay42 1, zeroIV lay42 2, zeroIV lay42 3, zeroIV lay42 4, zeroIV lay42 5, zeroIV lay42 6⟩
def zeroT : Tbl := ⟨0, fun _ => zeroR, 0, fun _ => 0, 0, fun _ => 0⟩

def shp (t : Tbl) : Bool := bif (bif decide ((t.nr : Int) ≥ 1) then decide ((t.nr : Int) ≤ 64) else false) then ((t.ns : Int) == 8) else false
theorem shp_facts {t : Tbl} (h : shp t = true) : 1 ≤ t.nr ∧ t.nr ≤ 64 ∧ t.ns = 8 := by
  unfold shp at h
  cases h1 : decide ((t.nr : Int) ≥ 1) with
  | false => rw [h1] at h; cases h
  | true =>
    rw [h1] at h
    cases h2 : decide ((t.nr : Int) ≤ 64) with
    | false => rw [h2] at h; cases h
    | true =>
      rw [h2] at h
      have h : ((t.ns : Int) == 8) = true := h
      have h1 := of_decide_eq_true h1
      have h2 := of_decide_eq_true h2
      rw [beq_iff_eq] at h
      omega
theorem shp_mk {t : Tbl} (h1 : 1 ≤ t.nr) (h2 : t.nr ≤ 64) (h3 : t.ns = 8) : shp t = true := by
  unfold shp
  rw [decide_eq_true (show (t.nr : Int) ≥ 1 by omega), decide_eq_true (show (t.nr : Int) ≤ 64 by omega), h3]
  rfl

theorem shape39 (t : Tbl) : PCall Try.prog 39 [tblC t] (.cv (ibool (shp t))) := by
  refine PCall_of (ACall_body good Try.func39 rfl 19 rfl (by simp) ?_)
  refine AW_seq ?_
  refine AW_all good tab0 (tab0_ok _) rfl rfl ?_ ?_
  · repeat' (first | exact trivial | exact rfl | exact (fun _ _ => rfl) | refine And.intro ?_ ?_ | intro _)
    all_goals (first | omega | exact of_decide_eq_true (by assumption) | decide | exact hmx | exact hbytes | exact recs_lit | exact ints_lit | (rename_i hg; exact hg) | (rename_i hg; change (_ : Bool) = true; rw [hg]; rfl) | (rename_i hg; revert hg; simp; omega) | (change (_ : Bool) = true; simp_all; done) | trace_state)
  refine AW_seq ?_
  refine AW_all good tab0 (tab0_ok _) rfl rfl ?_ ?_
  · repeat' (first | exact trivial | exact rfl | exact (fun _ _ => rfl) | refine And.intro ?_ ?_ | intro _)
    all_goals (first | omega | exact of_decide_eq_true (by assumption) | decide | exact hmx | exact hbytes | exact recs_lit | exact ints_lit | (rename_i hg; exact hg) | (rename_i hg; change (_ : Bool) = true; rw [hg]; rfl) | (rename_i hg; revert hg; simp; omega) | (change (_ : Bool) = true; simp_all; done) | trace_state)
  refine AW_ret (bodyQ_ret rfl ?_ (Ends.intro rfl ?_ ?_))
  · repeat' (first | exact trivial | exact rfl | exact (fun _ _ => rfl) | refine And.intro ?_ ?_ | intro _)
    all_goals (first | omega | exact of_decide_eq_true (by assumption) | decide | exact hmx | exact hbytes | exact recs_lit | exact ints_lit | (rename_i hg; exact hg) | (rename_i hg; change (_ : Bool) = true; rw [hg]; rfl) | (rename_i hg; revert hg; simp; omega) | (change (_ : Bool) = true; simp_all; done) | trace_state)
  · repeat' (first | exact trivial | exact rfl | exact (fun _ _ => rfl) | refine And.intro ?_ ?_ | intro _)
    all_goals (first | omega | exact of_decide_eq_true (by assumption) | decide | exact hmx | exact hbytes | exact recs_lit | exact ints_lit | (rename_i hg; exact hg) | (rename_i hg; change (_ : Bool) = true; rw [hg]; rfl) | (rename_i hg; revert hg; simp; omega) | (change (_ : Bool) = true; simp_all; done) | trace_state)
  rfl

def tabO1 : Tab := tabAdd 39 (fun args => match args with
  | [c] => match asTbl c with
    | some (t, q) => some (.cv (ibool (shp t)), q)
    | none => none
  | _ => none) (tabAdd 37 (fun args => match args with
  | [.one (.imm (.sl 1 n _ cell)), .one (.imm (.val (.int .i64 v)))] => some (.cv (iint (idxOf (fun i => v == intsAt cell i) n)), isInts n cell)
  | _ => none) (tabAdd 36 (fun args => match args with
  | [.one (.imm (.sl 1 1 _ cell)), .one (.imm (.val (.int .i64 n)))] => some (.cv (.one (iS n.toNat false fun _ => intsAt cell 0)), isInts 1 cell ∧ 1 ≤ n ∧ n ≤ 8)
  | _ => none) tab0))
theorem tabO1_ok : TabOk Try.prog tabO1 := by
  refine tabAdd_ok rfl (fun args r p h hp => ?_) (tabAdd_ok rfl (fun args r p h hp => ?_) (tabAdd_ok rfl (fun args r p h hp => ?_) (tab0_ok _)))
  · split at h
    · split at h
      · rename_i hc
        simp only [Option.some.injEq, Prod.mk.injEq] at h; obtain ⟨rfl, rfl⟩ := h
        exact (shape39 _).args (TLe.cons (asTbl_le hc hp) TLe.nil)
      · cases h
    · cases h
  · split at h
    · rename_i n ex cell v
      simp only [Option.some.injEq, Prod.mk.injEq] at h; obtain ⟨rfl, rfl⟩ := h
      exact (index37 n ex (intsAt cell) v).args (TLe.cons (ints_le hp) (TLe.refl _))
    · cases h
  · split at h
    · rename_i ex cell n
      simp only [Option.some.injEq, Prod.mk.injEq] at h; obtain ⟨rfl, rfl⟩ := h
      obtain ⟨h1, h2, h3⟩ := hp
      obtain ⟨k, rfl⟩ : ∃ k : Nat, n = k := ⟨n.toNat, by omega⟩
      exact (repeat36 ex (intsAt cell 0) k (by omega) (by omega)).args (TLe.cons (CLe.imm (ILe.sl rfl id (.inr ⟨rfl, fun i j hi hj => by
        obtain rfl : j = 0 := by omega
        obtain rfl : i = 0 := by omega
        exact ILe.of_eq (h1 0 (by omega))⟩))) (TLe.refl _))
    · cases h

def nowR (t : Tbl) : RecD := bif shp t then t.rc (t.nr - 1) else zeroR
theorem now16 (t : Tbl) : PCall Try.prog 16 [tblC t] (.tup [recC (nowR t), iint (bif shp t then 0 else 1)]) := by
  refine PCall_of (ACall_body good Try.func16 rfl 16 rfl (by simp) ?_)
  refine AW_seq ?_
  refine AW_all good tabO1 tabO1_ok rfl rfl ?_ ?_
  · repeat' (first | exact trivial | exact rfl | exact (fun _ _ => rfl) | refine And.intro ?_ ?_ | intro _)
    all_goals (first | omega | exact of_decide_eq_true (by assumption) | decide | exact hmx | exact hbytes | exact recs_lit | exact ints_lit | (rename_i hg; exact hg) | (rename_i hg; change (_ : Bool) = true; rw [hg]; rfl) | (rename_i hg; revert hg; simp; omega) | (change (_ : Bool) = true; simp_all; done) | trace_state)
  refine AW_seq ?_
  refine AW_seq ?_
  refine AW_all good tabO1 tabO1_ok rfl rfl ?_ ?_
  · repeat' (first | exact trivial | exact rfl | exact (fun _ _ => rfl) | refine And.intro ?_ ?_ | intro _)
    all_goals (first | omega | exact of_decide_eq_true (by assumption) | decide | exact hmx | exact hbytes | exact recs_lit | exact ints_lit | (rename_i hg; exact hg) | (rename_i hg; change (_ : Bool) = true; rw [hg]; rfl) | (rename_i hg; revert hg; simp; omega) | (change (_ : Bool) = true; simp_all; done) | trace_state)
  refine AW_cond rfl (fun h1 => ?_) (fun h1 => ?_)
  · first
    | (exfalso; simp_all; done)
    | (
        refine AW_seq ?_
        refine AW_all good tabO1 tabO1_ok rfl rfl ?_ ?_
        · repeat' (first | exact trivial | exact rfl | exact (fun _ _ => rfl) | refine And.intro ?_ ?_ | intro _)
          all_goals (first | omega | exact of_decide_eq_true (by assumption) | decide | exact hmx | exact hbytes | exact recs_lit | exact ints_lit | (rename_i hg; exact hg) | (rename_i hg; change (_ : Bool) = true; rw [hg]; rfl) | (rename_i hg; revert hg; simp; omega) | (change (_ : Bool) = true; simp_all; done) | trace_state)
        refine AW_ret (bodyQ_ret rfl ?_ (Ends.le rfl ?_ ?_))
        · repeat' (first | exact trivial | exact rfl | exact (fun _ _ => rfl) | refine And.intro ?_ ?_ | intro _)
          all_goals (first | omega | exact of_decide_eq_true (by assumption) | decide | exact hmx | exact hbytes | exact recs_lit | exact ints_lit | (rename_i hg; exact hg) | (rename_i hg; change (_ : Bool) = true; rw [hg]; rfl) | (rename_i hg; revert hg; simp; omega) | (change (_ : Bool) = true; simp_all; done) | trace_state)
        · repeat' (first | exact trivial | exact rfl | exact (fun _ _ => rfl) | refine And.intro ?_ ?_ | intro _)
          all_goals (first | omega | exact of_decide_eq_true (by assumption) | decide | exact hmx | exact hbytes | exact recs_lit | exact ints_lit | (rename_i hg; exact hg) | (rename_i hg; change (_ : Bool) = true; rw [hg]; rfl) | (rename_i hg; revert hg; simp; omega) | (change (_ : Bool) = true; simp_all; done) | trace_state)
        have hs : shp t = false := by
          have h : (!shp t) = true := h1
          cases hq : shp t with
          | false => rfl
          | true => rw [hq] at h; cases h
        unfold nowR
        rw [hs]
        exact SLe.of_eq rfl
    )
  · first
    | (exfalso; simp_all; done)
    | (
        refine AW_skip ?_
        refine AW_seq ?_
        have hs : shp t = true := by
          have h : (!shp t) = false := h1
          cases hq : shp t with
          | true => rfl
          | false => rw [hq] at h; cases h
        obtain ⟨f1, f2, f3⟩ := shp_facts hs
        have hw : IntKind.i64.wrap ((t.nr : Int) - 1) = ((t.nr - 1 : Nat) : Int) := by rw [IntKind.wrap_i64]; omega
        refine AW_all good tabO1 tabO1_ok rfl rfl ?_ ?_
        · repeat' (first | exact trivial | exact rfl | exact (fun _ _ => rfl) | refine And.intro ?_ ?_ | intro _)
          all_goals (first | omega | exact of_decide_eq_true (by assumption) | decide | exact hmx | exact hbytes | exact recs_lit | exact ints_lit | (rename_i hg; exact hg) | (rename_i hg; change (_ : Bool) = true; rw [hg]; rfl) | (rename_i hg; revert hg; simp; omega) | (change (_ : Bool) = true; simp_all; done) | trace_state)
        refine AW_ret (bodyQ_ret rfl ?_ (Ends.le rfl ?_ ?_))
        · repeat' (first | exact trivial | exact rfl | exact (fun _ _ => rfl) | refine And.intro ?_ ?_ | intro _)
          all_goals (first | omega | exact of_decide_eq_true (by assumption) | decide | exact hmx | exact hbytes | exact recs_lit | exact ints_lit | (rename_i hg; exact hg) | (rename_i hg; change (_ : Bool) = true; rw [hg]; rfl) | (rename_i hg; revert hg; simp; omega) | (change (_ : Bool) = true; simp_all; done) | trace_state)
        · repeat' (first | exact trivial | exact rfl | exact (fun _ _ => rfl) | refine And.intro ?_ ?_ | intro _)
          all_goals (first | omega | exact of_decide_eq_true (by assumption) | decide | exact hmx | exact hbytes | exact recs_lit | exact ints_lit | (rename_i hg; exact hg) | (rename_i hg; change (_ : Bool) = true; rw [hg]; rfl) | (rename_i hg; revert hg; simp; omega) | (change (_ : Bool) = true; simp_all; done) | trace_state)
        unfold nowR
        rw [hs]
        refine SLe.of_eq ?_
        show SV.tup [recC (t.rc (IntKind.i64.wrap ((t.nr : Int) - 1)).toNat), iint 0] = _
        rw [hw]
        rfl
    )
end Go.Proofs.Ytadgjhbhghhbgaa.Abs
