/-
  THE CONTRACTS OF PACKAGE heap: meld, may, right, Min, Insert.
-/
import Derived.Test.YtadgjhbhghhbgaaHp1
namespace Go.Proofs.Ytadgjhbhghhbgaa.Abs
open Go
set_option maxRecDepth 10000

abbrev A5 : CodT (Nd × (Int × (Int × Int))) := codTc ndA (codTc rI (codTc rI (codT1 nI)))
noncomputable def eH1 : ETab := etC 46 (spM 109 piE A5 (fun p x => .cv (u64 (hpMake p x.1 x.2.1 x.2.2.1 x.2.2.2).2)) (fun p x => (hpMake p x.1 x.2.1 x.2.2.1 x.2.2.2).1) fun _ _ => True) et0
theorem eH1_ok : ETabOk Try.prog eH1 := etC_ok rfl (spM_ok fun p x _ => pileMake p x.1 x.2.1 x.2.2.1 x.2.2.2) (et0_ok _)
def orR (a b : Int) : Int := IntKind.u64.wrap ((BitVec.ofInt IntKind.u64.bits a ||| BitVec.ofInt IntKind.u64.bits b).toNat : Nat)
noncomputable def hpTwo (p : Pile) (x y : Nd) : Pile × Int := hpMake (hpMake p y y.k0 x.k0 y.s).1 x (hpMake p y y.k0 x.k0 y.s).2 0 (IntKind.i64.wrap (x.s + y.s))
/-- Two heaps put together. -/
noncomputable def hpMeldR (p : Pile) (a b : Int) : Pile × Int := bif (bif a == 0 then true else b == 0) then (p, orR a b) else bif decide (ordI (itmOf (getN p.a b)) (itmOf (getN p.a a)) < 0) then hpTwo p (getN p.a b) (getN p.a a) else hpTwo p (getN p.a a) (getN p.a b)
noncomputable def hpMeld : Pile → Int → Int → Pile × Int := lock hpMeldR
theorem hpMeld_eq : hpMeld = hpMeldR := lock_eq _

set_option maxHeartbeats 1000000 in
theorem pileMeld (p : Pile) (a b : Int) : ACall Try.prog 45 [.one (.own 0 0 0 0), u64 a, u64 b] (heapOf [bkV 109 piE p]) 1 fun x' H' n' => x' = .cv (u64 (hpMeld p a b).2) ∧ H' = updH (heapOf [bkV 109 piE p]) (updL 0 [some (bkV 109 piE (hpMeld p a b).1)]) ∧ n' = 1 + 0 := by
  refine ACall_norm (Bs := [bkV 109 piE p]) (cnt := 0) ?_
  change ACall _ _ _ _ 1 _
  refine ACall_body good Try.func45 rfl 53 rfl (by simp) ?_
  refine AW_seq ?_
  refine AW_all good th4 (th4_ok) rfl rfl ?_ ?_
  · repeat' (first | exact trivial | exact rfl | exact (fun _ _ => rfl) | refine And.intro ?_ ?_ | intro _)
  refine AW_seq ?_
  refine AW_seq ?_
  refine AW_all good th4 (th4_ok) rfl rfl ?_ ?_
  · repeat' (first | exact trivial | exact rfl | exact (fun _ _ => rfl) | refine And.intro ?_ ?_ | intro _)
    all_goals (first | assumption | (rename_i hg; exact eqf hg))
  refine AW_cond rfl (fun h1 => ?_) (fun h1 => ?_)
  · first
    | (exfalso; simp_all; done)
    | (
        refine AW_seq ?_
        refine AW_all good th4 (th4_ok) rfl rfl ?_ ?_
        · repeat' (first | exact trivial | exact rfl | exact (fun _ _ => rfl) | refine And.intro ?_ ?_ | intro _)
        have hm : hpMeld p a b = (p, orR a b) := by
          have h : (bif a == 0 then true else b == 0) = true := h1
          rw [hpMeld_eq]
          unfold hpMeldR
          rw [h]
          rfl
        refine AW_ret ?_
        refine ⟨_, _, rfl, ?_, [0], rfl, EndsE.all (Us := [some (bkV 109 piE (hpMeld p a b).1)]) rfl rfl rfl ?_ ?_⟩
        · repeat' (first | exact trivial | exact rfl | exact (fun _ _ => rfl) | refine And.intro ?_ ?_ | intro _)
        · rw [hm]
          exact SLe.of_eq rfl
        · exact ⟨⟨_, rfl, by rw [hm]; exact BLe.of_eq rfl⟩, trivial⟩
    )
  · first
    | (exfalso; simp_all; done)
    | (
        refine AW_skip ?_
        refine AW_seq ?_
        refine AW_all good th4 (th4_ok) rfl rfl ?_ ?_
        · repeat' (first | exact trivial | exact rfl | exact (fun _ _ => rfl) | refine And.intro ?_ ?_ | intro _)
          all_goals exact slOk_lit
        refine AW_seq ?_
        refine AW_seq ?_
        obtain ⟨X, hX⟩ : ∃ X, getN p.a a = X := ⟨_, rfl⟩
        obtain ⟨Y, hY⟩ : ∃ Y, getN p.a b = Y := ⟨_, rfl⟩
        refine AW_blk 1 rfl (B := bkV 91 ndE X) (BLe.of_eq (by rw [← hX]; rfl)) ?_
        refine AW_blk 2 rfl (B := bkV 91 ndE Y) (BLe.of_eq (by rw [← hY]; rfl)) ?_
        refine AW_drwG good rfl th4 (th4_ok) eH1 (eH1_ok) [] [0, 1, 0, 7, 15, 31] [false, false, false, false, false, false] (by rfl) (by rfl) rfl (by rfl) (by rfl) ?_ ?_ ?_
        · repeat' (first | exact trivial | exact rfl | exact (fun _ _ => rfl) | refine And.intro ?_ ?_ | intro _)
        · repeat' (first | refine And.intro ?_ ?_ | exact trivial | exact rfl | intro _)
        refine AW_cond rfl (fun h2 => ?_) (fun h2 => ?_)
        · first
          | (exfalso; simp_all; done)
          | (
              refine AW_all good th4 (th4_ok) rfl rfl ?_ ?_
              · repeat' (first | exact trivial | exact rfl | exact (fun _ _ => rfl) | refine And.intro ?_ ?_ | intro _)
              refine AW_seq ?_
              refine AW_eff good th4 (th4_ok) eH1 (eH1_ok) [] rfl rfl ?_ ?_
              · repeat' (first | exact trivial | exact rfl | exact (fun _ _ => rfl) | refine And.intro ?_ ?_ | intro _)
                all_goals (first | omega | exact slOk_lit)
              refine AW_seq ?_
              obtain ⟨q, hq⟩ : ∃ q, hpMake p X X.k0 Y.k0 X.s = q := ⟨_, rfl⟩
              refine AW_slot 9 (y := .cv (u64 q.2)) rfl (SLe.of_eq (by rw [← hq]; rfl)) ?_
              refine AW_blk 0 rfl (B := bkV 109 piE q.1) (BLe.of_eq (by rw [← hq]; rfl)) ?_
              refine AW_eff good th4 (th4_ok) eH1 (eH1_ok) [] rfl rfl ?_ ?_
              · repeat' (first | exact trivial | exact rfl | exact (fun _ _ => rfl) | refine And.intro ?_ ?_ | intro _)
                all_goals exact slOk_lit
              have hm : hpMeld p a b = hpMake q.1 Y q.2 0 (IntKind.i64.wrap (Y.s + X.s)) := by
                have h : (bif a == 0 then true else b == 0) = false := h1
                have h2 : decide (ordI (itmOf Y) (itmOf X) < 0) = true := h2
                rw [hpMeld_eq]
                unfold hpMeldR
                rw [h, hX, hY, h2]
                show hpTwo p Y X = _
                unfold hpTwo
                rw [hq]
              refine AW_ret ?_
              refine ⟨_, _, rfl, ?_, [0], rfl, EndsE.all (Us := [some (bkV 109 piE (hpMeld p a b).1)]) rfl rfl rfl ?_ ?_⟩
              · repeat' (first | exact trivial | exact rfl | exact (fun _ _ => rfl) | refine And.intro ?_ ?_ | intro _)
              · rw [hm]
                exact SLe.of_eq rfl
              · exact ⟨⟨_, rfl, by rw [hm]; exact BLe.of_eq rfl⟩, trivial⟩
          )
        · first
          | (exfalso; simp_all; done)
          | (
              refine AW_skip ?_
              refine AW_seq ?_
              refine AW_eff good th4 (th4_ok) eH1 (eH1_ok) [] rfl rfl ?_ ?_
              · repeat' (first | exact trivial | exact rfl | exact (fun _ _ => rfl) | refine And.intro ?_ ?_ | intro _)
                all_goals (first | omega | exact slOk_lit)
              refine AW_seq ?_
              obtain ⟨q, hq⟩ : ∃ q, hpMake p Y Y.k0 X.k0 Y.s = q := ⟨_, rfl⟩
              refine AW_slot 9 (y := .cv (u64 q.2)) rfl (SLe.of_eq (by rw [← hq]; rfl)) ?_
              refine AW_blk 0 rfl (B := bkV 109 piE q.1) (BLe.of_eq (by rw [← hq]; rfl)) ?_
              refine AW_eff good th4 (th4_ok) eH1 (eH1_ok) [] rfl rfl ?_ ?_
              · repeat' (first | exact trivial | exact rfl | exact (fun _ _ => rfl) | refine And.intro ?_ ?_ | intro _)
                all_goals exact slOk_lit
              have hm : hpMeld p a b = hpMake q.1 X q.2 0 (IntKind.i64.wrap (X.s + Y.s)) := by
                have h : (bif a == 0 then true else b == 0) = false := h1
                have h2 : decide (ordI (itmOf Y) (itmOf X) < 0) = false := h2
                rw [hpMeld_eq]
                unfold hpMeldR
                rw [h, hX, hY, h2]
                show hpTwo p X Y = _
                unfold hpTwo
                rw [hq]
              refine AW_ret ?_
              refine ⟨_, _, rfl, ?_, [0], rfl, EndsE.all (Us := [some (bkV 109 piE (hpMeld p a b).1)]) rfl rfl rfl ?_ ?_⟩
              · repeat' (first | exact trivial | exact rfl | exact (fun _ _ => rfl) | refine And.intro ?_ ?_ | intro _)
              · rw [hm]
                exact SLe.of_eq rfl
              · exact ⟨⟨_, rfl, by rw [hm]; exact BLe.of_eq rfl⟩, trivial⟩
          )
    )

/-- A place more is seen. -/
def setB (s : Nat → Bool) (i : Nat) : Nat → Bool := fun q => bif Nat.beq q i then true else s q
/-- How many places were not seen. -/
def cntB (s : Nat → Bool) (n : Nat) : Nat := (List.range n).countP fun i => !s i
theorem cntB_le {s t : Nat → Bool} {n : Nat} (h : ∀ i, s i = true → t i = true) : cntB t n ≤ cntB s n := List.countP_mono_left fun i _ hi => by
  cases hs : s i with
  | true => rw [h i hs] at hi; cases hi
  | false => rfl
theorem cntB_set {s : Nat → Bool} {n i : Nat} (hi : i < n) (h : s i = false) : cntB (setB s i) n < cntB s n := by
  unfold cntB
  induction n with
  | zero => omega
  | succ n ih =>
    rw [List.range_succ, List.countP_append, List.countP_append]
    rcases Nat.lt_succ_iff_lt_or_eq.1 hi with h1 | h1
    · have := ih h1
      have e : setB s i n = s n := by
        unfold setB
        rw [beq_f (by omega)]
        rfl
      simp only [List.countP_cons, List.countP_nil, e]
      omega
    · subst h1
      have h2 := cntB_le (s := s) (t := setB s i) (n := i) fun q hq => by
        unfold setB
        rw [hq]
        cases Nat.beq q i <;> rfl
      unfold cntB at h2
      have e : setB s i i = true := by
        unfold setB
        rw [Nat.beq_refl]
        rfl
      simp only [List.countP_cons, List.countP_nil, e, h]
      simp
      omega
def boolE : Enc Bool := encBool
def nodeEq (x y : Nd) : Bool := (x.kind == y.kind && (x.gen == y.gen && (x.n == y.n && (x.v == y.v && (x.s == y.s && ((x.k0 == y.k0 && (x.k1 == y.k1 && (x.k2 == y.k2 && (x.k3 == y.k3 && (x.k4 == y.k4 && (x.k5 == y.k5 && (x.k6 == y.k6 && (x.k7 == y.k7 && (x.k8 == y.k8 && true))))))))) && (x.pre == y.pre && (x.suf == y.suf && true))))))))
def two (x : Nd) : Nd := ⟨x.kind, x.gen, x.n, x.v, x.s, x.k0, x.k1, 0, 0, 0, 0, 0, 0, 0, 0, 0⟩
def mayBad (a : Ar) (r : Int) (least : Item) (seen : Nat → Bool) (left sum : Int) : Bool := bif (bif (bif (bif (getE a r != 0) then true else decide (sum ≥ left)) then true else ((getN a r).kind != 6)) then true else seen (plOf r).toNat) then true else decide (ordI (itmOf (getN a r)) least < 0)
def mayBad2 (x : Nd) (many : Int) : Bool := bif (bif decide (many < 0) then true else !nodeEq x (two x)) then true else (IntKind.i64.wrap (many + 1) != x.s)
/-- How many items a node and those next to it have, and which places were seen then. -/
def mayF (a : Ar) : Nat → Int → Item → (Nat → Bool) → Int → Int → Int × (Nat → Bool)
  | 0, _, _, seen, _, _ => (-1, seen)
  | k + 1, r, least, seen, left, sum => bif r == 0 then (sum, seen) else bif mayBad a r least seen left sum then (-1, seen) else
    bif mayBad2 (getN a r) (mayF a k (getN a r).k0 (itmOf (getN a r)) (setB seen (plOf r).toNat) (IntKind.i64.wrap (IntKind.i64.wrap (left - sum) - 1)) 0).1 then (-1, (mayF a k (getN a r).k0 (itmOf (getN a r)) (setB seen (plOf r).toNat) (IntKind.i64.wrap (IntKind.i64.wrap (left - sum) - 1)) 0).2)
    else mayF a k (getN a r).k1 least (mayF a k (getN a r).k0 (itmOf (getN a r)) (setB seen (plOf r).toNat) (IntKind.i64.wrap (IntKind.i64.wrap (left - sum) - 1)) 0).2 left (IntKind.i64.wrap (IntKind.i64.wrap (sum + (mayF a k (getN a r).k0 (itmOf (getN a r)) (setB seen (plOf r).toNat) (IntKind.i64.wrap (IntKind.i64.wrap (left - sum) - 1)) 0).1) + 1))
theorem mayF_seen (a : Ar) : ∀ (k : Nat) (r : Int) (least : Item) (seen : Nat → Bool) (left sum : Int) (i : Nat), seen i = true → (mayF a k r least seen left sum).2 i = true
  | 0, _, _, _, _, _, _, h => h
  | k + 1, r, least, seen, left, sum, i, h => by
    unfold mayF
    cases r == 0 with
    | true => exact h
    | false =>
      cases mayBad a r least seen left sum with
      | true => exact h
      | false =>
        have h1 := mayF_seen a k (getN a r).k0 (itmOf (getN a r)) (setB seen (plOf r).toNat) (IntKind.i64.wrap (IntKind.i64.wrap (left - sum) - 1)) 0 i (by
          unfold setB
          rw [h]
          cases Nat.beq i (plOf r).toNat <;> rfl)
        cases mayBad2 (getN a r) (mayF a k (getN a r).k0 (itmOf (getN a r)) (setB seen (plOf r).toNat) (IntKind.i64.wrap (IntKind.i64.wrap (left - sum) - 1)) 0).1 with
        | true => exact h1
        | false => exact mayF_seen a k _ _ _ _ _ i h1
def mayArgs (r : Int) (least : Item) (n : Nat) (left : Int) : List CV := [.one (.own 0 0 0 0), u64 r, itC least, .one (.osl 1 1 0 0 n false), iint left]
def MayAt (k : Nat) : Prop := ∀ (p : Pile) (r : Int) (least : Item) (s : Sl Bool) (left : Int), cntB s.at_ s.n < k → s.n = p.a.nodes.n →
  ACall Try.prog 77 [.one (.own 0 0 0 0), u64 r, itC least, .one (.osl 1 1 0 0 s.n false), iint left] (heapOf [bkV 109 piE p, bkR 4 boolE s]) 2 fun x' H' n' => x' = .cv (iint (mayF p.a k r least s.at_ left 0).1) ∧ H' = updH (heapOf [bkV 109 piE p, bkR 4 boolE s]) (updL 0 [some (bkV 109 piE p), some (bkR 4 boolE ⟨s.n, (mayF p.a k r least s.at_ left 0).2⟩)]) ∧ n' = 2 + 0
def spMay (k : Nat) : Spec := fun a0 Bs => match a0, Bs with
  | [.one (.own 0 0 0 0), c1, c2, .one (.osl 1 1 0 0 n _), c4], [B0, B1] => match decV 109 piE B0, decR 4 boolE B1, rI.dec c1, itA.dec c2, nI.dec c4 with
    | some (p, q0), some (s, q1), some (r, q2), some (least, q3), some (left, q4) => some (.cv (iint (mayF p.a k r least s.at_ left 0).1), [(0, some (bkV 109 piE p)), (1, some (bkR 4 boolE ⟨s.n, (mayF p.a k r least s.at_ left 0).2⟩))], 0, q0 ∧ (q1 ∧ (q2 ∧ (q3 ∧ (q4 ∧ (n = s.n ∧ (cntB s.at_ s.n < k ∧ s.n = p.a.nodes.n)))))))
    | _, _, _, _, _ => none
  | _, _ => none
theorem CLe.oslf {b e r j n : Nat} {app : Bool} : CLe (.one (.osl b e r j n app)) (.one (.osl b e r j n false)) := by
  rintro w O μ v (h | ⟨m, cap, h1, h2, h3, h4, _⟩)
  · exact .inl h
  · exact .inr ⟨m, cap, h1, h2, h3, h4, fun h => (by cases h)⟩
theorem spMay_ok {k : Nat} (h : MayAt k) : SpecOk Try.prog 77 (spMay k) := by
  intro a0 Bs r' U n' vc hs hv
  unfold spMay at hs
  split at hs
  · split at hs
    · rename_i h0 h1 h2 h3 h4
      simp only [Option.some.injEq, Prod.mk.injEq] at hs
      obtain ⟨rfl, rfl, rfl, rfl⟩ := hs
      obtain ⟨q0, q1, q2, q3, q4, rfl, q5, q6⟩ := hv
      exact ⟨_, [bkV 109 piE _, bkR 4 boolE _], TLe.cons (CLe.refl _) (TLe.cons (rI.le _ _ _ h2 q2) (TLe.cons (itA.le _ _ _ h3 q3) (TLe.cons CLe.oslf (TLe.cons (nI.le _ _ _ h4 q4) TLe.nil)))), ⟨decV_le h0 q0, decR_le h1 q1, trivial⟩, h _ _ _ _ _ q5 q6⟩
    · cases hs
  · cases hs
def eM (k : Nat) : ETab := etC 77 (spMay k) et0
theorem eM_ok {k : Nat} (h : MayAt k) : ETabOk Try.prog (eM k) := etC_ok rfl (spMay_ok h) (et0_ok _)

theorem eq_of_bne_f {a b : Int} (h : (a != b) = false) : a = b := by simpa using h
theorem get_ok {a : Ar} {r : Int} (h : getE a r = 0) : 0 ≤ plOf r ∧ plOf r < a.nodes.n ∧ getBad a r = false := by
  unfold getE at h
  cases hb : getBad a r with
  | true => rw [hb] at h; cases h
  | false =>
    have := get_lt (bor_f (bor_f hb).1).1
    exact ⟨this.1, this.2, rfl⟩
theorem may_get {e : Int} {b c : Bool} (h : ((bif (bif (e != 0) then true else b) then true else c) == false) = true) : (e != 0) = false := (bor_f (bor_f (beq_ff h)).1).1

set_option maxHeartbeats 1000000 in
theorem pileMay_step (k : Nat) (ih : ∀ q, q ≤ k → MayAt q) (p : Pile) (r : Int) (least : Item) (s : Sl Bool) (left : Int) (hk : cntB s.at_ s.n < k + 1) (hn : s.n = p.a.nodes.n) : ACall Try.prog 77 [.one (.own 0 0 0 0), u64 r, itC least, .one (.osl 1 1 0 0 s.n false), iint left] (heapOf [bkV 109 piE p, bkR 4 boolE s]) 2 fun x' H' n' => x' = .cv (iint (mayF p.a (k + 1) r least s.at_ left 0).1) ∧ H' = updH (heapOf [bkV 109 piE p, bkR 4 boolE s]) (updL 0 [some (bkV 109 piE p), some (bkR 4 boolE ⟨s.n, (mayF p.a (k + 1) r least s.at_ left 0).2⟩)]) ∧ n' = 2 + 0 := by
  refine ACall_norm (Bs := [bkV 109 piE p, bkR 4 boolE s]) (cnt := 0) ?_
  change ACall _ _ _ _ 2 _
  refine ACall_body good Try.func77 rfl 112 rfl (by simp) ?_
  refine AW_seq ?_
  refine AW_all good th4 (th4_ok) rfl rfl ?_ ?_
  · repeat' (first | exact trivial | exact rfl | exact (fun _ _ => rfl) | refine And.intro ?_ ?_ | intro _)
  refine AW_seq ?_
  refine AW_all good th4 (th4_ok) rfl rfl ?_ ?_
  · repeat' (first | exact trivial | exact rfl | exact (fun _ _ => rfl) | refine And.intro ?_ ?_ | intro _)
  refine AW_seq ?_
  refine AW_block ?_
  refine AW_loopX [0, 3, 4, 7] [0, 2] (fun j : { j : Nat × (Int × (Int × (Nat → Bool))) // mayF p.a (k + 1) r least s.at_ left 0 = mayF p.a j.1 j.2.1 least j.2.2.2 left j.2.2.1 ∧ cntB j.2.2.2 s.n < j.1 ∧ j.1 ≤ k + 1 } => [(1, .cv (u64 j.1.2.1)), (11, .cv (iint j.1.2.2.1))]) (fun j => [(1, bkR 4 boolE ⟨s.n, j.1.2.2.2⟩)]) (fun j => j.1.1) ⟨(k + 1, r, 0, s.at_), rfl, hk, Nat.le_refl _⟩ ⟨SLe.of_eq rfl, SLe.of_eq rfl, trivial⟩ ⟨⟨_, rfl, BLe.of_eq rfl⟩, trivial⟩ ?_
  rintro ⟨⟨f, r', sum, seen⟩, hj1, hj2, hj3⟩
  dsimp only at hj1 hj2 hj3 ⊢
  obtain ⟨g, rfl⟩ : ∃ g, f = g + 1 := ⟨f - 1, by omega⟩
  refine AW_seq ?_
  refine AW_seq ?_
  refine AW_all good th4 (th4_ok) rfl rfl ?_ ?_
  · repeat' (first | exact trivial | exact rfl | exact (fun _ _ => rfl) | refine And.intro ?_ ?_ | intro _)
  refine AW_cond rfl (fun h1 => ?_) (fun h1 => ?_)
  · first
    | (exfalso; simp_all; done)
    | (
        refine AW_skip ?_
        refine AW_block ?_
        refine AW_seq ?_
        refine AW_all good th4 (th4_ok) rfl rfl ?_ ?_
        · repeat' (first | exact trivial | exact rfl | exact (fun _ _ => rfl) | refine And.intro ?_ ?_ | intro _)
          all_goals exact slOk_lit
        refine AW_seq ?_
        refine AW_seq ?_
        obtain ⟨X, hX⟩ : ∃ X, getN p.a r' = X := ⟨_, rfl⟩
        refine AW_blk 3 rfl (B := bkV 91 ndE X) (BLe.of_eq (by rw [← hX]; rfl)) ?_
        have hr0 : (r' == 0) = false := by simpa using h1
        have hG : ∀ {b c : Bool}, ((bif (bif (getE p.a r' != 0) then true else b) then true else c) == false) = true → (plOf r').toNat < s.n ∧ plOf r' < s.n ∧ 0 ≤ plOf r' := fun h => by
          obtain ⟨q1, q2, _⟩ := get_ok (eq_of_bne_f (may_get h))
          omega
        refine AW_drwG good rfl th4 (th4_ok) (eM g) (eM_ok (ih g (by omega))) [] [0, 1, 3, 7, 7, 31, 63, 127, 255, 511, 1023, 2047, 4095, 8191, 8191, 24575, 65535, 131071, 262143, 524287, 1048575, 2097151, 1048575, 8388607, 16777215, 33554431] [false, false, false, false, false, false, false, false, false, false, false, false, false, false, false, false, false, false, false, false, false, false, false, false, false, false] (by rfl) (by rfl) rfl (by rfl) (by rfl) ?_ ?_ ?_
        · repeat' (first | exact trivial | exact rfl | exact (fun _ _ => rfl) | refine And.intro ?_ ?_ | intro _)
          all_goals (first | (rename_i hg; exact (hG hg).1) | (rename_i hg; exact (hG hg).2.1) | (rename_i hg; exact (hG hg).2.2) | assumption | (rename_i hg; exact eqf hg))
        · repeat' (first | refine And.intro ?_ ?_ | exact trivial | exact rfl | intro _)
          all_goals (first | (rename_i hg; exact (hG hg).1) | assumption)
        refine AW_cond rfl (fun h2 => ?_) (fun h2 => ?_)
        · first
          | (exfalso; simp_all; done)
          | (
              refine AW_seq ?_
              refine AW_all good th4 (th4_ok) rfl rfl ?_ ?_
              · repeat' (first | exact trivial | exact rfl | exact (fun _ _ => rfl) | refine And.intro ?_ ?_ | intro _)
              have hb : mayBad p.a r' least seen left sum = true := by
                unfold mayBad
                rw [hX]
                exact h2
              have hm : mayF p.a (k + 1) r least s.at_ left 0 = (-1, seen) := by
                rw [hj1, mayF, hr0, hb]
                rfl
              refine AW_ret ?_
              refine ⟨_, _, rfl, ?_, [0, 1], rfl, EndsE.all (Us := [some (bkV 109 piE p), some (bkR 4 boolE ⟨s.n, (mayF p.a (k + 1) r least s.at_ left 0).2⟩)]) rfl rfl rfl ?_ ?_⟩
              · repeat' (first | exact trivial | exact rfl | exact (fun _ _ => rfl) | refine And.intro ?_ ?_ | intro _)
              · rw [hm]
                exact SLe.of_eq rfl
              · exact ⟨⟨_, rfl, BLe.of_eq rfl⟩, ⟨_, rfl, by rw [hm]; exact BLe.of_eq rfl⟩, trivial⟩
          )
        · first
          | (exfalso; simp_all; done)
          | (
              refine AW_skip ?_
              refine AW_seq ?_
              have hb : mayBad p.a r' least seen left sum = false := by
                unfold mayBad
                rw [hX]
                exact h2
              obtain ⟨q1, q2, q3⟩ := get_ok (eq_of_bne_f (bor_f (bor_f (bor_f (bor_f hb).1).1).1).1)
              have hs : seen (plOf r').toNat = false := (bor_f (bor_f hb).1).2
              have hlt : (plOf r').toNat < s.n := by omega
              have hc : cntB (setB seen (plOf r').toNat) s.n < g := by
                have := cntB_set hlt hs
                omega
              refine AW_all good th4 (th4_ok) rfl rfl ?_ ?_
              · repeat' (first | exact trivial | exact rfl | exact (fun _ _ => rfl) | refine And.intro ?_ ?_ | intro _)
                all_goals (first | omega | assumption)
              refine AW_seq ?_
              refine AW_blk 1 rfl (B := bkR 4 boolE ⟨s.n, setB seen (plOf r').toNat⟩) (BLe.rows rfl fun i j hi hj => ILe.of_eq ?_) ?_
              · obtain rfl : j = 0 := by
                  have : j < 1 := hj
                  omega
                show (bif Nat.beq i (plOf r').toNat && (Nat.ble 0 0 && Nat.blt 0 (0 + 1)) then [IV.val (.bool true)].getD (0 - 0) ivDef else IV.val (.bool (seen i))) = IV.val (.bool (setB seen (plOf r').toNat i))
                unfold setB
                cases Nat.beq i (plOf r').toNat <;> rfl
              refine AW_all good th4 (th4_ok) rfl rfl ?_ ?_
              · repeat' (first | exact trivial | exact rfl | exact (fun _ _ => rfl) | refine And.intro ?_ ?_ | intro _)
              refine AW_seq ?_
              refine AW_drwG good rfl th4 (th4_ok) (eM g) (eM_ok (ih g (by omega))) [] [0, 1, 3, 0, 8, 24, 0, 71, 199, 0, 1023, 2047] [false, false, false, false, false, false, false, false, true, false, false, true] (by rfl) (by rfl) rfl (by rfl) (by rfl) ?_ ?_ ?_
              · repeat' (first | exact trivial | exact rfl | exact (fun _ _ => rfl) | refine And.intro ?_ ?_ | intro _)
                all_goals omega
              · repeat' (first | refine And.intro ?_ ?_ | exact trivial | exact rfl | intro _)
              refine AW_seq ?_
              refine AW_drwG good rfl th4 (th4_ok) (eM g) (eM_ok (ih g (by omega))) [] [0, 0, 2, 6, 0, 16, 0, 0, 0, 384, 896, 2047, 4095] [false, false, false, false, false, false, false, false, false, false, false, true, false] (by rfl) (by rfl) rfl (by rfl) (by rfl) ?_ ?_ ?_
              · repeat' (first | exact trivial | exact rfl | exact (fun _ _ => rfl) | refine And.intro ?_ ?_ | intro _)
                all_goals (first | omega | exact slOk_lit | assumption)
              · repeat' (first | refine And.intro ?_ ?_ | exact trivial | exact rfl | intro _)
              refine AW_seq ?_
              refine AW_seq ?_
              obtain ⟨M, hM⟩ : ∃ M, mayF p.a g X.k0 (itmOf X) (setB seen (plOf r').toNat) (IntKind.i64.wrap (IntKind.i64.wrap (left - sum) - 1)) 0 = M := ⟨_, rfl⟩
              refine AW_slot 15 (y := .cv (iint M.1)) rfl (SLe.of_eq (by rw [← hM]; rfl)) ?_
              refine AW_blk 1 rfl (B := bkR 4 boolE ⟨s.n, M.2⟩) (BLe.of_eq (by rw [← hM]; rfl)) ?_
              refine AW_all good th4 (th4_ok) rfl rfl ?_ ?_
              · repeat' (first | exact trivial | exact rfl | exact (fun _ _ => rfl) | refine And.intro ?_ ?_ | intro _)
                all_goals (first | assumption | (rename_i hg; exact eqf hg))
              refine AW_cond rfl (fun h3 => ?_) (fun h3 => ?_)
              · first
                | (exfalso; simp_all; done)
                | (
                    refine AW_seq ?_
                    refine AW_all good th4 (th4_ok) rfl rfl ?_ ?_
                    · repeat' (first | exact trivial | exact rfl | exact (fun _ _ => rfl) | refine And.intro ?_ ?_ | intro _)
                    have hb2 : mayBad2 X M.1 = true := h3
                    have hm : mayF p.a (k + 1) r least s.at_ left 0 = (-1, M.2) := by
                      rw [hj1, mayF, hr0, hb, hX, hM, hb2]
                      rfl
                    refine AW_ret ?_
                    refine ⟨_, _, rfl, ?_, [0, 1], rfl, EndsE.all (Us := [some (bkV 109 piE p), some (bkR 4 boolE ⟨s.n, (mayF p.a (k + 1) r least s.at_ left 0).2⟩)]) rfl rfl rfl ?_ ?_⟩
                    · repeat' (first | exact trivial | exact rfl | exact (fun _ _ => rfl) | refine And.intro ?_ ?_ | intro _)
                    · rw [hm]
                      exact SLe.of_eq rfl
                    · exact ⟨⟨_, rfl, BLe.of_eq rfl⟩, ⟨_, rfl, by rw [hm]; exact BLe.of_eq rfl⟩, trivial⟩
                )
              · first
                | (exfalso; simp_all; done)
                | (
                    refine AW_skip ?_
                    refine AW_drwG good rfl th4 (th4_ok) (eM g) (eM_ok (ih g (by omega))) [] [0, 0, 3, 7, 0, 16, 48, 15, 255] [false, false, false, false, false, false, false, false, false] (by rfl) (by rfl) rfl (by rfl) (by rfl) ?_ ?_ ?_
                    · repeat' (first | exact trivial | exact rfl | exact (fun _ _ => rfl) | refine And.intro ?_ ?_ | intro _)
                      all_goals omega
                    · repeat' (first | refine And.intro ?_ ?_ | exact trivial | exact rfl | intro _)
                    refine blkQ_normal ?_
                    refine loopX_next ⟨(g, X.k1, IntKind.i64.wrap (IntKind.i64.wrap (sum + M.1) + 1), M.2), ?_, ?_, ?_⟩ [0, 1, 2] rfl rfl ⟨SLe.of_eq rfl, SLe.of_eq rfl, trivial⟩ ⟨SLe.of_eq rfl, SLe.of_eq rfl, SLe.of_eq rfl, SLe.of_eq rfl, trivial⟩ ⟨⟨rfl, _, rfl, BLe.of_eq rfl⟩, trivial⟩ ⟨⟨rfl, _, _, rfl, rfl, BLe.of_eq rfl⟩, ⟨rfl, _, _, rfl, rfl, BLe.of_eq rfl⟩, trivial⟩ ?_
                    · have hb2 : mayBad2 X M.1 = false := h3
                      rw [hj1, mayF, hr0, hb, hX, hM, hb2]
                      rfl
                    · have h4 := cntB_le (s := setB seen (plOf r').toNat) (t := M.2) (n := s.n) fun i hi => by
                        rw [← hM]
                        exact mayF_seen _ _ _ _ _ _ _ i hi
                      show cntB M.2 s.n < g
                      omega
                    · show g ≤ k + 1
                      omega
                    show g < g + 1
                    omega
                )
          )
    )
  · first
    | (exfalso; simp_all; done)
    | (
        refine AW_exit ?_
        refine AW_seq ?_
        refine AW_all good th4 (th4_ok) rfl rfl ?_ ?_
        · repeat' (first | exact trivial | exact rfl | exact (fun _ _ => rfl) | refine And.intro ?_ ?_ | intro _)
        have hr0 : (r' == 0) = true := by simpa using h1
        have hm : mayF p.a (k + 1) r least s.at_ left 0 = (sum, seen) := by
          rw [hj1, mayF, hr0]
          rfl
        refine AW_ret ?_
        refine ⟨_, _, rfl, ?_, [0, 1], rfl, EndsE.all (Us := [some (bkV 109 piE p), some (bkR 4 boolE ⟨s.n, (mayF p.a (k + 1) r least s.at_ left 0).2⟩)]) rfl rfl rfl ?_ ?_⟩
        · repeat' (first | exact trivial | exact rfl | exact (fun _ _ => rfl) | refine And.intro ?_ ?_ | intro _)
        · rw [hm]
          exact SLe.of_eq rfl
        · exact ⟨⟨_, rfl, BLe.of_eq rfl⟩, ⟨_, rfl, by rw [hm]; exact BLe.of_eq rfl⟩, trivial⟩
    )

theorem pileMay : ∀ k, MayAt k := fun k => by
  induction k using Nat.strongRecOn with
  | _ k ih =>
    intro p r least s left hk hn
    match k, ih, hk with
    | 0, _, hk => exact absurd hk (Nat.not_lt_zero _)
    | k + 1, ih, hk => exact pileMay_step k (fun q hq => ih q (by omega)) p r least s left hk hn

end Go.Proofs.Ytadgjhbhghhbgaa.Abs
