/-
  THE CONTRACTS OF PACKAGE arena: Reach.
-/
import Derived.Test.YtadgjhbhghhbgaaHp4
namespace Go.Proofs.Ytadgjhbhghhbgaa.Abs
open Go
set_option maxRecDepth 10000

def kidA (x : Nd) : List Int := [x.k0, x.k1, x.k2, x.k3, x.k4, x.k5, x.k6, x.k7, x.k8]
/-- A reference at which a visit goes no further. -/
def visBad (a : Ar) (r : Int) (s : Nat → Bool) : Bool := bif (getE a r != 0) then true else s (plOf r).toNat
theorem succ_wrap {i : Nat} (h : i < 4611686018427387904) : IntKind.i64.wrap ((i : Int) + 1) = ((i + 1 : Nat) : Int) := by
  rw [IntKind.wrap_i64]
  omega
def snoc (l : Sl Int) (x : Int) : Sl Int := ⟨l.n + 1, fun i => bif Nat.blt i l.n then l.at_ i else x⟩
theorem snoc_row {l : Sl Int} {x : Int} {q : Nat} (hq : q < l.n + 1) : (bif Nat.blt q l.n then intE.f (l.at_ q) 0 else [IV.val (.int .i64 x)].getD (plusN 0 (q - l.n) * 1 + 0) ivDef) = intE.f ((snoc l x).at_ q) 0 := by
  show _ = intE.f (bif Nat.blt q l.n then l.at_ q else x) 0
  rcases Nat.lt_or_ge q l.n with h | h
  · rw [blt_t h]
    rfl
  · rw [blt_f h, show q - l.n = 0 by omega]
    rfl
abbrev VS := (Nat → Bool) × Sl Int
/-- Which places were seen behind a visit, and in which order. -/
def reF (a : Ar) : Nat → Int → VS → VS
  | 0, _, st => st
  | k + 1, r, st => bif visBad a r st.1 then st else (kidA (getN a r)).foldl (fun st q => reF a k q st) (setB st.1 (plOf r).toNat, snoc st.2 (plOf r))
theorem reF_no {a : Ar} {r : Int} {st : VS} (h : visBad a r st.1 = true) : ∀ k, reF a k r st = st
  | 0 => rfl
  | k + 1 => by rw [reF, h]; rfl
/-- What a visit keeps. -/
def VLe (a : Ar) (st st' : VS) : Prop := (∀ i, st.1 i = true → st'.1 i = true) ∧ st'.2.n + cntB st'.1 a.nodes.n ≤ st.2.n + cntB st.1 a.nodes.n
theorem VLe.refl (a : Ar) (st : VS) : VLe a st st := ⟨fun _ h => h, Nat.le_refl _⟩
theorem VLe.trans {a : Ar} {x y z : VS} (h : VLe a x y) (h' : VLe a y z) : VLe a x z := ⟨fun i hi => h'.1 i (h.1 i hi), Nat.le_trans h'.2 h.2⟩
theorem VLe.cnt {a : Ar} {x y : VS} (h : VLe a x y) : cntB y.1 a.nodes.n ≤ cntB x.1 a.nodes.n := cntB_le h.1
theorem foldl_vle {a : Ar} {f : VS → Int → VS} (hf : ∀ st q, VLe a st (f st q)) : ∀ (l : List Int) (st : VS), VLe a st (l.foldl f st)
  | [], st => VLe.refl a st
  | x :: l, st => (hf st x).trans (foldl_vle hf l _)
theorem vis_in {a : Ar} {r : Int} {s : Nat → Bool} (h : visBad a r s = false) : 0 ≤ plOf r ∧ plOf r < a.nodes.n ∧ s (plOf r).toNat = false := by
  unfold visBad at h
  obtain ⟨h1, h2⟩ := bor_f h
  obtain ⟨h3, h4, _⟩ := get_ok (eq_of_bne_f h1)
  exact ⟨h3, h4, h2⟩
theorem vis_step {a : Ar} {r : Int} {st : VS} (h : visBad a r st.1 = false) : VLe a st (setB st.1 (plOf r).toNat, snoc st.2 (plOf r)) := by
  obtain ⟨h1, h2, h3⟩ := vis_in h
  have := cntB_set (n := a.nodes.n) (i := (plOf r).toNat) (by omega) h3
  refine ⟨fun i hi => ?_, ?_⟩
  · show (bif Nat.beq i (plOf r).toNat then true else st.1 i) = true
    rw [hi]
    cases Nat.beq i (plOf r).toNat <;> rfl
  · show st.2.n + 1 + cntB (setB st.1 (plOf r).toNat) a.nodes.n ≤ _
    omega
theorem reF_vle (a : Ar) : ∀ (k : Nat) (r : Int) (st : VS), VLe a st (reF a k r st)
  | 0, _, st => VLe.refl a st
  | k + 1, r, st => by
    unfold reF
    cases h : visBad a r st.1 with
    | true => exact VLe.refl a st
    | false => exact (vis_step h).trans (foldl_vle (fun st q => reF_vle a k q st) _ _)
theorem kidA_drop {x : Nd} {i : Nat} (h : i < 9) : (kidA x).drop i = (kidA x).getD i 0 :: (kidA x).drop (i + 1) := by
  match i, h with
  | 0, _ => rfl
  | 1, _ => rfl
  | 2, _ => rfl
  | 3, _ => rfl
  | 4, _ => rfl
  | 5, _ => rfl
  | 6, _ => rfl
  | 7, _ => rfl
  | 8, _ => rfl
  | q + 9, h => exact absurd h (by omega)
/-- The variable in which the visiting function stands. -/
def visB (a : Ar) : ABlk := .var 130 [fnV 71 [(ptrA arE).enc a, .own 0 0 0 0, .own 1 0 0 0, .own 2 0 0 0]]
theorem visB_le {a : Ar} {ρ : Nat → Nat} (h0 : ρ 0 = 0) (h1 : ρ 1 = 1) (h2 : ρ 2 = 2) : BLe (visB a) (renB ρ (visB a)) := BLe.var ⟨CLe.fn (fun i hi => absurd hi (Nat.not_lt_zero i)) fun i hi => (by
  match i, hi with
  | 0, _ => exact CLe.refl _
  | 1, _ => exact CLe.of_eq (by show CV.one (AV.own 0 0 0 0) = .one (.own (ρ 0) 0 0 0); rw [h0])
  | 2, _ => exact CLe.of_eq (by show CV.one (AV.own 1 0 0 0) = .one (.own (ρ 1) 0 0 0); rw [h1])
  | 3, _ => exact CLe.of_eq (by show CV.one (AV.own 2 0 0 0) = .one (.own (ρ 2) 0 0 0); rw [h2])), trivial⟩
theorem visB_le2 {a : Ar} {ρ' ρ : Nat → Nat} (h0 : ρ 0 = 0) (h1 : ρ 1 = 1) (h2 : ρ 2 = 2) (k0 : ρ' 0 = 0) (k1 : ρ' 1 = 1) (k2 : ρ' 2 = 2) : BLe (renB ρ' (visB a)) (renB ρ (visB a)) := BLe.var ⟨CLe.fn (fun i hi => absurd hi (Nat.not_lt_zero i)) fun i hi => (by
  match i, hi with
  | 0, _ => exact CLe.refl _
  | 1, _ => exact CLe.of_eq (by show CV.one (AV.own (ρ' 0) 0 0 0) = .one (.own (ρ 0) 0 0 0); rw [h0, k0])
  | 2, _ => exact CLe.of_eq (by show CV.one (AV.own (ρ' 1) 0 0 0) = .one (.own (ρ 1) 0 0 0); rw [h1, k1])
  | 3, _ => exact CLe.of_eq (by show CV.one (AV.own (ρ' 2) 0 0 0) = .one (.own (ρ 2) 0 0 0); rw [h2, k2])), trivial⟩
def visBs (a : Ar) (s : Nat → Bool) (l : Sl Int) : List ABlk := [.var 129 [.osl 3 1 0 0 a.nodes.n false], .var 22 [.osl 4 1 0 0 l.n true], visB a, bkR 4 boolE ⟨a.nodes.n, s⟩, bkR 3 intE l]
def visNU (a : Ar) (s : Nat → Bool) (l : Sl Int) : List (Option ABlk) := [some (.var 129 [.osl 3 1 0 0 a.nodes.n false]), some (.var 22 [.osl 4 1 0 0 l.n true]), some (visB a), some (bkR 4 boolE ⟨a.nodes.n, s⟩), some (bkR 3 intE l)]
def visYU (a : Ar) (st : VS) : List (Option ABlk) := [some (.var 129 [.osl 3 1 0 0 a.nodes.n false]), some (.var 22 [.osl 5 1 0 0 st.2.n true]), some (visB a), some (bkR 4 boolE ⟨a.nodes.n, st.1⟩), none, some (bkR 3 intE st.2)]
def visA (a : Ar) (r : Int) : List CV := [u64 r, .one ((ptrA arE).enc a), .one (.own 0 0 0 0), .one (.own 1 0 0 0), .one (.own 2 0 0 0)]
def VisNo : Prop := ∀ (a : Ar) (r : Int) (s : Nat → Bool) (l : Sl Int), visBad a r s = true →
  ACall Try.prog 71 (visA a r) (heapOf (visBs a s l)) 5 fun x' H' n' => x' = .tup [] ∧ H' = updH (heapOf (visBs a s l)) (updL 0 (visNU a s l)) ∧ n' = 5 + 0
def VisAt (k : Nat) : Prop := ∀ (a : Ar) (r : Int) (s : Nat → Bool) (l : Sl Int), visBad a r s = false → cntB s a.nodes.n < k → l.n + cntB s a.nodes.n ≤ 512 →
  ACall Try.prog 71 (visA a r) (heapOf (visBs a s l)) 5 fun x' H' n' => x' = .tup [] ∧ H' = updH (heapOf (visBs a s l)) (updL 0 (visYU a (reF a k r (s, l)))) ∧ n' = 5 + 1
/-- Such a call, as it is met. -/
def spVis (no : Bool) (k : Nat) : Spec := fun a0 Bs => match a0, Bs with
  | [c1, .one c2, .one (.own 0 0 0 0), .one (.own 1 0 0 0), .one (.own 2 0 0 0)], [.var t0 [.osl 3 1 0 0 n _], .var t1 [.osl 4 1 0 0 m true], .var t2 [.fn (.func g) 0 _ 4 caps], B3, B4] =>
    bif Nat.beq t0 129 && (Nat.beq t1 22 && (Nat.beq t2 130 && Nat.beq g 71)) then match caps 1, caps 2, caps 3, (ptrA arE).dec (caps 0), rI.dec c1, (ptrA arE).dec c2, decR 4 boolE B3, decR 3 intE B4 with
      | .own 0 0 0 0, .own 1 0 0 0, .own 2 0 0 0, some (b, q0), some (r, q1), some (a, q2), some (s, q3), some (l, q4) => some (.tup [], updL 0 (bif no then visNU a s.at_ l else visYU a (reF a k r (s.at_, l))), bif no then 0 else 1,
          q0 ∧ (q1 ∧ (q2 ∧ (q3 ∧ (q4 ∧ (b = a ∧ (n = a.nodes.n ∧ (m = l.n ∧ (s.n = a.nodes.n ∧ (bif no then visBad a r s.at_ = true else visBad a r s.at_ = false ∧ (cntB s.at_ a.nodes.n < k ∧ l.n + cntB s.at_ a.nodes.n ≤ 512)))))))))))
      | _, _, _, _, _, _, _, _ => none
    else none
  | _, _ => none
theorem spVis_ok {no : Bool} {k : Nat} (h0 : no = true → VisNo) (h1 : no = false → VisAt k) : SpecOk Try.prog 71 (spVis no k) := by
  intro a0 Bs r' U n' vc hs hv
  unfold spVis at hs
  split at hs
  · rename_i c1 c2 t0 n app t1 m t2 g first caps B3 B4
    cases hb : (Nat.beq t0 129 && (Nat.beq t1 22 && (Nat.beq t2 130 && Nat.beq g 71))) with
    | false => rw [hb] at hs; cases hs
    | true =>
      rw [hb] at hs
      simp only [cond_true] at hs
      simp only [Bool.and_eq_true] at hb
      obtain ⟨b0, b1, b2, b3⟩ := hb
      obtain rfl := Nat.eq_of_beq_eq_true b0
      obtain rfl := Nat.eq_of_beq_eq_true b1
      obtain rfl := Nat.eq_of_beq_eq_true b2
      obtain rfl := Nat.eq_of_beq_eq_true b3
      split at hs
      · rename_i b q0 r q1 a q2 s q3 l q4 e1 e2 e3 d0 d1 d2 d3 d4
        simp only [Option.some.injEq, Prod.mk.injEq] at hs
        obtain ⟨rfl, rfl, rfl, rfl⟩ := hs
        obtain ⟨p0, p1, p2, p3, p4, rfl, rfl, rfl, p5, p6⟩ := hv
        have hs : s = ⟨b.nodes.n, s.at_⟩ := by
          rw [← p5]
        have hT : TLe [c1, .one c2, .one (.own 0 0 0 0), .one (.own 1 0 0 0), .one (.own 2 0 0 0)] (visA b r) := TLe.cons (rI.le _ _ _ d1 p1) (TLe.cons ((ptrA arE).le _ _ _ d2 p2) (TLe.cons (CLe.refl _) (TLe.cons (CLe.refl _) (TLe.cons (CLe.refl _) TLe.nil))))
        have hC : CLe (.one (.fn (.func 71) 0 first 4 caps)) (.one (fnV 71 [(ptrA arE).enc b, .own 0 0 0 0, .own 1 0 0 0, .own 2 0 0 0])) := CLe.fn (fun i hi => absurd hi (Nat.not_lt_zero i)) fun i hi => by
          match i, hi with
          | 0, _ => exact (ptrA arE).le _ _ _ d0 p0
          | 1, _ => exact CLe.of_eq (congrArg CV.one e1)
          | 2, _ => exact CLe.of_eq (congrArg CV.one e2)
          | 3, _ => exact CLe.of_eq (congrArg CV.one e3)
        have hB : BksLe [.var 129 [.osl 3 1 0 0 b.nodes.n app], .var 22 [.osl 4 1 0 0 l.n true], .var 130 [.fn (.func 71) 0 first 4 caps], B3, B4] (visBs b s.at_ l) := ⟨⟨rfl, CLe.oslf, trivial⟩, BkLe.refl _, ⟨rfl, hC, trivial⟩, hs ▸ decR_le d3 p3, decR_le d4 p4, trivial⟩
        cases no with
        | true => exact ⟨_, visBs b s.at_ l, hT, hB, h0 rfl b r s.at_ l p6⟩
        | false => exact ⟨_, visBs b s.at_ l, hT, hB, h1 rfl b r s.at_ l p6.1 p6.2.1 p6.2.2⟩
      · cases hs
  · cases hs
def eVn : ETab := etC 71 (spVis true 0) et0
def eVy (k : Nat) : ETab := etC 71 (spVis false k) et0
theorem eVn_ok (h : VisNo) : ETabOk Try.prog eVn := etC_ok rfl (spVis_ok (fun _ => h) fun e => by cases e) (et0_ok _)
theorem eVy_ok {k : Nat} (h : VisAt k) : ETabOk Try.prog (eVy k) := etC_ok rfl (spVis_ok (fun e => by cases e) fun _ => h) (et0_ok _)

set_option maxHeartbeats 1000000 in
theorem visNo (a : Ar) (r : Int) (s : Nat → Bool) (l : Sl Int) (hv : visBad a r s = true) : ACall Try.prog 71 [u64 r, .one ((ptrA arE).enc a), .one (.own 0 0 0 0), .one (.own 1 0 0 0), .one (.own 2 0 0 0)] (heapOf [.var 129 [.osl 3 1 0 0 a.nodes.n false], .var 22 [.osl 4 1 0 0 l.n true], visB a, bkR 4 boolE ⟨a.nodes.n, s⟩, bkR 3 intE l]) 5 fun x' H' n' => x' = .tup [] ∧ H' = updH (heapOf [.var 129 [.osl 3 1 0 0 a.nodes.n false], .var 22 [.osl 4 1 0 0 l.n true], visB a, bkR 4 boolE ⟨a.nodes.n, s⟩, bkR 3 intE l]) (updL 0 [some (.var 129 [.osl 3 1 0 0 a.nodes.n false]), some (.var 22 [.osl 4 1 0 0 l.n true]), some (visB a), some (bkR 4 boolE ⟨a.nodes.n, s⟩), some (bkR 3 intE l)]) ∧ n' = 5 + 0 := by
  refine ACall_norm (Bs := [.var 129 [.osl 3 1 0 0 a.nodes.n false], .var 22 [.osl 4 1 0 0 l.n true], visB a, bkR 4 boolE ⟨a.nodes.n, s⟩, bkR 3 intE l]) (cnt := 0) ?_
  change ACall _ _ _ _ 5 _
  refine ACall_body good Try.func71 rfl 43 rfl (by simp) ?_
  have hG : (getE a r != 0) = false → 0 ≤ plOf r ∧ plOf r < a.nodes.n ∧ (plOf r).toNat < a.nodes.n := fun h => by
    obtain ⟨q1, q2, _⟩ := get_ok (eq_of_bne_f h)
    omega
  refine AW_seq ?_
  refine AW_all good th8 (th8_ok) rfl rfl ?_ ?_
  · repeat' (first | exact trivial | exact rfl | exact (fun _ _ => rfl) | refine And.intro ?_ ?_ | intro _)
    all_goals exact slOk_lit
  refine AW_seq ?_
  refine AW_all good th8 (th8_ok) rfl rfl ?_ ?_
  · repeat' (first | exact trivial | exact rfl | exact (fun _ _ => rfl) | refine And.intro ?_ ?_ | intro _)
  refine AW_seq ?_
  refine AW_seq ?_
  refine AW_all good th8 (th8_ok) rfl rfl ?_ ?_
  · repeat' (first | exact trivial | exact rfl | exact (fun _ _ => rfl) | refine And.intro ?_ ?_ | intro _)
    all_goals (first | (rename_i hg; exact (hG (beq_ff hg)).1) | (rename_i hg; exact (hG (beq_ff hg)).2.1) | (rename_i hg; exact (hG (beq_ff hg)).2.2) | assumption | (rename_i hg; exact eqf hg))
  refine AW_cond rfl (fun h1 => ?_) (fun h1 => ?_)
  · first
    | (exfalso; cases (hv.symm.trans h1); done)
    | (
        refine AW_ret ?_
        refine ⟨_, _, rfl, ?_, [0, 1, 2, 3, 4], rfl, EndsE.all (Us := [some (.var 129 [.osl 3 1 0 0 a.nodes.n false]), some (.var 22 [.osl 4 1 0 0 l.n true]), some (visB a), some (bkR 4 boolE ⟨a.nodes.n, s⟩), some (bkR 3 intE l)]) rfl rfl rfl ?_ ?_⟩
        · repeat' (first | exact trivial | exact rfl | exact (fun _ _ => rfl) | refine And.intro ?_ ?_ | intro _)
        · exact SLe.of_eq rfl
        · exact ⟨⟨_, rfl, BLe.of_eq rfl⟩, ⟨_, rfl, BLe.of_eq rfl⟩, ⟨_, rfl, visB_le rfl rfl rfl⟩, ⟨_, rfl, BLe.of_eq rfl⟩, ⟨_, rfl, BLe.of_eq rfl⟩, trivial⟩
    )
  · first
    | (exfalso; cases (hv.symm.trans h1); done)
    | (
        refine AW_skip ?_
        refine AW_seq ?_
        fail
    )

theorem visNo_all : VisNo := fun a r s l h => visNo a r s l h

set_option maxHeartbeats 1000000 in
theorem visYes_step (k : Nat) (ih : VisAt k) (a : Ar) (r : Int) (s : Nat → Bool) (l : Sl Int) (hv : visBad a r s = false) (hk : cntB s a.nodes.n < k + 1) (hl : l.n + cntB s a.nodes.n ≤ 512) : ACall Try.prog 71 [u64 r, .one ((ptrA arE).enc a), .one (.own 0 0 0 0), .one (.own 1 0 0 0), .one (.own 2 0 0 0)] (heapOf [.var 129 [.osl 3 1 0 0 a.nodes.n false], .var 22 [.osl 4 1 0 0 l.n true], visB a, bkR 4 boolE ⟨a.nodes.n, s⟩, bkR 3 intE l]) 5 fun x' H' n' => x' = .tup [] ∧ H' = updH (heapOf [.var 129 [.osl 3 1 0 0 a.nodes.n false], .var 22 [.osl 4 1 0 0 l.n true], visB a, bkR 4 boolE ⟨a.nodes.n, s⟩, bkR 3 intE l]) (updL 0 [some (.var 129 [.osl 3 1 0 0 a.nodes.n false]), some (.var 22 [.osl 5 1 0 0 (reF a (k + 1) r (s, l)).2.n true]), some (visB a), some (bkR 4 boolE ⟨a.nodes.n, (reF a (k + 1) r (s, l)).1⟩), none, some (bkR 3 intE (reF a (k + 1) r (s, l)).2)]) ∧ n' = 5 + 1 := by
  refine ACall_norm (Bs := [.var 129 [.osl 3 1 0 0 a.nodes.n false], .var 22 [.osl 4 1 0 0 l.n true], visB a, bkR 4 boolE ⟨a.nodes.n, s⟩, bkR 3 intE l]) (cnt := 1) ?_
  change ACall _ _ _ _ 5 _
  refine ACall_body good Try.func71 rfl 43 rfl (by simp) ?_
  have hG : (getE a r != 0) = false → 0 ≤ plOf r ∧ plOf r < a.nodes.n ∧ (plOf r).toNat < a.nodes.n := fun h => by
    obtain ⟨q1, q2, _⟩ := get_ok (eq_of_bne_f h)
    omega
  obtain ⟨hp1, hp2, hp3⟩ := vis_in hv
  have hp4 : (plOf r).toNat < a.nodes.n := by omega
  have hset := cntB_set (n := a.nodes.n) (i := (plOf r).toNat) (by omega) hp3
  refine AW_seq ?_
  refine AW_all good th8 (th8_ok) rfl rfl ?_ ?_
  · repeat' (first | exact trivial | exact rfl | exact (fun _ _ => rfl) | refine And.intro ?_ ?_ | intro _)
    all_goals exact slOk_lit
  refine AW_seq ?_
  refine AW_all good th8 (th8_ok) rfl rfl ?_ ?_
  · repeat' (first | exact trivial | exact rfl | exact (fun _ _ => rfl) | refine And.intro ?_ ?_ | intro _)
  refine AW_seq ?_
  refine AW_seq ?_
  refine AW_all good th8 (th8_ok) rfl rfl ?_ ?_
  · repeat' (first | exact trivial | exact rfl | exact (fun _ _ => rfl) | refine And.intro ?_ ?_ | intro _)
    all_goals (first | exact hp4 | (rename_i hg; exact (hG (beq_ff hg)).1) | (rename_i hg; exact (hG (beq_ff hg)).2.1) | assumption | (rename_i hg; exact eqf hg))
  refine AW_cond rfl (fun h1 => ?_) (fun h1 => ?_)
  · first
    | (exfalso; cases (hv.symm.trans h1); done)
    | (
        refine AW_ret ?_
        refine ⟨_, _, rfl, ?_, [0, 1, 2, 3, 4, 5], rfl, EndsE.all (Us := [some (.var 129 [.osl 3 1 0 0 a.nodes.n false]), some (.var 22 [.osl 5 1 0 0 (reF a (k + 1) r (s, l)).2.n true]), some (visB a), some (bkR 4 boolE ⟨a.nodes.n, (reF a (k + 1) r (s, l)).1⟩), none, some (bkR 3 intE (reF a (k + 1) r (s, l)).2)]) rfl rfl rfl ?_ ?_⟩
        · repeat' (first | exact trivial | exact rfl | exact (fun _ _ => rfl) | refine And.intro ?_ ?_ | intro _)
        · exact SLe.of_eq rfl
        · exact ⟨⟨_, rfl, BLe.of_eq rfl⟩, ⟨_, rfl, BLe.of_eq rfl⟩, ⟨_, rfl, BLe.of_eq rfl⟩, ⟨_, rfl, BLe.of_eq rfl⟩, ⟨_, rfl, BLe.of_eq rfl⟩, trivial⟩
    )
  · first
    | (exfalso; cases (hv.symm.trans h1); done)
    | (
        refine AW_skip ?_
        refine AW_seq ?_
        refine AW_all good th8 (th8_ok) rfl rfl ?_ ?_
        · repeat' (first | exact trivial | exact rfl | exact (fun _ _ => rfl) | refine And.intro ?_ ?_ | intro _)
          all_goals (first | exact hp4 | omega)
        refine AW_seq ?_
        refine AW_blk 3 rfl (B := bkR 4 boolE ⟨a.nodes.n, setB s (plOf r).toNat⟩) (BLe.rows rfl fun i j hi hj => ILe.of_eq ?_) ?_
        · obtain rfl : j = 0 := by
            have : j < 1 := hj
            omega
          show (bif Nat.beq i (plOf r).toNat && (Nat.ble 0 0 && Nat.blt 0 (0 + 1)) then [IV.val (.bool true)].getD (0 - 0) ivDef else IV.val (.bool (s i))) = IV.val (.bool (setB s (plOf r).toNat i))
          unfold setB
          cases Nat.beq i (plOf r).toNat <;> rfl
        refine AW_all good th8 (th8_ok) rfl rfl ?_ ?_
        · repeat' (first | exact trivial | exact rfl | exact (fun _ _ => rfl) | refine And.intro ?_ ?_ | intro _)
          all_goals (first | omega | (unfold maxLen; omega) | exact bytes_ok (by omega) (by decide))
        refine AW_seq ?_
        obtain ⟨X, hX⟩ : ∃ X, getN a r = X := ⟨_, rfl⟩
        refine AW_blk 5 rfl (B := bkV 91 ndE X) (BLe.of_eq (by rw [← hX]; rfl)) ?_
        refine AW_blk 9 rfl (B := bkR 3 intE (snoc l (plOf r))) (BLe.rows rfl fun q j hq hj => ILe.of_eq ?_) ?_
        · obtain rfl : j = 0 := by
            have : j < 1 := hj
            omega
          exact snoc_row hq
        have hst : reF a (k + 1) r (s, l) = (kidA X).foldl (fun st q => reF a k q st) (setB s (plOf r).toNat, snoc l (plOf r)) := by
          rw [reF]
          show (bif visBad a r s then _ else _) = _
          rw [hv, hX]
          rfl
        refine AW_all good th8 (th8_ok) rfl rfl ?_ ?_
        · repeat' (first | exact trivial | exact rfl | exact (fun _ _ => rfl) | refine And.intro ?_ ?_ | intro _)
        refine AW_block ?_
        refine AW_loopX [4, 35] [0, 2] (fun j : { j : Nat × VS // reF a (k + 1) r (s, l) = ((kidA X).drop j.1).foldl (fun st q => reF a k q st) j.2 ∧ j.1 ≤ 9 ∧ VLe a (setB s (plOf r).toNat, snoc l (plOf r)) j.2 } => [(36, .cv (iint j.1.1))]) (fun j => [(1, .var 22 [.osl 9 1 0 0 j.1.2.2.n true]), (3, bkR 4 boolE ⟨a.nodes.n, j.1.2.1⟩), (9, bkR 3 intE j.1.2.2)]) (fun j => 9 - j.1.1) ⟨(0, setB s (plOf r).toNat, snoc l (plOf r)), hst, Nat.zero_le _, VLe.refl _ _⟩ ⟨SLe.of_eq rfl, trivial⟩ ⟨⟨_, rfl, BLe.of_eq rfl⟩, ⟨_, rfl, BLe.of_eq rfl⟩, ⟨_, rfl, BLe.of_eq rfl⟩, trivial⟩ ?_
        rintro ⟨⟨i, st⟩, hj1, hj2, hj3⟩
        dsimp only at hj1 hj2 hj3 ⊢
        have hc : cntB st.1 a.nodes.n < k := by
          have h := hj3.cnt
          dsimp only at h
          omega
        have hl2 : st.2.n + cntB st.1 a.nodes.n ≤ 512 := by
          have h := hj3.2
          have h2 : (snoc l (plOf r)).n = l.n + 1 := rfl
          dsimp only at h
          omega
        refine AW_seq ?_
        refine AW_all good th8 (th8_ok) rfl rfl ?_ ?_
        · repeat' (first | exact trivial | exact rfl | exact (fun _ _ => rfl) | refine And.intro ?_ ?_ | intro _)
        refine AW_seq ?_
        refine AW_cond rfl (fun h2 => ?_) (fun h2 => ?_)
        · first
          | (exfalso; cases (hv.symm.trans h2); done)
          | (
              refine AW_skip ?_
              refine AW_seq ?_
              refine AW_block ?_
              refine AW_seq ?_
              have hlt : i < 9 := by
                have h : (i : Int) < 9 := by simpa using h2
                omega
              refine AW_all good th8 (th8_ok) rfl rfl ?_ ?_
              · repeat' (first | exact trivial | exact rfl | exact (fun _ _ => rfl) | refine And.intro ?_ ?_ | intro _)
                all_goals omega
              refine AW_slot 10 (y := .cv (u64 ((kidA X).getD i 0))) rfl (SLe.of_eq rfl) ?_
              refine AW_viaX [4, 35, 36] [0, 2] (fun j : { st1 : VS // st1 = reF a k ((kidA X).getD i 0) st } => []) (fun j => [(1, .var 22 [.osl 9 1 0 0 j.1.2.n true]), (3, bkR 4 boolE ⟨a.nodes.n, j.1.1⟩), (9, bkR 3 intE j.1.2)]) (fun j => ?_) ?_
              · obtain ⟨st1, hst1⟩ := j
                dsimp only
                refine AW_all good th8 (th8_ok) rfl rfl ?_ ?_
                · repeat' (first | exact trivial | exact rfl | exact (fun _ _ => rfl) | refine And.intro ?_ ?_ | intro _)
                refine loopX_next ⟨(i + 1, st1), ?_, ?_, ?_⟩ [0, 1, 2, 3, 4, 5, 6, 7, 8, 9, 10] rfl rfl ⟨SLe.of_eq (congrArg (fun z => SV.cv (iint z)) (succ_wrap (by omega))), trivial⟩ ⟨SLe.of_eq rfl, SLe.of_eq rfl, trivial⟩ ⟨⟨rfl, _, rfl, BLe.of_eq rfl⟩, ⟨rfl, _, rfl, BLe.of_eq rfl⟩, ⟨rfl, _, rfl, BLe.of_eq rfl⟩, trivial⟩ ⟨⟨rfl, _, _, rfl, rfl, BLe.of_eq rfl⟩, ⟨rfl, _, _, rfl, rfl, visB_le rfl rfl rfl⟩, trivial⟩ ?_
                · rw [hj1, kidA_drop hlt, List.foldl_cons, ← hst1]
                · exact hlt
                · rw [hst1]
                  exact hj3.trans (reF_vle a k _ st)
                show 9 - (i + 1) < 9 - i
                omega
              cases hb : visBad a ((kidA X).getD i 0) st.1 with
              | true =>
                refine AW_eff good th8 (th8_ok) eVn (eVn_ok visNo_all) [] rfl rfl ?_ ?_
                · repeat' (first | exact trivial | exact rfl | exact (fun _ _ => rfl) | refine And.intro ?_ ?_ | intro _)
                  all_goals (first | exact hb | exact slOk_lit)
                refine joinX_end ⟨st, (reF_no hb k).symm⟩ [0, 1, 2, 3, 4, 5, 6, 7, 8, 9, 10] rfl rfl trivial ⟨SLe.of_eq rfl, SLe.of_eq rfl, SLe.of_eq rfl, trivial⟩ ⟨⟨rfl, _, rfl, BLe.of_eq rfl⟩, ⟨rfl, _, rfl, BLe.of_eq rfl⟩, ⟨rfl, _, rfl, BLe.of_eq rfl⟩, trivial⟩ ⟨⟨rfl, _, _, rfl, rfl, BLe.of_eq rfl⟩, ⟨rfl, _, _, rfl, rfl, visB_le2 rfl rfl rfl rfl rfl rfl⟩, trivial⟩
              | false =>
                refine AW_eff good th8 (th8_ok) (eVy k) (eVy_ok ih) [] rfl rfl ?_ ?_
                · repeat' (first | exact trivial | exact rfl | exact (fun _ _ => rfl) | refine And.intro ?_ ?_ | intro _)
                  all_goals (first | exact hb | exact hc | exact hl2 | exact slOk_lit)
                refine joinX_end ⟨reF a k ((kidA X).getD i 0) st, rfl⟩ [0, 1, 2, 3, 4, 5, 6, 7, 8, 11, 10] rfl rfl trivial ⟨SLe.of_eq rfl, SLe.of_eq rfl, SLe.of_eq rfl, trivial⟩ ⟨⟨rfl, _, rfl, BLe.of_eq rfl⟩, ⟨rfl, _, rfl, BLe.of_eq rfl⟩, ⟨rfl, _, rfl, BLe.of_eq rfl⟩, trivial⟩ ⟨⟨rfl, _, _, rfl, rfl, BLe.of_eq rfl⟩, ⟨rfl, _, _, rfl, rfl, visB_le2 rfl rfl rfl rfl rfl rfl⟩, trivial⟩
          )
        · first
          | (exfalso; cases (hv.symm.trans h2); done)
          | (
              refine AW_exit ?_
              have he : i = 9 := by
                have : ¬ (i : Int) < 9 := by simpa using h2
                omega
              have hm : reF a (k + 1) r (s, l) = st := by
                rw [hj1, he]
                rfl
              refine ⟨_, _, rfl, ?_, [0, 1, 2, 3, 4, 9], rfl, EndsE.all (Us := [some (.var 129 [.osl 3 1 0 0 a.nodes.n false]), some (.var 22 [.osl 5 1 0 0 (reF a (k + 1) r (s, l)).2.n true]), some (visB a), some (bkR 4 boolE ⟨a.nodes.n, (reF a (k + 1) r (s, l)).1⟩), none, some (bkR 3 intE (reF a (k + 1) r (s, l)).2)]) rfl rfl rfl ?_ ?_⟩
              · repeat' (first | exact trivial | exact rfl | exact (fun _ _ => rfl) | refine And.intro ?_ ?_ | intro _)
              · exact SLe.of_eq rfl
              · exact ⟨⟨_, rfl, BLe.of_eq rfl⟩, ⟨_, rfl, by rw [hm]; exact BLe.of_eq rfl⟩, ⟨_, rfl, visB_le rfl rfl rfl⟩, ⟨_, rfl, by rw [hm]; exact BLe.of_eq rfl⟩, ⟨_, rfl, by rw [hm]; exact BLe.of_eq rfl⟩, trivial⟩
          )
    )

end Go.Proofs.Ytadgjhbhghhbgaa.Abs
