/-
  A BLOCK BY ANOTHER NAME.
-/
import Derived.Test.YtadgjhbhghhbgaaX9
import Derived.Test.YtadgjhbhghhbgaaHp11
namespace Go.Proofs.Ytadgjhbhghhbgaa.Abs
open Go

theorem nbeq {i n : Nat} (h : i ≠ n) : Nat.beq i n = false := by
  cases hb : Nat.beq i n with
  | false => rfl
  | true => exact absurd (Nat.eq_of_beq_eq_true hb) h
theorem find_ne {b : Nat} : ∀ (hp : List (Nat × ABlk)), (hp.all fun p => !(Nat.beq p.1 b)) = true → ∀ {k B}, findB hp k = some B → k ≠ b
  | [], _, _, _, h => by cases h
  | (q, x) :: l, ha, k, B, h => by
    simp only [List.all_cons, Bool.and_eq_true] at ha
    simp only [findB] at h
    cases hb : Nat.beq k q with
    | true =>
      obtain rfl := Nat.eq_of_beq_eq_true hb
      intro e
      rw [e, Nat.beq_refl] at ha
      exact absurd ha.1 (by decide)
    | false => rw [hb] at h; exact find_ne l ha.2 h

section
variable {K : Nat} {P : Program} {S : St} {Q : Exit → St → Prop}

/-- Block b is called nx from here on; slots and blocks are told anew. -/
theorem AW_renew (b : Nat) {c : Code} {n nx : Nat} {E : Nat → SV} {H : Nat → Option ABlk} (l : List (Nat × SV)) (hp : List (Nat × ABlk)) (hnb : (hp.all fun p => !(Nat.beq p.1 b)) = true)
    (hE : allLe (fun k => bif Nat.beq k nx then b else k) E l) (hH : allBLe (fun k => bif Nat.beq k nx then b else k) (nx + 1) H hp) (h : AW K P c Q ⟨n, envX E [] l, heapX H [] hp, nx + 1⟩) : AW K P c Q ⟨n, E, H, nx⟩ := by
  intro C μ a w hR
  obtain ⟨ρ, hρ⟩ : ∃ ρ : Nat → Nat, ρ = fun k => bif Nat.beq k nx then b else k := ⟨_, rfl⟩
  rw [← hρ] at hE hH
  have hρn : ∀ k, k ≠ nx → ρ k = k := fun k hk => by rw [hρ]; show (bif Nat.beq k nx then b else k) = k; rw [nbeq hk]; rfl
  have hρb : ρ nx = b := by rw [hρ]; show (bif Nat.beq nx nx then b else nx) = b; rw [Nat.beq_refl]; rfl
  have hget : ∀ k B, heapX H [] hp k = some B → (k ≠ b ∧ k < nx + 1) ∧ ∃ B0, H (ρ k) = some B0 ∧ BLe B0 (renB ρ B) := fun k B hk => by
    unfold heapX at hk
    cases hf : findB hp k with
    | none => rw [hf] at hk; simp [memN] at hk
    | some B1 =>
      rw [hf] at hk
      obtain rfl : B1 = B := Option.some.inj hk
      obtain ⟨h1, h2⟩ := allBLe_get hp hH k B1 hf
      exact ⟨⟨find_ne hp hnb hf, h1⟩, h2⟩
  have hsome : ∀ k, (heapX H [] hp k).isSome = true → (k ≠ b ∧ k < nx + 1) ∧ (H (ρ k)).isSome = true := fun k hk => by
    obtain ⟨B, hB⟩ := Option.isSome_iff_exists.1 hk
    obtain ⟨h1, B0, h2, _⟩ := hget k B hB
    exact ⟨h1, by rw [h2]; rfl⟩
  have hinj : ∀ j k, j ≠ b → k ≠ b → ρ j = ρ k → j = k := fun j k hj hk e => by
    by_cases h1 : j = nx
    · by_cases h2 : k = nx
      · rw [h1, h2]
      · rw [h1, hρb, hρn k h2] at e
        exact absurd e.symm hk
    · by_cases h2 : k = nx
      · rw [h2, hρb, hρn j h1] at e
        exact absurd e hj
      · rw [hρn j h1, hρn k h2] at e
        exact e
  have hsub : ∀ m, Own C.F (heapX H [] hp) (fun k => μ (ρ k)) m → Own C.F H μ m := by
    rintro m (hF | ⟨k, hk, hm⟩)
    · exact .inl hF
    · exact .inr ⟨ρ k, (hsome k hk).2, hm⟩
  have hx0 : Ext C.F w (Own C.F H μ) (fun k => μ (ρ k)) w (Own C.F (heapX H [] hp) fun k => μ (ρ k)) (fun k => μ (ρ k)) := ext_sub hsub
  refine h C (fun k => μ (ρ k)) a w ⟨hR.defers, hR.size, fun t => ?_, ⟨fun k B hk => ?_, fun k k' m hk hk' hm hm' => ?_, fun k m hm => ?_, fun k m hk hm => ?_, hR.heap.frn⟩, ?_⟩
  · show SRel w _ _ (envX E [] l t) _
    unfold envX
    cases hf : findE l t with
    | none => trivial
    | some x =>
      have h1 := allLe_get l hE t x hf _ _ _ _ (hR.env t)
      exact SRel.mono hx0 ((renS_rel x _).1 h1)
  · have hk : heapX H [] hp k = some B := hk
    obtain ⟨h1, B0, h2, h3⟩ := hget k B hk
    have h4 := (hR.heap.blk _ B0 h2).2
    have h5 := (renB_rel k B).1 (h3 _ _ _ _ h4)
    exact ⟨h1.2, h5.mono hx0 rfl fun _ _ => rfl⟩
  · exact hinj _ _ (hsome k hk).1.1 (hsome k' hk').1.1 (hR.heap.inj _ _ m (hsome k hk).2 (hsome k' hk').2 hm hm')
  · have h1 := hR.heap.lt _ m hm
    refine ⟨?_, h1.2⟩
    by_cases h2 : k = nx
    · rw [h2]
      exact Nat.lt_succ_self _
    · rw [hρn k h2] at h1
      exact Nat.lt_succ_of_lt h1.1
  · exact hR.heap.dis _ m (hsome k hk).2 hm
  · have hx := hR.ext.toO hsub
    refine ⟨hx.os, hx.tape, hx.output, hx.size, hx.keep, hx.shape, fun k m hm => ?_, hx.owned, hx.frn, hx.frz, hx.drawn⟩
    show μ (ρ k) = some m
    have h1 := hR.ext.mu k m hm
    have h2 := (hR.heap.lt k m h1).1
    rw [hρn k (by
      show k ≠ nx
      have : k < nx := h2
      omega)]
    exact h1
end
end Go.Proofs.Ytadgjhbhghhbgaa.Abs

/-
  THE REFERENCES burgeonref03, 04: Is, Gen, Well, Right, At; burgeonref12: has.
-/
namespace Go.Proofs.Ytadgjhbhghhbgaa.Abs
open Go
set_option maxRecDepth 10000

def is3 (p g : Int) : Bool := bif (bif (bif decide (p ≥ 0) then decide (p < 512) else false) then decide (g ≥ 0) else false) then decide (g ≤ 1048576) else false
def g3 (r : Int) : Int := IntKind.i64.wrap (IntKind.u64.wrap (r.tdiv 65536))
def p3 (r : Int) : Int := IntKind.i64.wrap (IntKind.i64.wrap (r.tmod 65536) - 1)
def gen3 (r : Int) : Int := bif decide (IntKind.u64.wrap (r.tdiv 65536) > 1048576) then -1 else bif !is3 (p3 r) (g3 r) then -1 else g3 r
def kb3 (x : Nd) (i : Nat) : Bool := bif ((kidA x).getD i 0 != 0) then decide (gen3 ((kidA x).getD i 0) < 0) else false
def wl3 (x : Nd) : Bool := bif (bif (bif (bif (bif decide (x.gen ≥ 0) then decide (x.gen ≤ 1048576) else false) then decide (x.pre ≥ 0) else false) then decide (x.pre ≤ 9) else false) then decide (x.suf ≥ 0) else false) then decide (x.suf ≤ 9) else false
def well3 (x : Nd) : Bool := bif anyB (kb3 x) 9 then false else wl3 x

theorem ref3Is (p g : Int) : PCall Try.prog 105 [iint p, iint g] (.cv (ibool (is3 p g))) := by
  refine PCall_of (ACall_body good Try.func105 rfl 19 rfl (by simp) ?_)
  refine AW_seq ?_
  refine AW_all good tab0 (tab0_ok _) rfl rfl ?_ ?_
  · repeat' (first | exact trivial | exact rfl | exact (fun _ _ => rfl) | refine And.intro ?_ ?_ | intro _)
  refine AW_seq ?_
  refine AW_all good tab0 (tab0_ok _) rfl rfl ?_ ?_
  · repeat' (first | exact trivial | exact rfl | exact (fun _ _ => rfl) | refine And.intro ?_ ?_ | intro _)
    all_goals (first | assumption | (rename_i hg; exact eqt hg))
  refine AW_ret (bodyQ_ret rfl ?_ (Ends.le rfl ?_ ?_))
  · repeat' (first | exact trivial | exact rfl | exact (fun _ _ => rfl) | refine And.intro ?_ ?_ | intro _)
  · repeat' (first | exact trivial | exact rfl | exact (fun _ _ => rfl) | refine And.intro ?_ ?_ | intro _)
  exact SLe.of_eq rfl

noncomputable def tr1 : Tab := tabC2 105 nI nI (fun p g => .cv (ibool (is3 p g))) (fun _ _ => True) th14
theorem tr1_ok : TabOk Try.prog tr1 := tabC2_ok rfl (fun p g _ => ref3Is p g) th14_ok

theorem ref3Gen (r : Int) : PCall Try.prog 86 [u64 r] (.cv (iint (gen3 r))) := by
  refine PCall_of (ACall_body good Try.func86 rfl 20 rfl (by simp) ?_)
  refine AW_seq ?_
  refine AW_all good tr1 (tr1_ok) rfl rfl ?_ ?_
  · repeat' (first | exact trivial | exact rfl | exact (fun _ _ => rfl) | refine And.intro ?_ ?_ | intro _)
  refine AW_seq ?_
  refine AW_seq ?_
  refine AW_all good tr1 (tr1_ok) rfl rfl ?_ ?_
  · repeat' (first | exact trivial | exact rfl | exact (fun _ _ => rfl) | refine And.intro ?_ ?_ | intro _)
    all_goals omega
  refine AW_cond rfl (fun h1 => ?_) (fun h1 => ?_)
  · first
    | (exfalso; simp_all; done)
    | (
        refine AW_seq ?_
        refine AW_all good tr1 (tr1_ok) rfl rfl ?_ ?_
        · repeat' (first | exact trivial | exact rfl | exact (fun _ _ => rfl) | refine And.intro ?_ ?_ | intro _)
        refine AW_ret (bodyQ_ret rfl ?_ (Ends.le rfl ?_ ?_))
        · repeat' (first | exact trivial | exact rfl | exact (fun _ _ => rfl) | refine And.intro ?_ ?_ | intro _)
        · repeat' (first | exact trivial | exact rfl | exact (fun _ _ => rfl) | refine And.intro ?_ ?_ | intro _)
        have h : decide (IntKind.u64.wrap (r.tdiv 65536) > 1048576) = true := h1
        unfold gen3
        rw [h]
        exact SLe.of_eq rfl
    )
  · first
    | (exfalso; simp_all; done)
    | (
        refine AW_skip ?_
        refine AW_seq ?_
        refine AW_all good tr1 (tr1_ok) rfl rfl ?_ ?_
        · repeat' (first | exact trivial | exact rfl | exact (fun _ _ => rfl) | refine And.intro ?_ ?_ | intro _)
          all_goals omega
        refine AW_slot 3 (y := .cv (iint (g3 r))) rfl (SLe.of_eq rfl) ?_
        refine AW_seq ?_
        refine AW_all good tr1 (tr1_ok) rfl rfl ?_ ?_
        · repeat' (first | exact trivial | exact rfl | exact (fun _ _ => rfl) | refine And.intro ?_ ?_ | intro _)
          all_goals omega
        refine AW_slot 4 (y := .cv (iint (p3 r))) rfl (SLe.of_eq rfl) ?_
        refine AW_seq ?_
        refine AW_seq ?_
        refine AW_all good tr1 (tr1_ok) rfl rfl ?_ ?_
        · repeat' (first | exact trivial | exact rfl | exact (fun _ _ => rfl) | refine And.intro ?_ ?_ | intro _)
        refine AW_cond rfl (fun h2 => ?_) (fun h2 => ?_)
        · first
          | (exfalso; simp_all; done)
          | (
              refine AW_seq ?_
              refine AW_all good tr1 (tr1_ok) rfl rfl ?_ ?_
              · repeat' (first | exact trivial | exact rfl | exact (fun _ _ => rfl) | refine And.intro ?_ ?_ | intro _)
              refine AW_ret (bodyQ_ret rfl ?_ (Ends.le rfl ?_ ?_))
              · repeat' (first | exact trivial | exact rfl | exact (fun _ _ => rfl) | refine And.intro ?_ ?_ | intro _)
              · repeat' (first | exact trivial | exact rfl | exact (fun _ _ => rfl) | refine And.intro ?_ ?_ | intro _)
              have h : decide (IntKind.u64.wrap (r.tdiv 65536) > 1048576) = false := h1
              have h2 : (!is3 (p3 r) (g3 r)) = true := h2
              unfold gen3
              rw [h, h2]
              exact SLe.of_eq rfl
          )
        · first
          | (exfalso; simp_all; done)
          | (
              refine AW_skip ?_
              refine AW_seq ?_
              refine AW_all good tr1 (tr1_ok) rfl rfl ?_ ?_
              · repeat' (first | exact trivial | exact rfl | exact (fun _ _ => rfl) | refine And.intro ?_ ?_ | intro _)
              refine AW_ret (bodyQ_ret rfl ?_ (Ends.le rfl ?_ ?_))
              · repeat' (first | exact trivial | exact rfl | exact (fun _ _ => rfl) | refine And.intro ?_ ?_ | intro _)
              · repeat' (first | exact trivial | exact rfl | exact (fun _ _ => rfl) | refine And.intro ?_ ?_ | intro _)
              have h : decide (IntKind.u64.wrap (r.tdiv 65536) > 1048576) = false := h1
              have h2 : (!is3 (p3 r) (g3 r)) = false := h2
              unfold gen3
              rw [h, h2]
              exact SLe.of_eq rfl
          )
    )

noncomputable def tr2 : Tab := tabC1 86 rI (fun r => .cv (iint (gen3 r))) (fun _ => True) tr1
theorem tr2_ok : TabOk Try.prog tr2 := tabC1_ok rfl (fun r _ => ref3Gen r) tr1_ok

theorem ref4Well (x : Nd) : PCall Try.prog 67 [ndC x] (.cv (ibool (well3 x))) := by
  refine PCall_of (ACall_body good Try.func67 rfl 46 rfl (by simp) ?_)
  refine AW_seq ?_
  refine AW_all good tr2 (tr2_ok) rfl rfl ?_ ?_
  · repeat' (first | exact trivial | exact rfl | exact (fun _ _ => rfl) | refine And.intro ?_ ?_ | intro _)
  refine AW_seq ?_
  refine AW_seq ?_
  refine AW_all good tr2 (tr2_ok) rfl rfl ?_ ?_
  · repeat' (first | exact trivial | exact rfl | exact (fun _ _ => rfl) | refine And.intro ?_ ?_ | intro _)
  refine AW_block ?_
  refine AW_loopX [1, 6] [0] (fun j : { i : Nat // i ≤ 9 ∧ ∀ k, k < i → kb3 x k = false } => [(7, .cv (iint j.1))]) (fun j => []) (fun j => 9 - j.1) ⟨0, Nat.zero_le _, fun k hk => absurd hk (Nat.not_lt_zero k)⟩ ⟨SLe.of_eq rfl, trivial⟩ trivial ?_
  rintro ⟨i, hi, hb⟩
  dsimp only at hi hb ⊢
  refine AW_seq ?_
  refine AW_all good tr2 (tr2_ok) rfl rfl ?_ ?_
  · repeat' (first | exact trivial | exact rfl | exact (fun _ _ => rfl) | refine And.intro ?_ ?_ | intro _)
  refine AW_seq ?_
  refine AW_cond rfl (fun h1 => ?_) (fun h1 => ?_)
  · first
    | (exfalso; simp_all; done)
    | (
        refine AW_skip ?_
        refine AW_seq ?_
        refine AW_block ?_
        refine AW_seq ?_
        have hlt : i < 9 := by
          have h : (i : Int) < 9 := of_decide_eq_true (by assumption)
          omega
        refine AW_all good tr2 (tr2_ok) rfl rfl ?_ ?_
        · repeat' (first | exact trivial | exact rfl | exact (fun _ _ => rfl) | refine And.intro ?_ ?_ | intro _)
          all_goals omega
        refine AW_slot 4 (y := .cv (u64 ((kidA x).getD i 0))) rfl (SLe.of_eq rfl) ?_
        refine AW_seq ?_
        refine AW_all good tr2 (tr2_ok) rfl rfl ?_ ?_
        · repeat' (first | exact trivial | exact rfl | exact (fun _ _ => rfl) | refine And.intro ?_ ?_ | intro _)
          all_goals (first | assumption | (rename_i hg; exact eqt hg))
        refine AW_cond rfl (fun h2 => ?_) (fun h2 => ?_)
        · first
          | (exfalso; simp_all; done)
          | (
              refine AW_seq ?_
              refine AW_all good tr2 (tr2_ok) rfl rfl ?_ ?_
              · repeat' (first | exact trivial | exact rfl | exact (fun _ _ => rfl) | refine And.intro ?_ ?_ | intro _)
              refine AW_ret (bodyQ_ret rfl ?_ (Ends.le rfl ?_ ?_))
              · repeat' (first | exact trivial | exact rfl | exact (fun _ _ => rfl) | refine And.intro ?_ ?_ | intro _)
              · repeat' (first | exact trivial | exact rfl | exact (fun _ _ => rfl) | refine And.intro ?_ ?_ | intro _)
              have hkb : kb3 x i = true := by assumption
              have hm : well3 x = false := by
                unfold well3
                rw [anyB_hit hlt hkb]
                rfl
              rw [hm]
              exact SLe.of_eq rfl
          )
        · first
          | (exfalso; simp_all; done)
          | (
              refine AW_skip ?_
              have hkb : kb3 x i = false := by assumption
              refine AW_all good tr2 (tr2_ok) rfl rfl ?_ ?_
              · repeat' (first | exact trivial | exact rfl | exact (fun _ _ => rfl) | refine And.intro ?_ ?_ | intro _)
              refine loopX_next ⟨i + 1, hlt, fun k hk => ?_⟩ [0] rfl rfl ⟨SLe.of_eq (congrArg (fun z => SV.cv (iint z)) (succ_wrap (by omega))), trivial⟩ ⟨SLe.of_eq rfl, SLe.of_eq rfl, trivial⟩ trivial ⟨⟨rfl, _, _, rfl, rfl, BLe.of_eq rfl⟩, trivial⟩ ?_
              · rcases Nat.lt_succ_iff_lt_or_eq.1 hk with h | h
                · exact hb k h
                · rw [h]; exact hkb
              show 9 - (i + 1) < 9 - i
              omega
          )
    )
  · first
    | (exfalso; simp_all; done)
    | (
        refine AW_exit ?_
        refine AW_seq ?_
        refine AW_all good tr2 (tr2_ok) rfl rfl ?_ ?_
        · repeat' (first | exact trivial | exact rfl | exact (fun _ _ => rfl) | refine And.intro ?_ ?_ | intro _)
          all_goals (first | assumption | (rename_i hg; exact eqt hg))
        refine AW_ret (bodyQ_ret rfl ?_ (Ends.le rfl ?_ ?_))
        · repeat' (first | exact trivial | exact rfl | exact (fun _ _ => rfl) | refine And.intro ?_ ?_ | intro _)
        · repeat' (first | exact trivial | exact rfl | exact (fun _ _ => rfl) | refine And.intro ?_ ?_ | intro _)
        have hend : i = 9 := by
          have h : ¬ (i : Int) < 9 := of_decide_eq_false (by assumption)
          omega
        have hm : well3 x = wl3 x := by
          unfold well3
          rw [anyB_all fun k hk => hb k (by omega)]
          rfl
        rw [hm]
        exact SLe.of_eq rfl
    )

/-- How often a place is in a row. -/
def cnt3 (l : Sl Int) (q : Int) (n : Nat) : Nat := (List.range n).countP fun i => l.at_ i == q
theorem cnt3_t {l : Sl Int} {q : Int} {n : Nat} (h : (l.at_ n == q) = true) : cnt3 l q (n + 1) = cnt3 l q n + 1 := by
  unfold cnt3
  rw [List.range_succ, List.countP_append, List.countP_singleton, h]
  rfl
theorem cnt3_f {l : Sl Int} {q : Int} {n : Nat} (h : (l.at_ n == q) = false) : cnt3 l q (n + 1) = cnt3 l q n := by
  unfold cnt3
  rw [List.range_succ, List.countP_append, List.countP_singleton, h]
  rfl
theorem cnt3_le (l : Sl Int) (q : Int) (n : Nat) : cnt3 l q n ≤ n := by
  have := List.countP_le_length (p := fun i => l.at_ i == q) (l := List.range n)
  rw [List.length_range] at this
  exact this

theorem ref4Has (l : Sl Int) (q : Int) (hn : l.n ≤ 512) : PCall Try.prog 66 [.one (.imm (slI intE l)), iint q] (.cv (iint (cnt3 l q l.n))) := by
  refine PCall_of (ACall_body good Try.func66 rfl 21 rfl (by simp) ?_)
  refine AW_seq ?_
  refine AW_all good tab0 (tab0_ok _) rfl rfl ?_ ?_
  · repeat' (first | exact trivial | exact rfl | exact (fun _ _ => rfl) | refine And.intro ?_ ?_ | intro _)
  refine AW_seq ?_
  refine AW_all good tab0 (tab0_ok _) rfl rfl ?_ ?_
  · repeat' (first | exact trivial | exact rfl | exact (fun _ _ => rfl) | refine And.intro ?_ ?_ | intro _)
  refine AW_seq ?_
  refine AW_seq ?_
  refine AW_all good tab0 (tab0_ok _) rfl rfl ?_ ?_
  · repeat' (first | exact trivial | exact rfl | exact (fun _ _ => rfl) | refine And.intro ?_ ?_ | intro _)
  refine AW_block ?_
  refine AW_loopX [1, 8, 9] [] (fun j : { i : Nat // i ≤ l.n } => [(10, .cv (iint j.1)), (5, .cv (iint (cnt3 l q j.1)))]) (fun j => []) (fun j => l.n - j.1) ⟨0, Nat.zero_le _⟩ ⟨SLe.of_eq rfl, SLe.of_eq rfl, trivial⟩ trivial ?_
  rintro ⟨i, hi⟩
  dsimp only at hi ⊢
  refine AW_seq ?_
  refine AW_all good tab0 (tab0_ok _) rfl rfl ?_ ?_
  · repeat' (first | exact trivial | exact rfl | exact (fun _ _ => rfl) | refine And.intro ?_ ?_ | intro _)
  refine AW_seq ?_
  refine AW_cond rfl (fun h1 => ?_) (fun h1 => ?_)
  · first
    | (exfalso; simp_all; done)
    | (
        refine AW_skip ?_
        refine AW_seq ?_
        refine AW_block ?_
        refine AW_seq ?_
        have hlt : i < l.n := by
          have h : (i : Int) < (l.n : Int) := of_decide_eq_true (by assumption)
          omega
        refine AW_all good tab0 (tab0_ok _) rfl rfl ?_ ?_
        · repeat' (first | exact trivial | exact rfl | exact (fun _ _ => rfl) | refine And.intro ?_ ?_ | intro _)
          all_goals omega
        refine AW_seq ?_
        refine AW_all good tab0 (tab0_ok _) rfl rfl ?_ ?_
        · repeat' (first | exact trivial | exact rfl | exact (fun _ _ => rfl) | refine And.intro ?_ ?_ | intro _)
        refine AW_cond rfl (fun h2 => ?_) (fun h2 => ?_)
        · first
          | (exfalso; simp_all; done)
          | (
              have heq : (l.at_ i == q) = true := by assumption
              have hcl := cnt3_le l q i
              refine AW_all good tab0 (tab0_ok _) rfl rfl ?_ ?_
              · repeat' (first | exact trivial | exact rfl | exact (fun _ _ => rfl) | refine And.intro ?_ ?_ | intro _)
              skip
              refine AW_all good tab0 (tab0_ok _) rfl rfl ?_ ?_
              · repeat' (first | exact trivial | exact rfl | exact (fun _ _ => rfl) | refine And.intro ?_ ?_ | intro _)
              refine loopX_next ⟨i + 1, hlt⟩ [] rfl rfl ⟨SLe.of_eq (congrArg (fun z => SV.cv (iint z)) (succ_wrap (by omega))), SLe.of_eq (congrArg (fun z => SV.cv (iint z)) ((succ_wrap (by omega)).trans (congrArg Int.ofNat (cnt3_t heq).symm))), trivial⟩ ⟨SLe.of_eq rfl, SLe.of_eq rfl, SLe.of_eq rfl, trivial⟩ trivial trivial ?_
              show l.n - (i + 1) < l.n - i
              omega
          )
        · first
          | (exfalso; simp_all; done)
          | (
              refine AW_skip ?_
              have heq : (l.at_ i == q) = false := by assumption
              refine AW_all good tab0 (tab0_ok _) rfl rfl ?_ ?_
              · repeat' (first | exact trivial | exact rfl | exact (fun _ _ => rfl) | refine And.intro ?_ ?_ | intro _)
              refine loopX_next ⟨i + 1, hlt⟩ [] rfl rfl ⟨SLe.of_eq (congrArg (fun z => SV.cv (iint z)) (succ_wrap (by omega))), SLe.of_eq (congrArg (fun z => SV.cv (iint z)) (congrArg Int.ofNat (cnt3_f heq).symm)), trivial⟩ ⟨SLe.of_eq rfl, SLe.of_eq rfl, SLe.of_eq rfl, trivial⟩ trivial trivial ?_
              show l.n - (i + 1) < l.n - i
              omega
          )
    )
  · first
    | (exfalso; simp_all; done)
    | (
        refine AW_exit ?_
        refine AW_seq ?_
        refine AW_all good tab0 (tab0_ok _) rfl rfl ?_ ?_
        · repeat' (first | exact trivial | exact rfl | exact (fun _ _ => rfl) | refine And.intro ?_ ?_ | intro _)
        refine AW_ret (bodyQ_ret rfl ?_ (Ends.le rfl ?_ ?_))
        · repeat' (first | exact trivial | exact rfl | exact (fun _ _ => rfl) | refine And.intro ?_ ?_ | intro _)
        · repeat' (first | exact trivial | exact rfl | exact (fun _ _ => rfl) | refine And.intro ?_ ?_ | intro _)
        have hend : i = l.n := by
          have h : ¬ (i : Int) < (l.n : Int) := of_decide_eq_false (by assumption)
          omega
        rw [← hend]
        exact SLe.of_eq rfl
    )

noncomputable def tr3 : Tab := tabC2 66 (codSl intE) nI (fun l q => .cv (iint (cnt3 l q l.n))) (fun l _ => l.n ≤ 512) (tabC1 67 ndA (fun x => .cv (ibool (well3 x))) (fun _ => True) tr2)
theorem tr3_ok : TabOk Try.prog tr3 := tabC2_ok rfl (fun l q h => ref4Has l q h) (tabC1_ok rfl (fun x _ => ref4Well x) tr2_ok)
def shp4 (a : Ar) : Bool := bif (bif ((a.nodes.n : Int) == 0) then true else decide ((a.nodes.n : Int) > 512)) then true else decide ((a.free.n : Int) > a.nodes.n)
def fb4 (a : Ar) (i : Nat) : Bool := bif decide (a.free.at_ i < 0) then true else decide (a.free.at_ i ≥ (a.nodes.n : Int))
def nbA (x : Nd) (c : Int) : Bool := bif (bif !well3 x then true else decide (c > 1)) then true else ((c == 1) != (x.kind == 0))
def nbB (x : Nd) (c : Int) : Bool := bif (c == 1) then !nodeEq x ⟨0, x.gen, 0, 0, 0, 0, 0, 0, 0, 0, 0, 0, 0, 0, 0, 0⟩ else false
def nb4 (a : Ar) (i : Nat) : Bool := bif nbA (a.nodes.at_ i) (cnt3 a.free i a.free.n) then true else nbB (a.nodes.at_ i) (cnt3 a.free i a.free.n)
def right4 (a : Ar) : Bool := bif shp4 a then false else bif anyB (fb4 a) a.free.n then false else !anyB (nb4 a) a.nodes.n
theorem shp4_facts {a : Ar} (h : shp4 a = false) : 1 ≤ a.nodes.n ∧ a.nodes.n ≤ 512 ∧ a.free.n ≤ a.nodes.n := by
  obtain ⟨h1, h2⟩ := bor_f h
  obtain ⟨h1, h3⟩ := bor_f h1
  have h2 := of_decide_eq_false h2
  have h3 := of_decide_eq_false h3
  have h1 : ¬ (a.nodes.n : Int) = 0 := by simpa using h1
  omega

set_option maxHeartbeats 1000000 in
theorem ref4Right (a : Ar) : PCall Try.prog 52 [arC a] (.cv (ibool (right4 a))) := by
  refine PCall_of (ACall_body good Try.func52 rfl 83 rfl (by simp) ?_)
  refine AW_seq ?_
  refine AW_all good tr3 (tr3_ok) rfl rfl ?_ ?_
  · repeat' (first | exact trivial | exact rfl | exact (fun _ _ => rfl) | refine And.intro ?_ ?_ | intro _)
  refine AW_seq ?_
  refine AW_seq ?_
  refine AW_all good tr3 (tr3_ok) rfl rfl ?_ ?_
  · repeat' (first | exact trivial | exact rfl | exact (fun _ _ => rfl) | refine And.intro ?_ ?_ | intro _)
    all_goals (first | assumption | (rename_i hg; exact eqf hg))
  refine AW_cond rfl (fun h1 => ?_) (fun h1 => ?_)
  · first
    | (exfalso; simp_all; done)
    | (
        refine AW_seq ?_
        refine AW_all good tr3 (tr3_ok) rfl rfl ?_ ?_
        · repeat' (first | exact trivial | exact rfl | exact (fun _ _ => rfl) | refine And.intro ?_ ?_ | intro _)
        refine AW_ret (bodyQ_ret rfl ?_ (Ends.le rfl ?_ ?_))
        · repeat' (first | exact trivial | exact rfl | exact (fun _ _ => rfl) | refine And.intro ?_ ?_ | intro _)
        · repeat' (first | exact trivial | exact rfl | exact (fun _ _ => rfl) | refine And.intro ?_ ?_ | intro _)
        have hm : right4 a = false := by
          unfold right4
          rw [show shp4 a = true from h1]
          rfl
        rw [hm]
        exact SLe.of_eq rfl
    )
  · first
    | (exfalso; simp_all; done)
    | (
        refine AW_skip ?_
        refine AW_seq ?_
        refine AW_seq ?_
        have hsh : shp4 a = false := h1
        obtain ⟨hs1, hs2, hs3⟩ := shp4_facts hsh
        have hfl : a.free.n ≤ 512 := by omega
        refine AW_all good tr3 (tr3_ok) rfl rfl ?_ ?_
        · repeat' (first | exact trivial | exact rfl | exact (fun _ _ => rfl) | refine And.intro ?_ ?_ | intro _)
        refine AW_block ?_
        refine AW_loopX [1, 29, 30] [0] (fun j : { i : Nat // i ≤ a.free.n ∧ ∀ k, k < i → fb4 a k = false } => [(31, .cv (iint j.1))]) (fun j => []) (fun j => a.free.n - j.1) ⟨0, Nat.zero_le _, fun k hk => absurd hk (Nat.not_lt_zero k)⟩ ⟨SLe.of_eq rfl, trivial⟩ trivial ?_
        rintro ⟨i, hi, hb⟩
        dsimp only at hi hb ⊢
        refine AW_seq ?_
        refine AW_all good tr3 (tr3_ok) rfl rfl ?_ ?_
        · repeat' (first | exact trivial | exact rfl | exact (fun _ _ => rfl) | refine And.intro ?_ ?_ | intro _)
        refine AW_seq ?_
        refine AW_cond rfl (fun h2 => ?_) (fun h2 => ?_)
        · first
          | (exfalso; simp_all; done)
          | (
              refine AW_skip ?_
              refine AW_seq ?_
              refine AW_block ?_
              refine AW_seq ?_
              have hlt : i < a.free.n := by
                have h : (i : Int) < (a.free.n : Int) := of_decide_eq_true (by assumption)
                omega
              refine AW_all good tr3 (tr3_ok) rfl rfl ?_ ?_
              · repeat' (first | exact trivial | exact rfl | exact (fun _ _ => rfl) | refine And.intro ?_ ?_ | intro _)
                all_goals omega
              refine AW_seq ?_
              refine AW_all good tr3 (tr3_ok) rfl rfl ?_ ?_
              · repeat' (first | exact trivial | exact rfl | exact (fun _ _ => rfl) | refine And.intro ?_ ?_ | intro _)
                all_goals (first | assumption | (rename_i hg; exact eqf hg))
              refine AW_cond rfl (fun h3 => ?_) (fun h3 => ?_)
              · first
                | (exfalso; simp_all; done)
                | (
                    refine AW_seq ?_
                    refine AW_all good tr3 (tr3_ok) rfl rfl ?_ ?_
                    · repeat' (first | exact trivial | exact rfl | exact (fun _ _ => rfl) | refine And.intro ?_ ?_ | intro _)
                    refine AW_ret (bodyQ_ret rfl ?_ (Ends.le rfl ?_ ?_))
                    · repeat' (first | exact trivial | exact rfl | exact (fun _ _ => rfl) | refine And.intro ?_ ?_ | intro _)
                    · repeat' (first | exact trivial | exact rfl | exact (fun _ _ => rfl) | refine And.intro ?_ ?_ | intro _)
                    have hfb : fb4 a i = true := by assumption
                    have hm : right4 a = false := by
                      unfold right4
                      rw [hsh, anyB_hit hlt hfb]
                      rfl
                    rw [hm]
                    exact SLe.of_eq rfl
                )
              · first
                | (exfalso; simp_all; done)
                | (
                    refine AW_skip ?_
                    have hfb : fb4 a i = false := by assumption
                    refine AW_all good tr3 (tr3_ok) rfl rfl ?_ ?_
                    · repeat' (first | exact trivial | exact rfl | exact (fun _ _ => rfl) | refine And.intro ?_ ?_ | intro _)
                    refine loopX_next ⟨i + 1, hlt, fun k hk => ?_⟩ [0] rfl rfl ⟨SLe.of_eq (congrArg (fun z => SV.cv (iint z)) (succ_wrap (by omega))), trivial⟩ ⟨SLe.of_eq rfl, SLe.of_eq rfl, SLe.of_eq rfl, trivial⟩ trivial ⟨⟨rfl, _, _, rfl, rfl, BLe.of_eq rfl⟩, trivial⟩ ?_
                    · rcases Nat.lt_succ_iff_lt_or_eq.1 hk with h | h
                      · exact hb k h
                      · rw [h]; exact hfb
                    show a.free.n - (i + 1) < a.free.n - i
                    omega
                )
          )
        · first
          | (exfalso; simp_all; done)
          | (
              refine AW_exit ?_
              refine AW_seq ?_
              refine AW_seq ?_
              obtain rfl : i = a.free.n := by
                have h : ¬ (i : Int) < (a.free.n : Int) := of_decide_eq_false (by assumption)
                omega
              have hfb := hb
              clear hb
              refine AW_all good tr3 (tr3_ok) rfl rfl ?_ ?_
              · repeat' (first | exact trivial | exact rfl | exact (fun _ _ => rfl) | refine And.intro ?_ ?_ | intro _)
              refine AW_block ?_
              refine AW_loopX [1, 46, 47] [0] (fun j : { i : Nat // i ≤ a.nodes.n ∧ ∀ k, k < i → nb4 a k = false } => [(48, .cv (iint j.1))]) (fun j => []) (fun j => a.nodes.n - j.1) ⟨0, Nat.zero_le _, fun k hk => absurd hk (Nat.not_lt_zero k)⟩ ⟨SLe.of_eq rfl, trivial⟩ trivial ?_
              rintro ⟨i, hi, hb⟩
              dsimp only at hi hb ⊢
              refine AW_seq ?_
              refine AW_all good tr3 (tr3_ok) rfl rfl ?_ ?_
              · repeat' (first | exact trivial | exact rfl | exact (fun _ _ => rfl) | refine And.intro ?_ ?_ | intro _)
              refine AW_seq ?_
              refine AW_cond rfl (fun h4 => ?_) (fun h4 => ?_)
              · first
                | (exfalso; simp_all; done)
                | (
                    refine AW_skip ?_
                    refine AW_seq ?_
                    refine AW_block ?_
                    refine AW_seq ?_
                    have hlk : i < a.nodes.n := by
                      have h : (i : Int) < (a.nodes.n : Int) := of_decide_eq_true (by assumption)
                      omega
                    refine AW_all good tr3 (tr3_ok) rfl rfl ?_ ?_
                    · repeat' (first | exact trivial | exact rfl | exact (fun _ _ => rfl) | refine And.intro ?_ ?_ | intro _)
                      all_goals omega
                    refine AW_seq ?_
                    refine AW_all good tr3 (tr3_ok) rfl rfl ?_ ?_
                    · repeat' (first | exact trivial | exact rfl | exact (fun _ _ => rfl) | refine And.intro ?_ ?_ | intro _)
                      all_goals (first | exact hfl | exact slOk_lit)
                    obtain ⟨c, hc⟩ : ∃ c : Int, (cnt3 a.free i a.free.n : Int) = c := ⟨_, rfl⟩
                    refine AW_slot 7 (y := .cv (iint c)) rfl (SLe.of_eq (by rw [← hc]; rfl)) ?_
                    obtain ⟨X, hX⟩ : ∃ X, a.nodes.at_ i = X := ⟨_, rfl⟩
                    refine AW_blk 1 rfl (B := bkV 91 ndE X) (BLe.of_eq (by rw [← hX]; rfl)) ?_
                    refine AW_seq ?_
                    refine AW_seq ?_
                    refine AW_all good tr3 (tr3_ok) rfl rfl ?_ ?_
                    · repeat' (first | exact trivial | exact rfl | exact (fun _ _ => rfl) | refine And.intro ?_ ?_ | intro _)
                      all_goals (first | assumption | (rename_i hg; exact eqf hg))
                    refine AW_cond rfl (fun h5 => ?_) (fun h5 => ?_)
                    · first
                      | (exfalso; simp_all; done)
                      | (
                          refine AW_seq ?_
                          refine AW_all good tr3 (tr3_ok) rfl rfl ?_ ?_
                          · repeat' (first | exact trivial | exact rfl | exact (fun _ _ => rfl) | refine And.intro ?_ ?_ | intro _)
                          refine AW_ret (bodyQ_ret rfl ?_ (Ends.le rfl ?_ ?_))
                          · repeat' (first | exact trivial | exact rfl | exact (fun _ _ => rfl) | refine And.intro ?_ ?_ | intro _)
                          · repeat' (first | exact trivial | exact rfl | exact (fun _ _ => rfl) | refine And.intro ?_ ?_ | intro _)
                          have hnA : nbA X c = true := by assumption
                          have hnb : nb4 a i = true := by
                            unfold nb4
                            rw [hX, hc, hnA]
                            rfl
                          have hm : right4 a = false := by
                            unfold right4
                            rw [hsh, anyB_all hfb, anyB_hit hlk hnb]
                            rfl
                          rw [hm]
                          exact SLe.of_eq rfl
                      )
                    · first
                      | (exfalso; simp_all; done)
                      | (
                          refine AW_skip ?_
                          refine AW_seq ?_
                          have hnA : nbA X c = false := by assumption
                          refine AW_all good tr3 (tr3_ok) rfl rfl ?_ ?_
                          · repeat' (first | exact trivial | exact rfl | exact (fun _ _ => rfl) | refine And.intro ?_ ?_ | intro _)
                          refine AW_seq ?_
                          refine AW_all good tr3 (tr3_ok) rfl rfl ?_ ?_
                          · repeat' (first | exact trivial | exact rfl | exact (fun _ _ => rfl) | refine And.intro ?_ ?_ | intro _)
                            all_goals (first | assumption | (rename_i hg; exact eqt hg))
                          refine AW_cond rfl (fun h6 => ?_) (fun h6 => ?_)
                          · first
                            | (exfalso; simp_all; done)
                            | (
                                refine AW_seq ?_
                                refine AW_all good tr3 (tr3_ok) rfl rfl ?_ ?_
                                · repeat' (first | exact trivial | exact rfl | exact (fun _ _ => rfl) | refine And.intro ?_ ?_ | intro _)
                                refine AW_ret (bodyQ_ret rfl ?_ (Ends.le rfl ?_ ?_))
                                · repeat' (first | exact trivial | exact rfl | exact (fun _ _ => rfl) | refine And.intro ?_ ?_ | intro _)
                                · repeat' (first | exact trivial | exact rfl | exact (fun _ _ => rfl) | refine And.intro ?_ ?_ | intro _)
                                have hnB : nbB X c = true := by assumption
                                have hnb : nb4 a i = true := by
                                  unfold nb4
                                  rw [hX, hc, hnA]
                                  exact hnB
                                have hm : right4 a = false := by
                                  unfold right4
                                  rw [hsh, anyB_all hfb, anyB_hit hlk hnb]
                                  rfl
                                rw [hm]
                                exact SLe.of_eq rfl
                            )
                          · first
                            | (exfalso; simp_all; done)
                            | (
                                refine AW_skip ?_
                                have hnB : nbB X c = false := by assumption
                                have hnb : nb4 a i = false := by
                                  unfold nb4
                                  rw [hX, hc, hnA]
                                  exact hnB
                                refine AW_all good tr3 (tr3_ok) rfl rfl ?_ ?_
                                · repeat' (first | exact trivial | exact rfl | exact (fun _ _ => rfl) | refine And.intro ?_ ?_ | intro _)
                                refine loopX_next ⟨i + 1, hlk, fun k hk => ?_⟩ [0] rfl rfl ⟨SLe.of_eq (congrArg (fun z => SV.cv (iint z)) (succ_wrap (by omega))), trivial⟩ ⟨SLe.of_eq rfl, SLe.of_eq rfl, SLe.of_eq rfl, trivial⟩ trivial ⟨⟨rfl, _, _, rfl, rfl, BLe.of_eq rfl⟩, trivial⟩ ?_
                                · rcases Nat.lt_succ_iff_lt_or_eq.1 hk with h | h
                                  · exact hb k h
                                  · rw [h]; exact hnb
                                show a.nodes.n - (i + 1) < a.nodes.n - i
                                omega
                            )
                      )
                )
              · first
                | (exfalso; simp_all; done)
                | (
                    refine AW_exit ?_
                    refine AW_seq ?_
                    refine AW_all good tr3 (tr3_ok) rfl rfl ?_ ?_
                    · repeat' (first | exact trivial | exact rfl | exact (fun _ _ => rfl) | refine And.intro ?_ ?_ | intro _)
                    refine AW_ret (bodyQ_ret rfl ?_ (Ends.le rfl ?_ ?_))
                    · repeat' (first | exact trivial | exact rfl | exact (fun _ _ => rfl) | refine And.intro ?_ ?_ | intro _)
                    · repeat' (first | exact trivial | exact rfl | exact (fun _ _ => rfl) | refine And.intro ?_ ?_ | intro _)
                    have hend : i = a.nodes.n := by
                      have h : ¬ (i : Int) < (a.nodes.n : Int) := of_decide_eq_false (by assumption)
                      omega
                    have hm : right4 a = true := by
                      unfold right4
                      rw [hsh, anyB_all hfb, anyB_all fun k hk => hb k (by omega)]
                      rfl
                    rw [hm]
                    exact SLe.of_eq rfl
                )
          )
    )

end Go.Proofs.Ytadgjhbhghhbgaa.Abs

/-
  THE REFERENCES burgeonref04.At, burgeonref12: has, Read, Top, Items.
-/
namespace Go.Proofs.Ytadgjhbhghhbgaa.Abs
open Go
set_option maxRecDepth 10000

def atB1 (r : Int) : Bool := bif r == 0 then true else decide (gen3 r < 0)
def atB2 (a : Ar) (r : Int) : Bool := bif (bif decide (p3 r ≥ (a.nodes.n : Int)) then true else ((a.nodes.at_ (p3 r).toNat).kind == 0)) then true else ((a.nodes.at_ (p3 r).toNat).gen != gen3 r)
def at4 (a : Ar) (r : Int) : Int := bif atB1 r then -1 else bif atB2 a r then -1 else p3 r
theorem gen3_pos {r : Int} (h : ¬ gen3 r < 0) : is3 (p3 r) (g3 r) = true ∧ gen3 r = g3 r ∧ ¬ IntKind.u64.wrap (r.tdiv 65536) > 1048576 := by
  unfold gen3 at h ⊢
  cases h1 : decide (IntKind.u64.wrap (r.tdiv 65536) > 1048576) with
  | true => rw [h1] at h; exact absurd (by decide : (-1 : Int) < 0) h
  | false =>
    rw [h1] at h
    cases h2 : is3 (p3 r) (g3 r) with
    | false => rw [h2] at h; exact absurd (by decide : (-1 : Int) < 0) h
    | true => exact ⟨rfl, rfl, of_decide_eq_false h1⟩
theorem is3_rng {p g : Int} (h : is3 p g = true) : (0 ≤ p ∧ p < 512) ∧ 0 ≤ g ∧ g ≤ 1048576 := by
  unfold is3 at h
  obtain ⟨h, h4⟩ := band_t h
  obtain ⟨h, h3⟩ := band_t h
  obtain ⟨h1, h2⟩ := band_t h
  exact ⟨⟨of_decide_eq_true h1, of_decide_eq_true h2⟩, of_decide_eq_true h3, of_decide_eq_true h4⟩
theorem p3_lt {p n : Int} (h : decide (p ≥ n) = false) : p < n := by
  have := of_decide_eq_false h
  omega

theorem ref4At (a : Ar) (r : Int) : PCall Try.prog 68 [arC a, u64 r] (.cv (iint (at4 a r))) := by
  refine PCall_of (ACall_body good Try.func68 rfl 43 rfl (by simp) ?_)
  refine AW_seq ?_
  refine AW_all good tr2 (tr2_ok) rfl rfl ?_ ?_
  · repeat' (first | exact trivial | exact rfl | exact (fun _ _ => rfl) | refine And.intro ?_ ?_ | intro _)
  refine AW_seq ?_
  refine AW_seq ?_
  refine AW_all good tr2 (tr2_ok) rfl rfl ?_ ?_
  · repeat' (first | exact trivial | exact rfl | exact (fun _ _ => rfl) | refine And.intro ?_ ?_ | intro _)
    all_goals (first | assumption | (rename_i hg; exact eqf hg))
  refine AW_cond rfl (fun h1 => ?_) (fun h1 => ?_)
  · first
    | (exfalso; simp_all; done)
    | (
        refine AW_seq ?_
        refine AW_all good tr2 (tr2_ok) rfl rfl ?_ ?_
        · repeat' (first | exact trivial | exact rfl | exact (fun _ _ => rfl) | refine And.intro ?_ ?_ | intro _)
        refine AW_ret (bodyQ_ret rfl ?_ (Ends.le rfl ?_ ?_))
        · repeat' (first | exact trivial | exact rfl | exact (fun _ _ => rfl) | refine And.intro ?_ ?_ | intro _)
        · repeat' (first | exact trivial | exact rfl | exact (fun _ _ => rfl) | refine And.intro ?_ ?_ | intro _)
        have h : atB1 r = true := h1
        unfold at4
        rw [h]
        exact SLe.of_eq rfl
    )
  · first
    | (exfalso; simp_all; done)
    | (
        refine AW_skip ?_
        refine AW_seq ?_
        refine AW_all good tr2 (tr2_ok) rfl rfl ?_ ?_
        · repeat' (first | exact trivial | exact rfl | exact (fun _ _ => rfl) | refine And.intro ?_ ?_ | intro _)
          all_goals omega
        refine AW_slot 5 (y := .cv (iint (p3 r))) rfl (SLe.of_eq rfl) ?_
        have hb1 : atB1 r = false := h1
        have hp0 := (is3_rng (gen3_pos (of_decide_eq_false (bor_f hb1).2)).1).1
        refine AW_seq ?_
        refine AW_seq ?_
        refine AW_drwG good rfl tr2 (tr2_ok) et0 (et0_ok _) [] [0, 0, 2, 6, 15, 31, 63, 127, 63, 511, 1023, 2047, 4095, 8191, 16383, 32767, 65535, 32767, 262143, 524287, 1048575, 32767, 2129919, 8388607, 16777215] [false, false, false, false, false, false, false, false, false, false, false, false, false, false, false, false, false, false, false, false, false, false, false, false, false] (by rfl) (by rfl) rfl (by rfl) (by rfl) ?_ ?_ ?_
        · repeat' (first | exact trivial | exact rfl | exact (fun _ _ => rfl) | refine And.intro ?_ ?_ | intro _)
          all_goals (first | exact hp0.1 | (rename_i hg; exact p3_lt (beq_ff hg)) | (rename_i hg; exact p3_lt (beq_ff (nbor hg))) | assumption | (rename_i hg; exact eqf hg))
        · repeat' (first | refine And.intro ?_ ?_ | exact trivial | exact rfl | intro _)
          all_goals assumption
        refine AW_cond rfl (fun h2 => ?_) (fun h2 => ?_)
        · first
          | (exfalso; simp_all; done)
          | (
              refine AW_seq ?_
              refine AW_all good tr2 (tr2_ok) rfl rfl ?_ ?_
              · repeat' (first | exact trivial | exact rfl | exact (fun _ _ => rfl) | refine And.intro ?_ ?_ | intro _)
              refine AW_ret (bodyQ_ret rfl ?_ (Ends.le rfl ?_ ?_))
              · repeat' (first | exact trivial | exact rfl | exact (fun _ _ => rfl) | refine And.intro ?_ ?_ | intro _)
              · repeat' (first | exact trivial | exact rfl | exact (fun _ _ => rfl) | refine And.intro ?_ ?_ | intro _)
              have h2 : atB2 a r = true := h2
              unfold at4
              rw [hb1, h2]
              exact SLe.of_eq rfl
          )
        · first
          | (exfalso; simp_all; done)
          | (
              refine AW_skip ?_
              refine AW_seq ?_
              refine AW_all good tr2 (tr2_ok) rfl rfl ?_ ?_
              · repeat' (first | exact trivial | exact rfl | exact (fun _ _ => rfl) | refine And.intro ?_ ?_ | intro _)
              refine AW_ret (bodyQ_ret rfl ?_ (Ends.le rfl ?_ ?_))
              · repeat' (first | exact trivial | exact rfl | exact (fun _ _ => rfl) | refine And.intro ?_ ?_ | intro _)
              · repeat' (first | exact trivial | exact rfl | exact (fun _ _ => rfl) | refine And.intro ?_ ?_ | intro _)
              have h2 : atB2 a r = false := h2
              unfold at4
              rw [hb1, h2]
              exact SLe.of_eq rfl
          )
    )

theorem ref12Has (l : Sl Int) (q : Int) (hn : l.n ≤ 512) : PCall Try.prog 87 [.one (.imm (slI intE l)), iint q] (.cv (ibool (anyB (fun i => l.at_ i == q) l.n))) := by
  refine PCall_of (ACall_body good Try.func87 rfl 17 rfl (by simp) ?_)
  refine AW_seq ?_
  refine AW_all good tab0 (tab0_ok _) rfl rfl ?_ ?_
  · repeat' (first | exact trivial | exact rfl | exact (fun _ _ => rfl) | refine And.intro ?_ ?_ | intro _)
  refine AW_seq ?_
  refine AW_seq ?_
  refine AW_all good tab0 (tab0_ok _) rfl rfl ?_ ?_
  · repeat' (first | exact trivial | exact rfl | exact (fun _ _ => rfl) | refine And.intro ?_ ?_ | intro _)
  refine AW_block ?_
  refine AW_loopX [1, 7, 8] [] (fun j : { i : Nat // i ≤ l.n ∧ ∀ k, k < i → (fun i => l.at_ i == q) k = false } => [(9, .cv (iint j.1))]) (fun j => []) (fun j => l.n - j.1) ⟨0, Nat.zero_le _, fun k hk => absurd hk (Nat.not_lt_zero k)⟩ ⟨SLe.of_eq rfl, trivial⟩ trivial ?_
  rintro ⟨i, hi, hb⟩
  dsimp only at hi hb ⊢
  refine AW_seq ?_
  refine AW_all good tab0 (tab0_ok _) rfl rfl ?_ ?_
  · repeat' (first | exact trivial | exact rfl | exact (fun _ _ => rfl) | refine And.intro ?_ ?_ | intro _)
  refine AW_seq ?_
  refine AW_cond rfl (fun h1 => ?_) (fun h1 => ?_)
  · first
    | (exfalso; simp_all; done)
    | (
        refine AW_skip ?_
        refine AW_seq ?_
        refine AW_block ?_
        refine AW_seq ?_
        have hlt : i < l.n := by
          have h : (i : Int) < (l.n : Int) := of_decide_eq_true (by assumption)
          omega
        refine AW_all good tab0 (tab0_ok _) rfl rfl ?_ ?_
        · repeat' (first | exact trivial | exact rfl | exact (fun _ _ => rfl) | refine And.intro ?_ ?_ | intro _)
          all_goals omega
        refine AW_seq ?_
        refine AW_all good tab0 (tab0_ok _) rfl rfl ?_ ?_
        · repeat' (first | exact trivial | exact rfl | exact (fun _ _ => rfl) | refine And.intro ?_ ?_ | intro _)
        refine AW_cond rfl (fun h2 => ?_) (fun h2 => ?_)
        · first
          | (exfalso; simp_all; done)
          | (
              refine AW_seq ?_
              refine AW_all good tab0 (tab0_ok _) rfl rfl ?_ ?_
              · repeat' (first | exact trivial | exact rfl | exact (fun _ _ => rfl) | refine And.intro ?_ ?_ | intro _)
              refine AW_ret (bodyQ_ret rfl ?_ (Ends.le rfl ?_ ?_))
              · repeat' (first | exact trivial | exact rfl | exact (fun _ _ => rfl) | refine And.intro ?_ ?_ | intro _)
              · repeat' (first | exact trivial | exact rfl | exact (fun _ _ => rfl) | refine And.intro ?_ ?_ | intro _)
              have heq : (l.at_ i == q) = true := by assumption
              rw [anyB_hit (g := fun i => l.at_ i == q) hlt heq]
              exact SLe.of_eq rfl
          )
        · first
          | (exfalso; simp_all; done)
          | (
              refine AW_skip ?_
              have hne : (l.at_ i == q) = false := by assumption
              refine AW_all good tab0 (tab0_ok _) rfl rfl ?_ ?_
              · repeat' (first | exact trivial | exact rfl | exact (fun _ _ => rfl) | refine And.intro ?_ ?_ | intro _)
              refine loopX_next ⟨i + 1, hlt, fun k hk => ?_⟩ [] rfl rfl ⟨SLe.of_eq (congrArg (fun z => SV.cv (iint z)) (succ_wrap (by omega))), trivial⟩ ⟨SLe.of_eq rfl, SLe.of_eq rfl, SLe.of_eq rfl, trivial⟩ trivial trivial ?_
              · rcases Nat.lt_succ_iff_lt_or_eq.1 hk with h | h
                · exact hb k h
                · rw [h]; exact hne
              show l.n - (i + 1) < l.n - i
              omega
          )
    )
  · first
    | (exfalso; simp_all; done)
    | (
        refine AW_exit ?_
        refine AW_seq ?_
        refine AW_all good tab0 (tab0_ok _) rfl rfl ?_ ?_
        · repeat' (first | exact trivial | exact rfl | exact (fun _ _ => rfl) | refine And.intro ?_ ?_ | intro _)
        refine AW_ret (bodyQ_ret rfl ?_ (Ends.le rfl ?_ ?_))
        · repeat' (first | exact trivial | exact rfl | exact (fun _ _ => rfl) | refine And.intro ?_ ?_ | intro _)
        · repeat' (first | exact trivial | exact rfl | exact (fun _ _ => rfl) | refine And.intro ?_ ?_ | intro _)
        have hend : i = l.n := by
          have h : ¬ (i : Int) < (l.n : Int) := of_decide_eq_false (by assumption)
          omega
        rw [anyB_all (g := fun i => l.at_ i == q) fun k hk => hb k (by omega)]
        exact SLe.of_eq rfl
    )

/-- What was met: the places, the items there, whether all was right. -/
structure T3 where
  met : Sl Int
  l : Sl Item
  ok : Bool
def tC (k : Nat) (t : T3) : CV := .agg [.osl k 1 0 0 t.met.n true, .imm (slI itE t.l), .imm (.val (.bool t.ok))]
def tNo (t : T3) : T3 := ⟨t.met, t.l, false⟩
def rdBad (t : T3) (q : Int) : Bool := bif (bif decide (q < 0) then true else anyB (fun i => t.met.at_ i == q) t.met.n) then true else decide ((t.met.n : Int) > 200)
def bareH (x : Nd) : Nd := ⟨6, x.gen, x.n, x.v, x.s, x.k0, x.k1, 0, 0, 0, 0, 0, 0, 0, 0, 0⟩
def rdBad2 (x : Nd) (least : Item) : Bool := bif !nodeEq x (bareH x) then true else lessI (itmOf x) least
def rdChk (b : Nat) (s : Int) (t : T3) : T3 := bif (IntKind.i64.wrap ((t.met.n : Int) - b) != s) then tNo t else t
def rdAdd (t : T3) (q : Int) (x : Nd) : T3 := ⟨snoc t.met q, withI t.l (itmOf x), t.ok⟩
/-- What Read comes to. -/
def readF (a : Ar) : Nat → T3 → Int → Item → T3
  | 0, t, _, _ => t
  | k + 1, t, r, least => bif (bif r == 0 then true else !t.ok) then t else bif rdBad t (at4 a r) then tNo t else bif rdBad2 (a.nodes.at_ (at4 a r).toNat) least then tNo t else
    readF a k (rdChk t.met.n (a.nodes.at_ (at4 a r).toNat).s (readF a k (rdAdd t (at4 a r) (a.nodes.at_ (at4 a r).toNat)) (a.nodes.at_ (at4 a r).toNat).k0 (itmOf (a.nodes.at_ (at4 a r).toNat)))) (a.nodes.at_ (at4 a r).toNat).k1 least
/-- What is told of rows all the way. -/
def RdOk (t : T3) : Prop := t.met.n ≤ 201 ∧ t.l.n ≤ t.met.n
theorem rdChk_met (b : Nat) (s : Int) (t : T3) : (rdChk b s t).met = t.met ∧ (rdChk b s t).l = t.l := by
  unfold rdChk
  cases (IntKind.i64.wrap ((t.met.n : Int) - b) != s) <;> exact ⟨rfl, rfl⟩
theorem rdBad_n {t : T3} {q : Int} (h : rdBad t q = false) : ¬ q < 0 ∧ t.met.n ≤ 200 := by
  obtain ⟨h1, h2⟩ := bor_f h
  have h2 := of_decide_eq_false h2
  exact ⟨of_decide_eq_false (bor_f h1).1, by omega⟩
theorem readF_ok (a : Ar) : ∀ (k : Nat) (t : T3) (r : Int) (least : Item), RdOk t → RdOk (readF a k t r least) ∧ t.met.n ≤ (readF a k t r least).met.n
  | 0, t, _, _, h => ⟨h, Nat.le_refl _⟩
  | k + 1, t, r, least, h => by
    rw [readF]
    cases h1 : (bif r == 0 then true else !t.ok) with
    | true => exact ⟨h, Nat.le_refl _⟩
    | false =>
      cases h2 : rdBad t (at4 a r) with
      | true => exact ⟨h, Nat.le_refl _⟩
      | false =>
        cases h3 : rdBad2 (a.nodes.at_ (at4 a r).toNat) least with
        | true => exact ⟨h, Nat.le_refl _⟩
        | false =>
          have hn := (rdBad_n h2).2
          have hl := h.2
          obtain ⟨q1, q2⟩ := readF_ok a k (rdAdd t (at4 a r) (a.nodes.at_ (at4 a r).toNat)) (a.nodes.at_ (at4 a r).toNat).k0 (itmOf (a.nodes.at_ (at4 a r).toNat)) ⟨by show t.met.n + 1 ≤ 201; omega, by show t.l.n + 1 ≤ t.met.n + 1; omega⟩
          obtain ⟨e1, e2⟩ := rdChk_met t.met.n (a.nodes.at_ (at4 a r).toNat).s (readF a k (rdAdd t (at4 a r) (a.nodes.at_ (at4 a r).toNat)) (a.nodes.at_ (at4 a r).toNat).k0 (itmOf (a.nodes.at_ (at4 a r).toNat)))
          obtain ⟨q3, q4⟩ := readF_ok a k (rdChk t.met.n (a.nodes.at_ (at4 a r).toNat).s (readF a k (rdAdd t (at4 a r) (a.nodes.at_ (at4 a r).toNat)) (a.nodes.at_ (at4 a r).toNat).k0 (itmOf (a.nodes.at_ (at4 a r).toNat)))) (a.nodes.at_ (at4 a r).toNat).k1 least ⟨by rw [e1]; exact q1.1, by rw [e1, e2]; exact q1.2⟩
          refine ⟨q3, ?_⟩
          rw [e1] at q4
          have q2 : t.met.n + 1 ≤ _ := q2
          exact Nat.le_trans (Nat.le_of_succ_le q2) q4
theorem at4_lt {a : Ar} {r : Int} (h : ¬ at4 a r < 0) : 0 ≤ at4 a r ∧ at4 a r < a.nodes.n := by
  unfold at4 at h ⊢
  cases h1 : atB1 r with
  | true => rw [h1] at h; exact absurd (by decide : (-1 : Int) < 0) h
  | false =>
    rw [h1] at h
    cases h2 : atB2 a r with
    | true => rw [h2] at h; exact absurd (by decide : (-1 : Int) < 0) h
    | false =>
      have hp0 := (is3_rng (gen3_pos (of_decide_eq_false (bor_f h1).2)).1).1
      exact ⟨hp0.1, p3_lt (bor_f (bor_f h2).1).1⟩
def tB (k : Nat) (t : T3) : ABlk := .var 102 [.osl k 1 0 0 t.met.n true, .imm (slI itE t.l), .imm (.val (.bool t.ok))]
noncomputable def tr4 : Tab := tabC2 68 arA rI (fun a r => .cv (iint (at4 a r))) (fun _ _ => True) (tabC2 87 (codSl intE) nI (fun l q => .cv (ibool (anyB (fun i => l.at_ i == q) l.n))) (fun l _ => l.n ≤ 512) (tabC2 21 (codSl itE) itA (fun s x => .cv (.one (.imm (slI itE (withI s x))))) (fun s _ => s.n ≤ 512) (tabC1 52 arA (fun a => .cv (ibool (right4 a))) (fun _ => True) tr3)))
theorem tr4_ok : TabOk Try.prog tr4 := tabC2_ok rfl (fun a r _ => ref4At a r) (tabC2_ok rfl (fun l q h => ref12Has l q h) (tabC2_ok rfl (fun s x h => refWith s x h) (tabC1_ok rfl (fun a _ => ref4Right a) tr3_ok)))
/-- Read on what was met, with less than k to go. -/
def ReadAt (k : Nat) : Prop := ∀ (a : Ar) (t : T3) (r : Int) (least : Item), RdOk t → 202 ≤ t.met.n + k →
  ACall Try.prog 69 [arC a, tC 0 t, u64 r, itC least] (heapOf [bkR 3 intE t.met]) 1 fun x' H' n' => x' = .cv (tC 1 (readF a k t r least)) ∧ H' = updH (heapOf [bkR 3 intE t.met]) (updL 0 [none, some (bkR 3 intE (readF a k t r least).met)]) ∧ n' = 1 + 1
def spRead (f : Ar → T3 → Int → Item → T3) (k : Nat) : Spec := fun a0 Bs => match a0, Bs with
  | [ca, .agg [.osl 0 1 0 0 n true, .imm (.sl s m ex c), .imm (.val (.bool b))], cr, cl], [B] => match arA.dec ca, rI.dec cr, itA.dec cl, decR 3 intE B with
    | some (a, p1), some (r, p2), some (x, p3), some (met, p4) => some (.cv (tC 1 (f a ⟨met, slG itE (.sl s m ex c), b⟩ r x)), [(0, none), (1, some (bkR 3 intE (f a ⟨met, slG itE (.sl s m ex c), b⟩ r x).met))], 1, p1 ∧ (p2 ∧ (p3 ∧ (p4 ∧ (slOk itE (.sl s m ex c) ∧ (n = met.n ∧ (met.n ≤ 201 ∧ (m ≤ met.n ∧ 202 ≤ met.n + k))))))))
    | _, _, _, _ => none
  | _, _ => none
theorem spRead_ok {k : Nat} (h : ReadAt k) : SpecOk Try.prog 69 (spRead (fun a => readF a k) k) := by
  intro a0 Bs r' U n' vc hs hv
  unfold spRead at hs
  split at hs
  · rename_i ca n s m ex c b cr cl B
    split at hs
    · rename_i a p1 r p2 x p3 met p4 d1 d2 d3 d4
      simp only [Option.some.injEq, Prod.mk.injEq] at hs
      obtain ⟨rfl, rfl, rfl, rfl⟩ := hs
      obtain ⟨q1, q2, q3, q4, q5, rfl, q6, q7, q8⟩ := hv
      exact ⟨[arC a, tC 0 ⟨met, slG itE (.sl s m ex c), b⟩, u64 r, itC x], [bkR 3 intE met], TLe.cons (arA.le _ _ _ d1 q1) (TLe.cons (CLe.aggL ⟨CLe.refl _, CLe.imm (slI_le q5), CLe.refl _, trivial⟩) (TLe.cons (rI.le _ _ _ d2 q2) (TLe.cons (itA.le _ _ _ d3 q3) TLe.nil))), ⟨decR_le d4 q4, trivial⟩, h a ⟨met, slG itE (.sl s m ex c), b⟩ r x ⟨q6, q7⟩ q8⟩
    · cases hs
  · cases hs
noncomputable def eRd (k : Nat) : ETab := etC 69 (spRead (fun a => readF a k) k) et0
theorem eRd_ok {k : Nat} (h : ReadAt k) : ETabOk Try.prog (eRd k) := etC_ok rfl (spRead_ok h) (et0_ok _)

set_option maxHeartbeats 2000000 in
theorem read_step (k : Nat) (ih : ReadAt k) (a : Ar) (t : T3) (r : Int) (least : Item) (ho : RdOk t) (hk : 202 ≤ t.met.n + (k + 1)) : ACall Try.prog 69 [arC a, tC 0 t, u64 r, itC least] (heapOf [bkR 3 intE t.met]) 1 fun x' H' n' => x' = .cv (tC 1 (readF a (k + 1) t r least)) ∧ H' = updH (heapOf [bkR 3 intE t.met]) (updL 0 [none, some (bkR 3 intE (readF a (k + 1) t r least).met)]) ∧ n' = 1 + 1 := by
  refine ACall_norm (Bs := [bkR 3 intE t.met]) (cnt := 1) ?_
  change ACall _ _ _ _ 1 _
  refine ACall_body good Try.func69 rfl 117 rfl (by simp) ?_
  have hn512 : t.met.n ≤ 512 := Nat.le_trans ho.1 (by decide)
  have hl512 : t.l.n ≤ 512 := Nat.le_trans ho.2 hn512
  refine AW_seq ?_
  refine AW_all good tr4 (tr4_ok) rfl rfl ?_ ?_
  · repeat' (first | exact trivial | exact rfl | exact (fun _ _ => rfl) | refine And.intro ?_ ?_ | intro _)
  refine AW_seq ?_
  refine AW_seq ?_
  refine AW_all good tr4 (tr4_ok) rfl rfl ?_ ?_
  · repeat' (first | exact trivial | exact rfl | exact (fun _ _ => rfl) | refine And.intro ?_ ?_ | intro _)
    all_goals (first | assumption | (rename_i hg; exact eqf hg))
  refine AW_cond rfl (fun h1 => ?_) (fun h1 => ?_)
  · first
    | (exfalso; simp_all; done)
    | (
        refine AW_seq ?_
        refine AW_all good tr4 (tr4_ok) rfl rfl ?_ ?_
        · repeat' (first | exact trivial | exact rfl | exact (fun _ _ => rfl) | refine And.intro ?_ ?_ | intro _)
        have hm : readF a (k + 1) t r least = t := by
          rw [readF, show (bif r == 0 then true else !t.ok) = true from h1]
          rfl
        refine AW_renew 0 [(8, .cv (.one (.own 4 0 0 0)))] [(4, tB 6 (t)), (6, bkR 3 intE t.met)] rfl ⟨SLe.of_eq rfl, trivial⟩ ⟨⟨rfl, _, rfl, BLe.of_eq rfl⟩, ⟨rfl, _, rfl, BLe.of_eq rfl⟩, trivial⟩ ?_
        refine AW_ret ?_
        refine ⟨_, _, rfl, ?_, [0, 6], rfl, EndsE.all (Us := [none, some (bkR 3 intE (readF a (k + 1) t r least).met)]) rfl rfl rfl ?_ ?_⟩
        · repeat' (first | exact trivial | exact rfl | exact (fun _ _ => rfl) | refine And.intro ?_ ?_ | intro _)
        · rw [hm]
          exact SLe.of_eq rfl
        · exact ⟨⟨_, rfl, by rw [hm]; exact BLe.of_eq rfl⟩, trivial⟩
    )
  · first
    | (exfalso; simp_all; done)
    | (
        refine AW_skip ?_
        refine AW_seq ?_
        refine AW_all good tr4 (tr4_ok) rfl rfl ?_ ?_
        · repeat' (first | exact trivial | exact rfl | exact (fun _ _ => rfl) | refine And.intro ?_ ?_ | intro _)
          all_goals exact slOk_lit
        obtain ⟨q, hq⟩ : ∃ q, at4 a r = q := ⟨_, rfl⟩
        refine AW_slot 9 (y := .cv (iint q)) rfl (SLe.of_eq (by rw [← hq]; rfl)) ?_
        refine AW_seq ?_
        refine AW_seq ?_
        refine AW_all good tr4 (tr4_ok) rfl rfl ?_ ?_
        · repeat' (first | exact trivial | exact rfl | exact (fun _ _ => rfl) | refine And.intro ?_ ?_ | intro _)
          all_goals (first | exact hn512 | omega | exact slOk_lit | assumption | (rename_i hg; exact eqf hg))
        refine AW_cond rfl (fun h2 => ?_) (fun h2 => ?_)
        · first
          | (exfalso; simp_all; done)
          | (
              refine AW_seq ?_
              refine AW_all good tr4 (tr4_ok) rfl rfl ?_ ?_
              · repeat' (first | exact trivial | exact rfl | exact (fun _ _ => rfl) | refine And.intro ?_ ?_ | intro _)
              refine AW_seq ?_
              refine AW_all good tr4 (tr4_ok) rfl rfl ?_ ?_
              · repeat' (first | exact trivial | exact rfl | exact (fun _ _ => rfl) | refine And.intro ?_ ?_ | intro _)
              have hm : readF a (k + 1) t r least = tNo t := by
                rw [readF, show (bif r == 0 then true else !t.ok) = false from h1, hq, show rdBad t q = true from h2]
                rfl
              refine AW_renew 0 [(8, .cv (.one (.own 4 0 0 0)))] [(4, tB 7 (tNo t)), (7, bkR 3 intE t.met)] rfl ⟨SLe.of_eq rfl, trivial⟩ ⟨⟨rfl, _, rfl, BLe.of_eq rfl⟩, ⟨rfl, _, rfl, BLe.of_eq rfl⟩, trivial⟩ ?_
              refine AW_ret ?_
              refine ⟨_, _, rfl, ?_, [0, 7], rfl, EndsE.all (Us := [none, some (bkR 3 intE (readF a (k + 1) t r least).met)]) rfl rfl rfl ?_ ?_⟩
              · repeat' (first | exact trivial | exact rfl | exact (fun _ _ => rfl) | refine And.intro ?_ ?_ | intro _)
              · rw [hm]
                exact SLe.of_eq rfl
              · exact ⟨⟨_, rfl, by rw [hm]; exact BLe.of_eq rfl⟩, trivial⟩
          )
        · first
          | (exfalso; simp_all; done)
          | (
              refine AW_skip ?_
              refine AW_seq ?_
              have hb1 : rdBad t q = false := h2
              obtain ⟨ha1, ha2⟩ := at4_lt (a := a) (r := r) (by rw [hq]; exact (rdBad_n hb1).1)
              rw [hq] at ha1 ha2
              refine AW_all good tr4 (tr4_ok) rfl rfl ?_ ?_
              · repeat' (first | exact trivial | exact rfl | exact (fun _ _ => rfl) | refine And.intro ?_ ?_ | intro _)
                all_goals (first | exact ha1 | exact ha2)
              obtain ⟨X, hX⟩ : ∃ X, a.nodes.at_ q.toNat = X := ⟨_, rfl⟩
              refine AW_blk 5 rfl (B := bkV 91 ndE X) (BLe.of_eq (by rw [← hX]; rfl)) ?_
              refine AW_seq ?_
              refine AW_all good tr4 (tr4_ok) rfl rfl ?_ ?_
              · repeat' (first | exact trivial | exact rfl | exact (fun _ _ => rfl) | refine And.intro ?_ ?_ | intro _)
              refine AW_blk 7 rfl (B := bkV 54 itE (itmOf X)) (BLe.of_eq rfl) ?_
              refine AW_seq ?_
              refine AW_all good tr4 (tr4_ok) rfl rfl ?_ ?_
              · repeat' (first | exact trivial | exact rfl | exact (fun _ _ => rfl) | refine And.intro ?_ ?_ | intro _)
              refine AW_seq ?_
              refine AW_all good tr4 (tr4_ok) rfl rfl ?_ ?_
              · repeat' (first | exact trivial | exact rfl | exact (fun _ _ => rfl) | refine And.intro ?_ ?_ | intro _)
                all_goals omega
              refine AW_seq ?_
              refine AW_all good tr4 (tr4_ok) rfl rfl ?_ ?_
              · repeat' (first | exact trivial | exact rfl | exact (fun _ _ => rfl) | refine And.intro ?_ ?_ | intro _)
                all_goals omega
              refine AW_blk 9 rfl (B := bkV 91 ndE (bareH X)) (BLe.of_eq rfl) ?_
              refine AW_seq ?_
              refine AW_seq ?_
              refine AW_all good tr4 (tr4_ok) rfl rfl ?_ ?_
              · repeat' (first | exact trivial | exact rfl | exact (fun _ _ => rfl) | refine And.intro ?_ ?_ | intro _)
                all_goals (first | assumption | (rename_i hg; exact eqf hg))
              refine AW_cond rfl (fun h3 => ?_) (fun h3 => ?_)
              · first
                | (exfalso; simp_all; done)
                | (
                    refine AW_seq ?_
                    refine AW_all good tr4 (tr4_ok) rfl rfl ?_ ?_
                    · repeat' (first | exact trivial | exact rfl | exact (fun _ _ => rfl) | refine And.intro ?_ ?_ | intro _)
                    refine AW_seq ?_
                    refine AW_all good tr4 (tr4_ok) rfl rfl ?_ ?_
                    · repeat' (first | exact trivial | exact rfl | exact (fun _ _ => rfl) | refine And.intro ?_ ?_ | intro _)
                    have hm : readF a (k + 1) t r least = tNo t := by
                      rw [readF, show (bif r == 0 then true else !t.ok) = false from h1, hq, hb1, hX, show rdBad2 X least = true from h3]
                      rfl
                    refine AW_renew 0 [(8, .cv (.one (.own 4 0 0 0)))] [(4, tB 15 (tNo t)), (15, bkR 3 intE t.met)] rfl ⟨SLe.of_eq rfl, trivial⟩ ⟨⟨rfl, _, rfl, BLe.of_eq rfl⟩, ⟨rfl, _, rfl, BLe.of_eq rfl⟩, trivial⟩ ?_
                    refine AW_ret ?_
                    refine ⟨_, _, rfl, ?_, [0, 15], rfl, EndsE.all (Us := [none, some (bkR 3 intE (readF a (k + 1) t r least).met)]) rfl rfl rfl ?_ ?_⟩
                    · repeat' (first | exact trivial | exact rfl | exact (fun _ _ => rfl) | refine And.intro ?_ ?_ | intro _)
                    · rw [hm]
                      exact SLe.of_eq rfl
                    · exact ⟨⟨_, rfl, by rw [hm]; exact BLe.of_eq rfl⟩, trivial⟩
                )
              · first
                | (exfalso; simp_all; done)
                | (
                    refine AW_skip ?_
                    refine AW_seq ?_
                    refine AW_all good tr4 (tr4_ok) rfl rfl ?_ ?_
                    · repeat' (first | exact trivial | exact rfl | exact (fun _ _ => rfl) | refine And.intro ?_ ?_ | intro _)
                    refine AW_seq ?_
                    refine AW_all good tr4 (tr4_ok) rfl rfl ?_ ?_
                    · repeat' (first | exact trivial | exact rfl | exact (fun _ _ => rfl) | refine And.intro ?_ ?_ | intro _)
                      all_goals (first | omega | (unfold maxLen; omega) | exact bytes_ok (by omega) (by decide))
                    refine AW_seq ?_
                    refine AW_all good tr4 (tr4_ok) rfl rfl ?_ ?_
                    · repeat' (first | exact trivial | exact rfl | exact (fun _ _ => rfl) | refine And.intro ?_ ?_ | intro _)
                      all_goals (first | exact hl512 | exact slOk_lit)
                    refine AW_blk 14 rfl (B := bkR 3 intE (rdAdd t q X).met) (BLe.rows rfl fun i j hi hj => ILe.of_eq ?_) ?_
                    · obtain rfl : j = 0 := by
                        have : j < 1 := hj
                        omega
                      exact snoc_row hi
                    refine AW_blk 2 rfl (B := tB 14 (rdAdd t q X)) (BLe.of_eq rfl) ?_
                    have hn2 := (rdBad_n hb1).2
                    have v1 : (rdAdd t q X).met.n ≤ 201 := by show t.met.n + 1 ≤ 201; omega
                    have v2 : (rdAdd t q X).l.n ≤ (rdAdd t q X).met.n := by have := ho.2; show t.l.n + 1 ≤ t.met.n + 1; omega
                    have v3 : 202 ≤ (rdAdd t q X).met.n + k := by show 202 ≤ t.met.n + 1 + k; omega
                    refine AW_seq ?_
                    refine AW_eff good tr4 (tr4_ok) (eRd k) (eRd_ok ih) [] rfl rfl ?_ ?_
                    · repeat' (first | exact trivial | exact rfl | exact (fun _ _ => rfl) | refine And.intro ?_ ?_ | intro _)
                      all_goals (first | exact v1 | exact v2 | exact v3 | omega | exact slOk_lit)
                    obtain ⟨t2, ht2⟩ : ∃ t2, readF a k (rdAdd t q X) X.k0 (itmOf X) = t2 := ⟨_, rfl⟩
                    have ho2 := readF_ok a k (rdAdd t q X) X.k0 (itmOf X) ⟨v1, v2⟩
                    rw [ht2] at ho2
                    refine AW_blk 17 rfl (B := bkR 3 intE t2.met) (BLe.of_eq (by rw [← ht2]; rfl)) ?_
                    refine AW_blk 2 rfl (B := tB 17 t2) (BLe.of_eq (by rw [← ht2]; rfl)) ?_
                    have v4 : t2.met.n ≤ 201 := ho2.1.1
                    have v5 : t2.l.n ≤ t2.met.n := ho2.1.2
                    have v6 : 202 ≤ t2.met.n + k := Nat.le_trans v3 (Nat.add_le_add_right ho2.2 k)
                    refine AW_seq ?_
                    refine AW_seq ?_
                    refine AW_all good tr4 (tr4_ok) rfl rfl ?_ ?_
                    · repeat' (first | exact trivial | exact rfl | exact (fun _ _ => rfl) | refine And.intro ?_ ?_ | intro _)
                    refine AW_cond rfl (fun h4 => ?_) (fun h4 => ?_)
                    · first
                      | (exfalso; simp_all; done)
                      | (
                          refine AW_all good tr4 (tr4_ok) rfl rfl ?_ ?_
                          · repeat' (first | exact trivial | exact rfl | exact (fun _ _ => rfl) | refine And.intro ?_ ?_ | intro _)
                          refine AW_seq ?_
                          refine AW_eff good tr4 (tr4_ok) (eRd k) (eRd_ok ih) [] rfl rfl ?_ ?_
                          · repeat' (first | exact trivial | exact rfl | exact (fun _ _ => rfl) | refine And.intro ?_ ?_ | intro _)
                            all_goals (first | exact v4 | exact v5 | exact v6 | omega | exact slOk_lit)
                          have hm : readF a (k + 1) t r least = readF a k (tNo t2) X.k1 least := by
                            rw [readF, show (bif r == 0 then true else !t.ok) = false from h1, hq, hb1, hX, show rdBad2 X least = false from h3, ht2]
                            show readF a k (rdChk t.met.n X.s t2) X.k1 least = _
                            unfold rdChk
                            rw [show (IntKind.i64.wrap ((t2.met.n : Int) - t.met.n) != X.s) = true from h4]
                            rfl
                          refine AW_ret ?_
                          refine ⟨_, _, rfl, ?_, [0, 20], rfl, EndsE.all (Us := [none, some (bkR 3 intE (readF a (k + 1) t r least).met)]) rfl rfl rfl ?_ ?_⟩
                          · repeat' (first | exact trivial | exact rfl | exact (fun _ _ => rfl) | refine And.intro ?_ ?_ | intro _)
                          · rw [hm]
                            exact SLe.of_eq rfl
                          · exact ⟨⟨_, rfl, by rw [hm]; exact BLe.of_eq rfl⟩, trivial⟩
                      )
                    · first
                      | (exfalso; simp_all; done)
                      | (
                          refine AW_skip ?_
                          refine AW_seq ?_
                          refine AW_eff good tr4 (tr4_ok) (eRd k) (eRd_ok ih) [] rfl rfl ?_ ?_
                          · repeat' (first | exact trivial | exact rfl | exact (fun _ _ => rfl) | refine And.intro ?_ ?_ | intro _)
                            all_goals (first | exact v4 | exact v5 | exact v6 | omega | exact slOk_lit)
                          have hm : readF a (k + 1) t r least = readF a k t2 X.k1 least := by
                            rw [readF, show (bif r == 0 then true else !t.ok) = false from h1, hq, hb1, hX, show rdBad2 X least = false from h3, ht2]
                            show readF a k (rdChk t.met.n X.s t2) X.k1 least = _
                            unfold rdChk
                            rw [show (IntKind.i64.wrap ((t2.met.n : Int) - t.met.n) != X.s) = false from h4]
                            rfl
                          refine AW_ret ?_
                          refine ⟨_, _, rfl, ?_, [0, 19], rfl, EndsE.all (Us := [none, some (bkR 3 intE (readF a (k + 1) t r least).met)]) rfl rfl rfl ?_ ?_⟩
                          · repeat' (first | exact trivial | exact rfl | exact (fun _ _ => rfl) | refine And.intro ?_ ?_ | intro _)
                          · rw [hm]
                            exact SLe.of_eq rfl
                          · exact ⟨⟨_, rfl, by rw [hm]; exact BLe.of_eq rfl⟩, trivial⟩
                      )
                )
          )
    )

theorem readAt : ∀ k, ReadAt k
  | 0 => fun _ t _ _ h hk => absurd hk (by have := h.1; omega)
  | k + 1 => fun a t r least h hk => read_step k (readAt k) a t r least h hk

end Go.Proofs.Ytadgjhbhghhbgaa.Abs

/-
  THE REFERENCES burgeonref12: Top, Items.
-/
namespace Go.Proofs.Ytadgjhbhghhbgaa.Abs
open Go
set_option maxRecDepth 10000

def topB (a : Ar) (q : Int) : Bool := bif decide (q < 0) then true else ((a.nodes.at_ q.toNat).k1 != 0)
/-- What Top comes to. -/
def topF (k : Nat) (a : Ar) (t : T3) (r : Int) : T3 := bif r == 0 then t else bif topB a (at4 a r) then tNo t else readF a k t r (itmOf (a.nodes.at_ (at4 a r).toNat))
def t30 : T3 := ⟨⟨0, fun _ => 0⟩, ⟨0, fun _ => it0⟩, true⟩
theorem t30_ok : RdOk t30 := ⟨Nat.zero_le _, Nat.le_refl _⟩
theorem topF_ok (k : Nat) (a : Ar) (t : T3) (r : Int) (h : RdOk t) : RdOk (topF k a t r) := by
  unfold topF
  cases r == 0 with
  | true => exact h
  | false =>
    cases topB a (at4 a r) with
    | true => exact h
    | false => exact (readF_ok a k t r _ h).1

theorem at4_q {a : Ar} {r q : Int} (hq : at4 a r = q) (h : decide (q < 0) = false) : 0 ≤ q ∧ q < a.nodes.n := by
  subst hq
  exact at4_lt (of_decide_eq_false h)

set_option maxHeartbeats 2000000 in
theorem topOwn (k : Nat) (hk0 : 202 ≤ k) (a : Ar) (t : T3) (r : Int) (ho : RdOk t) : ACall Try.prog 53 [arC a, tC 0 t, u64 r] (heapOf [bkR 3 intE t.met]) 1 fun x' H' n' => x' = .cv (tC 1 (topF k a t r)) ∧ H' = updH (heapOf [bkR 3 intE t.met]) (updL 0 [none, some (bkR 3 intE (topF k a t r).met)]) ∧ n' = 1 + 1 := by
  refine ACall_norm (Bs := [bkR 3 intE t.met]) (cnt := 1) ?_
  change ACall _ _ _ _ 1 _
  refine ACall_body good Try.func53 rfl 45 rfl (by simp) ?_
  skip
  refine AW_seq ?_
  refine AW_all good tr4 (tr4_ok) rfl rfl ?_ ?_
  · repeat' (first | exact trivial | exact rfl | exact (fun _ _ => rfl) | refine And.intro ?_ ?_ | intro _)
  refine AW_seq ?_
  refine AW_all good tr4 (tr4_ok) rfl rfl ?_ ?_
  · repeat' (first | exact trivial | exact rfl | exact (fun _ _ => rfl) | refine And.intro ?_ ?_ | intro _)
    all_goals exact slOk_lit
  obtain ⟨q, hq⟩ : ∃ q, at4 a r = q := ⟨_, rfl⟩
  refine AW_slot 7 (y := .cv (iint q)) rfl (SLe.of_eq (by rw [← hq]; rfl)) ?_
  refine AW_seq ?_
  refine AW_seq ?_
  refine AW_all good tr4 (tr4_ok) rfl rfl ?_ ?_
  · repeat' (first | exact trivial | exact rfl | exact (fun _ _ => rfl) | refine And.intro ?_ ?_ | intro _)
  refine AW_cond rfl (fun h1 => ?_) (fun h1 => ?_)
  · first
    | (exfalso; simp_all; done)
    | (
        refine AW_seq ?_
        refine AW_all good tr4 (tr4_ok) rfl rfl ?_ ?_
        · repeat' (first | exact trivial | exact rfl | exact (fun _ _ => rfl) | refine And.intro ?_ ?_ | intro _)
        have hm : topF k a t r = t := by
          unfold topF
          rw [show (r == 0) = true from h1]
          rfl
        refine AW_renew 0 [(6, .cv (.one (.own 3 0 0 0)))] [(3, tB 5 (t)), (5, bkR 3 intE t.met)] rfl ⟨SLe.of_eq rfl, trivial⟩ ⟨⟨rfl, _, rfl, BLe.of_eq rfl⟩, ⟨rfl, _, rfl, BLe.of_eq rfl⟩, trivial⟩ ?_
        refine AW_ret ?_
        refine ⟨_, _, rfl, ?_, [0, 5], rfl, EndsE.all (Us := [none, some (bkR 3 intE (topF k a t r).met)]) rfl rfl rfl ?_ ?_⟩
        · repeat' (first | exact trivial | exact rfl | exact (fun _ _ => rfl) | refine And.intro ?_ ?_ | intro _)
        · rw [hm]
          exact SLe.of_eq rfl
        · exact ⟨⟨_, rfl, by rw [hm]; exact BLe.of_eq rfl⟩, trivial⟩
    )
  · first
    | (exfalso; simp_all; done)
    | (
        refine AW_skip ?_
        refine AW_seq ?_
        refine AW_seq ?_
        refine AW_all good tr4 (tr4_ok) rfl rfl ?_ ?_
        · repeat' (first | exact trivial | exact rfl | exact (fun _ _ => rfl) | refine And.intro ?_ ?_ | intro _)
          all_goals (first | (rename_i hg; exact (at4_q hq (beq_ff hg)).1) | (rename_i hg; exact (at4_q hq (beq_ff hg)).2) | omega | assumption | (rename_i hg; exact eqf hg))
        refine AW_cond rfl (fun h2 => ?_) (fun h2 => ?_)
        · first
          | (exfalso; simp_all; done)
          | (
              refine AW_seq ?_
              refine AW_all good tr4 (tr4_ok) rfl rfl ?_ ?_
              · repeat' (first | exact trivial | exact rfl | exact (fun _ _ => rfl) | refine And.intro ?_ ?_ | intro _)
              refine AW_seq ?_
              refine AW_all good tr4 (tr4_ok) rfl rfl ?_ ?_
              · repeat' (first | exact trivial | exact rfl | exact (fun _ _ => rfl) | refine And.intro ?_ ?_ | intro _)
              have hm : topF k a t r = tNo t := by
                unfold topF
                rw [show (r == 0) = false from h1, hq, show topB a q = true from h2]
                rfl
              refine AW_renew 0 [(6, .cv (.one (.own 3 0 0 0)))] [(3, tB 6 (tNo t)), (6, bkR 3 intE t.met)] rfl ⟨SLe.of_eq rfl, trivial⟩ ⟨⟨rfl, _, rfl, BLe.of_eq rfl⟩, ⟨rfl, _, rfl, BLe.of_eq rfl⟩, trivial⟩ ?_
              refine AW_ret ?_
              refine ⟨_, _, rfl, ?_, [0, 6], rfl, EndsE.all (Us := [none, some (bkR 3 intE (topF k a t r).met)]) rfl rfl rfl ?_ ?_⟩
              · repeat' (first | exact trivial | exact rfl | exact (fun _ _ => rfl) | refine And.intro ?_ ?_ | intro _)
              · rw [hm]
                exact SLe.of_eq rfl
              · exact ⟨⟨_, rfl, by rw [hm]; exact BLe.of_eq rfl⟩, trivial⟩
          )
        · first
          | (exfalso; simp_all; done)
          | (
              refine AW_skip ?_
              refine AW_seq ?_
              have hb : topB a q = false := h2
              obtain ⟨ha1, ha2⟩ := at4_lt (a := a) (r := r) (by rw [hq]; exact of_decide_eq_false (bor_f hb).1)
              rw [hq] at ha1 ha2
              have hk : 202 ≤ t.met.n + k := Nat.le_trans hk0 (Nat.le_add_left _ _)
              refine AW_drwG good rfl tr4 (tr4_ok) (eRd k) (eRd_ok (readAt k)) [] [0, 0, 0, 0, 8, 0, 56, 120, 248, 0, 512, 0, 3584, 7680, 15872, 32760, 65535, 131071] [false, false, false, false, false, false, false, false, false, false, false, false, false, false, false, false, true, true] (by rfl) (by rfl) rfl (by rfl) (by rfl) ?_ ?_ ?_
              · repeat' (first | exact trivial | exact rfl | exact (fun _ _ => rfl) | refine And.intro ?_ ?_ | intro _)
                all_goals (first | exact ho.1 | exact ho.2 | exact hk | exact ha1 | exact ha2 | exact slOk_lit)
              · repeat' (first | refine And.intro ?_ ?_ | exact trivial | exact rfl | intro _)
              have hm : topF k a t r = readF a k t r (itmOf (a.nodes.at_ q.toNat)) := by
                unfold topF
                rw [show (r == 0) = false from h1, hq, hb]
                rfl
              refine AW_ret ?_
              refine ⟨_, _, rfl, ?_, [0, 4], rfl, EndsE.all (Us := [none, some (bkR 3 intE (topF k a t r).met)]) rfl rfl rfl ?_ ?_⟩
              · repeat' (first | exact trivial | exact rfl | exact (fun _ _ => rfl) | refine And.intro ?_ ?_ | intro _)
              · rw [hm]
                exact SLe.of_eq rfl
              · exact ⟨⟨_, rfl, by rw [hm]; exact BLe.of_eq rfl⟩, trivial⟩
          )
    )

set_option maxHeartbeats 2000000 in
theorem topNil (k : Nat) (hk0 : 202 ≤ k) (a : Ar) (t : T3) (ht : t30 = t) (c1 c2 : Nat → Nat → IV) (r : Int) : ACall Try.prog 53 [arC a, .agg [.imm (.sl 0 0 true c1), .imm (.sl 0 0 true c2), .imm (.val (.bool true))], u64 r] (heapOf []) 0 fun x' H' n' => x' = .cv (tC 0 (topF k a t r)) ∧ H' = updH (heapOf []) (updL 0 [some (bkR 3 intE (topF k a t r).met)]) ∧ n' = 0 + 1 := by
  refine ACall_norm (Bs := []) (cnt := 1) ?_
  change ACall _ _ _ _ 0 _
  refine ACall_body good Try.func53 rfl 45 rfl (by simp) ?_
  have ho : RdOk t := by rw [← ht]; exact t30_ok
  refine AW_absent 3 1 (fun _ _ => .val (.int .i64 0)) ?_
  refine AW_blk 0 rfl (B := bkR 3 intE t.met) (BLe.rows (by rw [← ht]; rfl) fun i j hi _ => absurd hi (Nat.not_lt_zero i)) ?_
  refine AW_slot 1 (y := .cv (tC 0 t)) rfl (SLe.cv (by rw [← ht]; exact CLe.aggL ⟨CLe.empty, CLe.imm (ILe.sl rfl (by simp) (.inl rfl)), CLe.refl _, trivial⟩)) ?_
  refine AW_seq ?_
  refine AW_all good tr4 (tr4_ok) rfl rfl ?_ ?_
  · repeat' (first | exact trivial | exact rfl | exact (fun _ _ => rfl) | refine And.intro ?_ ?_ | intro _)
  refine AW_seq ?_
  refine AW_all good tr4 (tr4_ok) rfl rfl ?_ ?_
  · repeat' (first | exact trivial | exact rfl | exact (fun _ _ => rfl) | refine And.intro ?_ ?_ | intro _)
    all_goals exact slOk_lit
  obtain ⟨q, hq⟩ : ∃ q, at4 a r = q := ⟨_, rfl⟩
  refine AW_slot 7 (y := .cv (iint q)) rfl (SLe.of_eq (by rw [← hq]; rfl)) ?_
  refine AW_seq ?_
  refine AW_seq ?_
  refine AW_all good tr4 (tr4_ok) rfl rfl ?_ ?_
  · repeat' (first | exact trivial | exact rfl | exact (fun _ _ => rfl) | refine And.intro ?_ ?_ | intro _)
  refine AW_cond rfl (fun h1 => ?_) (fun h1 => ?_)
  · first
    | (exfalso; simp_all; done)
    | (
        refine AW_seq ?_
        refine AW_all good tr4 (tr4_ok) rfl rfl ?_ ?_
        · repeat' (first | exact trivial | exact rfl | exact (fun _ _ => rfl) | refine And.intro ?_ ?_ | intro _)
        have hm : topF k a t r = t := by
          unfold topF
          rw [show (r == 0) = true from h1]
          rfl
        refine AW_ret ?_
        refine ⟨_, _, rfl, ?_, [0], rfl, EndsE.all (Us := [some (bkR 3 intE (topF k a t r).met)]) rfl rfl rfl ?_ ?_⟩
        · repeat' (first | exact trivial | exact rfl | exact (fun _ _ => rfl) | refine And.intro ?_ ?_ | intro _)
        · rw [hm]
          exact SLe.of_eq rfl
        · exact ⟨⟨_, rfl, by rw [hm]; exact BLe.of_eq rfl⟩, trivial⟩
    )
  · first
    | (exfalso; simp_all; done)
    | (
        refine AW_skip ?_
        refine AW_seq ?_
        refine AW_seq ?_
        refine AW_all good tr4 (tr4_ok) rfl rfl ?_ ?_
        · repeat' (first | exact trivial | exact rfl | exact (fun _ _ => rfl) | refine And.intro ?_ ?_ | intro _)
          all_goals (first | (rename_i hg; exact (at4_q hq (beq_ff hg)).1) | (rename_i hg; exact (at4_q hq (beq_ff hg)).2) | omega | assumption | (rename_i hg; exact eqf hg))
        refine AW_cond rfl (fun h2 => ?_) (fun h2 => ?_)
        · first
          | (exfalso; simp_all; done)
          | (
              refine AW_seq ?_
              refine AW_all good tr4 (tr4_ok) rfl rfl ?_ ?_
              · repeat' (first | exact trivial | exact rfl | exact (fun _ _ => rfl) | refine And.intro ?_ ?_ | intro _)
              refine AW_seq ?_
              refine AW_all good tr4 (tr4_ok) rfl rfl ?_ ?_
              · repeat' (first | exact trivial | exact rfl | exact (fun _ _ => rfl) | refine And.intro ?_ ?_ | intro _)
              have hm : topF k a t r = tNo t := by
                unfold topF
                rw [show (r == 0) = false from h1, hq, show topB a q = true from h2]
                rfl
              refine AW_ret ?_
              refine ⟨_, _, rfl, ?_, [0], rfl, EndsE.all (Us := [some (bkR 3 intE (topF k a t r).met)]) rfl rfl rfl ?_ ?_⟩
              · repeat' (first | exact trivial | exact rfl | exact (fun _ _ => rfl) | refine And.intro ?_ ?_ | intro _)
              · rw [hm]
                exact SLe.of_eq rfl
              · exact ⟨⟨_, rfl, by rw [hm]; exact BLe.of_eq rfl⟩, trivial⟩
          )
        · first
          | (exfalso; simp_all; done)
          | (
              refine AW_skip ?_
              refine AW_seq ?_
              have hb : topB a q = false := h2
              obtain ⟨ha1, ha2⟩ := at4_lt (a := a) (r := r) (by rw [hq]; exact of_decide_eq_false (bor_f hb).1)
              rw [hq] at ha1 ha2
              have hk : 202 ≤ t.met.n + k := Nat.le_trans hk0 (Nat.le_add_left _ _)
              refine AW_drwG good rfl tr4 (tr4_ok) (eRd k) (eRd_ok (readAt k)) [] [0, 0, 0, 0, 8, 0, 56, 120, 248, 0, 512, 0, 3584, 7680, 15872, 32760, 65535, 131071] [false, false, false, false, false, false, false, false, false, false, false, false, false, false, false, false, true, true] (by rfl) (by rfl) rfl (by rfl) (by rfl) ?_ ?_ ?_
              · repeat' (first | exact trivial | exact rfl | exact (fun _ _ => rfl) | refine And.intro ?_ ?_ | intro _)
                all_goals (first | exact ho.1 | exact ho.2 | exact hk | exact ha1 | exact ha2 | exact slOk_lit)
              · repeat' (first | refine And.intro ?_ ?_ | exact trivial | exact rfl | intro _)
              have hm : topF k a t r = readF a k t r (itmOf (a.nodes.at_ q.toNat)) := by
                unfold topF
                rw [show (r == 0) = false from h1, hq, hb]
                rfl
              refine AW_ret ?_
              refine ⟨_, _, rfl, ?_, [4], rfl, EndsE.all (Us := [some (bkR 3 intE (topF k a t r).met)]) rfl rfl rfl ?_ ?_⟩
              · repeat' (first | exact trivial | exact rfl | exact (fun _ _ => rfl) | refine And.intro ?_ ?_ | intro _)
              · rw [hm]
                exact SLe.of_eq rfl
              · exact ⟨⟨_, rfl, by rw [hm]; exact BLe.of_eq rfl⟩, trivial⟩
          )
    )

end Go.Proofs.Ytadgjhbhghhbgaa.Abs

/-
  THE REFERENCE burgeonref12.Items.
-/
namespace Go.Proofs.Ytadgjhbhghhbgaa.Abs
open Go
set_option maxRecDepth 10000

def spTop (f : Ar → T3 → Int → T3) : Spec := fun a0 Bs => match a0, Bs with
  | [ca, .agg [.osl 0 1 0 0 n true, .imm (.sl s m ex c), .imm (.val (.bool b))], cr], [B] => match arA.dec ca, rI.dec cr, decR 3 intE B with
    | some (a, p1), some (r, p2), some (met, p4) => some (.cv (tC 1 (f a ⟨met, slG itE (.sl s m ex c), b⟩ r)), [(0, none), (1, some (bkR 3 intE (f a ⟨met, slG itE (.sl s m ex c), b⟩ r).met))], 1, p1 ∧ (p2 ∧ (p4 ∧ (slOk itE (.sl s m ex c) ∧ (n = met.n ∧ (met.n ≤ 201 ∧ m ≤ met.n))))))
    | _, _, _ => none
  | [ca, .agg [.imm (.sl 0 0 true _), .imm (.sl 0 0 true _), .imm (.val (.bool true))], cr], [] => match arA.dec ca, rI.dec cr with
    | some (a, p1), some (r, p2) => some (.cv (tC 0 (f a t30 r)), [(0, some (bkR 3 intE (f a t30 r).met))], 1, p1 ∧ p2)
    | _, _ => none
  | _, _ => none
theorem spTop_ok {k : Nat} (hk : 202 ≤ k) : SpecOk Try.prog 53 (spTop (topF k)) := by
  intro a0 Bs r' U n' vc hs hv
  unfold spTop at hs
  split at hs
  · rename_i ca n s m ex c b cr B
    split at hs
    · rename_i a p1 r p2 met p4 d1 d2 d4
      simp only [Option.some.injEq, Prod.mk.injEq] at hs
      obtain ⟨rfl, rfl, rfl, rfl⟩ := hs
      obtain ⟨q1, q2, q4, q5, rfl, q6, q7⟩ := hv
      exact ⟨[arC a, tC 0 ⟨met, slG itE (.sl s m ex c), b⟩, u64 r], [bkR 3 intE met], TLe.cons (arA.le _ _ _ d1 q1) (TLe.cons (CLe.aggL ⟨CLe.refl _, CLe.imm (slI_le q5), CLe.refl _, trivial⟩) (TLe.cons (rI.le _ _ _ d2 q2) TLe.nil)), ⟨decR_le d4 q4, trivial⟩, topOwn k hk a ⟨met, slG itE (.sl s m ex c), b⟩ r ⟨q6, q7⟩⟩
    · cases hs
  · rename_i ca c1 c2 cr
    split at hs
    · rename_i a p1 r p2 d1 d2
      simp only [Option.some.injEq, Prod.mk.injEq] at hs
      obtain ⟨rfl, rfl, rfl, rfl⟩ := hs
      obtain ⟨q1, q2⟩ := hv
      exact ⟨[arC a, .agg [.imm (.sl 0 0 true c1), .imm (.sl 0 0 true c2), .imm (.val (.bool true))], u64 r], [], TLe.cons (arA.le _ _ _ d1 q1) (TLe.cons (CLe.refl _) (TLe.cons (rI.le _ _ _ d2 q2) TLe.nil)), trivial, topNil k hk a t30 rfl c1 c2 r⟩
    · cases hs
  · cases hs
def eTp (k : Nat) : ETab := etC 53 (spTop (topF k)) et0
theorem eTp_ok {k : Nat} (hk : 202 ≤ k) : ETabOk Try.prog (eTp k) := etC_ok rfl (spTop_ok hk) (et0_ok _)
/-- A reference's items, if it is a heap's. -/
def itmsL (k : Nat) (a : Ar) (r : Int) : Sl Item := bif right4 a then (topF k a t30 r).l else ⟨0, fun _ => it0⟩
def itmsB (k : Nat) (a : Ar) (r : Int) : Bool := bif right4 a then (bif (topF k a t30 r).ok then decide (((topF k a t30 r).l.n : Int) ≤ 200) else false) else false

set_option maxHeartbeats 1000000 in
theorem ref12Items (k : Nat) (hk : 202 ≤ k) (a : Ar) (r : Int) : PCall Try.prog 23 [arC a, u64 r] (.tup [.one (.imm (slI itE (itmsL k a r))), ibool (itmsB k a r)]) := by
  refine PCall_of (ACall_body good Try.func23 rfl 24 rfl (by simp) ?_)
  refine AW_seq ?_
  refine AW_all good tr4 (tr4_ok) rfl rfl ?_ ?_
  · repeat' (first | exact trivial | exact rfl | exact (fun _ _ => rfl) | refine And.intro ?_ ?_ | intro _)
  refine AW_seq ?_
  refine AW_seq ?_
  refine AW_all good tr4 (tr4_ok) rfl rfl ?_ ?_
  · repeat' (first | exact trivial | exact rfl | exact (fun _ _ => rfl) | refine And.intro ?_ ?_ | intro _)
    all_goals exact slOk_lit
  refine AW_cond rfl (fun h1 => ?_) (fun h1 => ?_)
  · first
    | (exfalso; simp_all; done)
    | (
        refine AW_seq ?_
        refine AW_all good tr4 (tr4_ok) rfl rfl ?_ ?_
        · repeat' (first | exact trivial | exact rfl | exact (fun _ _ => rfl) | refine And.intro ?_ ?_ | intro _)
        refine AW_ret (bodyQ_ret rfl ?_ (Ends.le rfl ?_ ?_))
        · repeat' (first | exact trivial | exact rfl | exact (fun _ _ => rfl) | refine And.intro ?_ ?_ | intro _)
        · repeat' (first | exact trivial | exact rfl | exact (fun _ _ => rfl) | refine And.intro ?_ ?_ | intro _)
        have h : right4 a = false := bnot_t h1
        unfold itmsL itmsB
        rw [h]
        exact SLe.pair (CLe.imm (ILe.sl rfl (by simp) (.inl rfl))) (CLe.refl _)
    )
  · first
    | (exfalso; simp_all; done)
    | (
        refine AW_skip ?_
        refine AW_seq ?_
        refine AW_eff good tr4 (tr4_ok) (eTp k) (eTp_ok hk) [] rfl rfl ?_ ?_
        · repeat' (first | exact trivial | exact rfl | exact (fun _ _ => rfl) | refine And.intro ?_ ?_ | intro _)
          all_goals exact slOk_lit
        obtain ⟨t, ht⟩ : ∃ t, topF k a t30 r = t := ⟨_, rfl⟩
        refine AW_blk 1 rfl (B := bkR 3 intE t.met) (BLe.of_eq (by rw [← ht]; rfl)) ?_
        refine AW_blk 2 rfl (B := tB 1 t) (BLe.of_eq (by rw [← ht]; rfl)) ?_
        refine AW_seq ?_
        refine AW_drwG good rfl tr4 (tr4_ok) (eTp k) (eTp_ok hk) [] [0, 1, 0, 4, 12, 28, 60, 124, 252, 508, 31, 2047] [false, false, false, false, false, false, false, false, false, false, false, false] (by rfl) (by rfl) rfl (by rfl) (by rfl) ?_ ?_ ?_
        · repeat' (first | exact trivial | exact rfl | exact (fun _ _ => rfl) | refine And.intro ?_ ?_ | intro _)
          all_goals (first | assumption | (rename_i hg; exact eqt hg))
        · repeat' (first | refine And.intro ?_ ?_ | exact trivial | exact rfl | intro _)
          all_goals assumption
        refine AW_ret (bodyQ_ret rfl ?_ (Ends.le rfl ?_ ?_))
        · repeat' (first | exact trivial | exact rfl | exact (fun _ _ => rfl) | refine And.intro ?_ ?_ | intro _)
        · repeat' (first | exact trivial | exact rfl | exact (fun _ _ => rfl) | refine And.intro ?_ ?_ | intro _)
        have h : right4 a = true := bnot_f h1
        unfold itmsL itmsB
        rw [h, ht]
        exact SLe.of_eq rfl
    )

end Go.Proofs.Ytadgjhbhghhbgaa.Abs
