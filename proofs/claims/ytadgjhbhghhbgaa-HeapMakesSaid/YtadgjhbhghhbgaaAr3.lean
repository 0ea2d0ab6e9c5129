/-
  THE CONTRACTS OF PACKAGE arena: Make, New.
-/
import Derived.Test.YtadgjhbhghhbgaaAr2
namespace Go.Proofs.Ytadgjhbhghhbgaa.Abs
open Go
set_option maxRecDepth 10000


theorem cloneNode (n : Nat) (ex : Bool) (cell : Nat → Nat → IV) (h1 : n * 128 ≤ 140737488355328) (h2 : n ≤ maxLen) :
    ACall Try.prog 82 [.one (.imm (.sl 16 n ex cell))] (heapOf []) 0 fun x H' n' => x = .cv (.one (.osl 0 16 0 0 n true)) ∧ H' = updH (heapOf []) [(0, some (.rows 91 16 n cell))] ∧ n' = 0 + 1 := by
  refine ACall_norm (Bs := []) (cnt := 1) ?_
  rw [heapOf_nil]
  refine ACall_body good Try.func82 rfl 8 rfl (by simp) ?_
  refine AW_seq (AW_all good tab0 (tab0_ok _) rfl rfl ?_ ?_)
  · repeat' (first | exact trivial | apply And.intro | intro _)
  refine AW_seq (AW_seq (AW_part good tab0 (tab0_ok _) et0 (et0_ok _) [] rfl rfl ?_ ?_))
  · repeat' (first | exact trivial | apply And.intro | intro _)
  refine AL_isnil good rfl rfl rfl rfl trivial rfl (fun q hq => AL_nil ?_)
  refine AW_cond rfl (fun h => ?_) (fun h => ?_)
  · refine AW_seq (AW_all good tab0 (tab0_ok _) rfl rfl ?_ ?_)
    · repeat' (first | exact trivial | apply And.intro | intro _)
    obtain rfl := hq h
    refine AW_own_empty 2 91 16 cell rfl rfl rfl ?_
    refine AW_ret ?_
    refine ⟨_, _, rfl, ?_, [0], rfl, EndsE.one rfl ?_ rfl ?_⟩
    · repeat' (first | exact trivial | apply And.intro | intro _)
    · exact SLe.of_eq rfl
    · exact BLe.of_eq rfl
  · refine AW_skip ?_
    refine AW_seq (AW_all good tab0 (tab0_ok _) rfl rfl ?_ ?_)
    · repeat' (first | exact trivial | apply And.intro | intro _)
      all_goals (first | omega | (show (0 + n) * 128 ≤ _; omega))
    refine AW_ret ?_
    refine ⟨_, _, rfl, ?_, [1], rfl, EndsE.one rfl ?_ rfl ?_⟩
    · repeat' (first | exact trivial | apply And.intro | intro _)
    · exact SLe.of_eq (by rw [Nat.zero_add]; rfl)
    · refine BLe.rows (by omega) fun i j hi hj => ILe.of_eq ?_
      show (bif Nat.blt i 0 then _ else cell (i - 0) j) = cell i j
      have : Nat.blt i 0 = false := by cases i <;> rfl
      rw [this]
      rfl
def eCN : ETab := etAdd 82 (fun args _ => match args with
  | [.one (.imm (.sl 16 n _ cell))] => some ⟨[], .cv (.one (.osl 0 16 0 0 n true)), [(0, some (.rows 91 16 n cell))], 1, n * 128 ≤ 140737488355328 ∧ n ≤ maxLen⟩
  | _ => none) et0
theorem eCN_ok : ETabOk Try.prog eCN := by
  refine etAdd_ok rfl (fun args H e h hv => ?_) (et0_ok _)
  split at h
  · rename_i n ex cell
    simp only [Option.some.injEq] at h
    subst h
    exact ⟨rfl, _, [], rfl, fun nx => rfl, fun nx j b hb => by simp at hb, cloneNode n ex cell hv.1 hv.2⟩
  · cases h

def ta8 : Tab := tabC1 70 arA (fun a => .cv (ibool (rightB a))) (fun _ => True) ta7
theorem ta8_ok : TabOk Try.prog ta8 := tabC1_ok rfl (fun a _ => arenaRight a) ta7_ok

theorem right_facts {a : Ar} (h : rightB a = true) : (1 ≤ a.nodes.n ∧ a.nodes.n ≤ 512 ∧ a.free.n ≤ a.nodes.n) ∧ (∀ i, i < a.free.n → bad1 a i = false) ∧ ∀ i, i < a.nodes.n → bad2 a i = false := by
  unfold rightB at h
  cases h1 : shapeBad a with
  | true => rw [h1] at h; cases h
  | false =>
    rw [h1] at h
    cases h2 : anyB (bad1 a) a.free.n with
    | true => rw [h2] at h; cases h
    | false =>
      rw [h2] at h
      have h : (!anyB (bad2 a) a.nodes.n) = true := h
      exact ⟨shape_facts h1, anyB_false.1 h2, anyB_false.1 (bnot_t h)⟩
theorem well_facts {x : Nd} (h : wellB x = true) : (0 ≤ x.gen ∧ x.gen ≤ 1048576) ∧ (0 ≤ x.pre ∧ x.pre ≤ 9) ∧ (0 ≤ x.suf ∧ x.suf ≤ 9) ∧ ∀ i, i < 9 → refOk ((kidS x).at_ i) = true := by
  unfold wellB at h
  cases h1 : wellBad x with
  | true => rw [h1] at h; cases h
  | false =>
    rw [h1] at h
    have h : (!anyB (fun i => !refOk ((kidS x).at_ i)) 9) = true := h
    have h2 := anyB_false.1 (bnot_t h)
    obtain ⟨a1, b1⟩ := bor_f h1
    obtain ⟨a2, b2⟩ := bor_f a1
    obtain ⟨a3, b3⟩ := bor_f a2
    obtain ⟨a4, b4⟩ := bor_f a3
    obtain ⟨a5, b5⟩ := bor_f a4
    have b1 := of_decide_eq_false b1
    have b2 := of_decide_eq_false b2
    have b3 := of_decide_eq_false b3
    have b4 := of_decide_eq_false b4
    have b5 := of_decide_eq_false b5
    have a5 := of_decide_eq_false a5
    exact ⟨by omega, by omega, by omega, fun i hi => bnot_f (h2 i hi)⟩
def gen0 (x : Nd) (g : Int) : Nd := { x with gen := g }
def mkBad (a : Ar) (x : Nd) : Bool := bif (bif (bif !rightB a then true else decide (x.kind < 1)) then true else decide (x.kind > 100)) then true else !wellB (gen0 x 0)
def lastF (a : Ar) : Nat := (a.free.at_ (a.free.n - 1)).toNat
/-- An arena in which the last free place is a node. -/
def mkAr (a : Ar) (x : Nd) : Ar := ⟨⟨a.nodes.n, fun q => bif Nat.beq q (lastF a) then gen0 x (a.nodes.at_ (lastF a)).gen else a.nodes.at_ q⟩, ⟨a.free.n - 1, a.free.at_⟩⟩
def mkE (a : Ar) (x : Nd) : Int := bif mkBad a x then 1 else bif Nat.beq a.free.n 0 then 2 else 0
def mkA (a : Ar) (x : Nd) : Ar := bif mkE a x == 0 then mkAr a x else ar0
def mkR (a : Ar) (x : Nd) : Int := bif mkE a x == 0 then ofR (lastF a) (a.nodes.at_ (lastF a)).gen else 0

theorem zero_ar : CLe (.agg [.imm (ivOf (.slice none 0 0)), .imm (ivOf (.slice none 0 0))]) (arC ar0) := CLe.aggL ⟨CLe.imm (ILe.sl rfl (by simp) (.inl rfl)), CLe.imm (ILe.sl rfl (by simp) (.inl rfl)), trivial⟩

set_option maxHeartbeats 1000000 in
theorem arenaMake (a : Ar) (x : Nd) : PCall Try.prog 63 [arC a, ndC x] (.tup [arC (mkA a x), u64 (mkR a x), iint (mkE a x)]) := by
  refine PCall_of (ACall_body good Try.func63 rfl 79 rfl (by simp) ?_)
  refine AW_seq ?_
  refine AW_all good ta8 (ta8_ok) rfl rfl ?_ ?_
  · repeat' (first | exact trivial | exact rfl | exact (fun _ _ => rfl) | refine And.intro ?_ ?_ | intro _)
  refine AW_seq ?_
  refine AW_all good ta8 (ta8_ok) rfl rfl ?_ ?_
  · repeat' (first | exact trivial | exact rfl | exact (fun _ _ => rfl) | refine And.intro ?_ ?_ | intro _)
  refine AW_seq ?_
  refine AW_block ?_
  refine AW_seq ?_
  refine AW_all good ta8 (ta8_ok) rfl rfl ?_ ?_
  · repeat' (first | exact trivial | exact rfl | exact (fun _ _ => rfl) | refine And.intro ?_ ?_ | intro _)
    all_goals (first | exact slOk_lit | assumption | (rename_i hg; exact eqf hg))
  refine AW_cond rfl (fun h1 => ?_) (fun h1 => ?_)
  · first
    | (exfalso; simp_all; done)
    | (
        refine AW_seq ?_
        refine AW_all good ta8 (ta8_ok) rfl rfl ?_ ?_
        · repeat' (first | exact trivial | exact rfl | exact (fun _ _ => rfl) | refine And.intro ?_ ?_ | intro _)
        refine AW_ret (bodyQ_ret rfl ?_ (Ends.le rfl ?_ ?_))
        · repeat' (first | exact trivial | exact rfl | exact (fun _ _ => rfl) | refine And.intro ?_ ?_ | intro _)
        · repeat' (first | exact trivial | exact rfl | exact (fun _ _ => rfl) | refine And.intro ?_ ?_ | intro _)
        have h1' : mkBad a x = true := h1
        unfold mkA mkR mkE
        rw [h1']
        exact SLe.triple zero_ar (CLe.of_eq rfl) (CLe.of_eq rfl)
    )
  · first
    | (exfalso; simp_all; done)
    | (
        refine AW_seq ?_
        refine AW_all good ta8 (ta8_ok) rfl rfl ?_ ?_
        · repeat' (first | exact trivial | exact rfl | exact (fun _ _ => rfl) | refine And.intro ?_ ?_ | intro _)
        refine AW_cond rfl (fun h2 => ?_) (fun h2 => ?_)
        · first
          | (exfalso; simp_all; done)
          | (
              refine AW_seq ?_
              refine AW_all good ta8 (ta8_ok) rfl rfl ?_ ?_
              · repeat' (first | exact trivial | exact rfl | exact (fun _ _ => rfl) | refine And.intro ?_ ?_ | intro _)
              refine AW_ret (bodyQ_ret rfl ?_ (Ends.le rfl ?_ ?_))
              · repeat' (first | exact trivial | exact rfl | exact (fun _ _ => rfl) | refine And.intro ?_ ?_ | intro _)
              · repeat' (first | exact trivial | exact rfl | exact (fun _ _ => rfl) | refine And.intro ?_ ?_ | intro _)
              have h1' : mkBad a x = false := h1
              have h0 : a.free.n = 0 := by
                have : ((a.free.n : Int) == 0) = true := h2
                rw [beq_iff_eq] at this
                omega
              unfold mkA mkR mkE
              rw [h1', h0]
              exact SLe.triple zero_ar (CLe.of_eq rfl) (CLe.of_eq rfl)
          )
        · first
          | (exfalso; simp_all; done)
          | (
              refine AW_skip ?_
              refine AW_seq ?_
              have h1' : mkBad a x = false := h1
              have hr : rightB a = true := bnot_f (bor_f (bor_f (bor_f h1').1).1).1
              obtain ⟨⟨hs1, hs2, hs3⟩, hfr, hnd⟩ := right_facts hr
              have h0 : a.free.n ≠ 0 := by
                intro e
                rw [e] at h2
                cases h2
              have hE : mkE a x = 0 := by
                unfold mkE
                rw [h1', beq_f h0]
                rfl
              refine AW_all good ta8 (ta8_ok) rfl rfl ?_ ?_
              · repeat' (first | exact trivial | exact rfl | exact (fun _ _ => rfl) | refine And.intro ?_ ?_ | intro _)
              refine AW_seq ?_
              refine AW_slot 7 (y := .cv (iint ((a.free.n - 1 : Nat) : Int))) rfl (SLe.of_eq (congrArg (fun z => SV.cv (iint z)) ?_)) ?_
              · show IntKind.i64.wrap ((a.free.n : Int) - 1) = ((a.free.n - 1 : Nat) : Int)
                rw [IntKind.wrap_i64]
                omega
              refine AW_all good ta8 (ta8_ok) rfl rfl ?_ ?_
              · repeat' (first | exact trivial | exact rfl | exact (fun _ _ => rfl) | refine And.intro ?_ ?_ | intro _)
                all_goals omega
              refine AW_seq ?_
              have hl := fr_lt (bor_f (hfr (a.free.n - 1) (by omega))).1
              have hla : a.free.at_ (a.free.n - 1) = (lastF a : Int) := by unfold lastF; omega
              have hlt : lastF a < a.nodes.n := by unfold lastF; omega
              refine AW_slot 8 (y := .cv (iint (lastF a : Int))) rfl (SLe.of_eq (congrArg (fun z => SV.cv (iint z)) hla)) ?_
              refine AW_all good ta8 (ta8_ok) rfl rfl ?_ ?_
              · repeat' (first | exact trivial | exact rfl | exact (fun _ _ => rfl) | refine And.intro ?_ ?_ | intro _)
                all_goals omega
              refine AW_seq ?_
              refine AW_drwG good rfl ta8 (ta8_ok) eCN (eCN_ok) [] [0, 1, 3, 0, 8, 0, 0, 120, 31, 287, 1023, 2047] [false, false, true, false, false, false, false, false, false, true, false, true] (by rfl) (by rfl) rfl (by rfl) (by rfl) ?_ ?_ ?_
              · repeat' (first | exact trivial | exact rfl | exact (fun _ _ => rfl) | refine And.intro ?_ ?_ | intro _)
                all_goals (first | omega | (unfold maxLen; omega))
              · repeat' (first | refine And.intro ?_ ?_ | exact trivial | exact rfl | intro _)
                all_goals omega
              refine AW_seq ?_
              refine AW_all good ta8 (ta8_ok) rfl rfl ?_ ?_
              · repeat' (first | exact trivial | exact rfl | exact (fun _ _ => rfl) | refine And.intro ?_ ?_ | intro _)
                all_goals (first | omega | assumption)
              refine AW_seq ?_
              refine AW_all good ta8 (ta8_ok) rfl rfl ?_ ?_
              · repeat' (first | exact trivial | exact rfl | exact (fun _ _ => rfl) | refine And.intro ?_ ?_ | intro _)
              refine AW_seq ?_
              refine AW_all good ta8 (ta8_ok) rfl rfl ?_ ?_
              · repeat' (first | exact trivial | exact rfl | exact (fun _ _ => rfl) | refine And.intro ?_ ?_ | intro _)
              refine AW_ret (bodyQ_ret rfl ?_ (Ends.le rfl ?_ ?_))
              · repeat' (first | exact trivial | exact rfl | exact (fun _ _ => rfl) | refine And.intro ?_ ?_ | intro _)
              · repeat' (first | exact trivial | exact rfl | exact (fun _ _ => rfl) | refine And.intro ?_ ?_ | intro _)
                all_goals omega
              unfold mkA mkR
              rw [hE]
              refine SLe.triple (CLe.aggL ⟨CLe.imm (ILe.sl rfl (by simp) (.inr ⟨rfl, fun i j hi hj => ILe.of_eq (set_cell hj (gen0 x (a.nodes.at_ (lastF a)).gen) (a.nodes.at_ i))⟩)), CLe.imm (ILe.sl ?_ (by simp) (.inr ⟨rfl, fun i j hi hj => ILe.of_eq rfl⟩)), trivial⟩) (CLe.of_eq rfl) (CLe.of_eq (congrArg iint ?_))
              · show a.free.n - 1 = ((a.free.n - 1 : Nat) - (0 : Int)).toNat
                omega
              · show ofE (lastF a) (a.nodes.at_ (lastF a)).gen = 0
                have hw := (well_facts (bnot_f (bor_f (bor_f (hnd (lastF a) hlt)).1).1)).1
                unfold ofE badOf
                rw [decide_eq_false (show ¬ ((lastF a : Nat) : Int) < 0 by omega), decide_eq_false (show ¬ ((lastF a : Nat) : Int) ≥ 512 by omega), decide_eq_false (show ¬ (a.nodes.at_ (lastF a)).gen < 0 by omega), decide_eq_false (show ¬ (a.nodes.at_ (lastF a)).gen > 1048576 by omega)]
                rfl
          )
    )

/-- A new arena. -/
def newAr (n : Nat) : Ar := ⟨⟨n, fun _ => nd0⟩, ⟨n, fun i => (n : Int) - 1 - i⟩⟩
theorem zero_nd {j : Nat} (hj : j < 16) : zeroIV lay91 j = ndE.f nd0 j := by
  match j, hj with
  | 0, _ => rfl
  | 1, _ => rfl
  | 2, _ => rfl
  | 3, _ => rfl
  | 4, _ => rfl
  | 5, _ => rfl
  | 6, _ => rfl
  | 7, _ => rfl
  | 8, _ => rfl
  | 9, _ => rfl
  | 10, _ => rfl
  | 11, _ => rfl
  | 12, _ => rfl
  | 13, _ => rfl
  | 14, _ => rfl
  | 15, _ => rfl
  | q + 16, h => exact absurd h (by omega)
def newBad (n : Int) : Bool := bif decide (n < 1) then true else decide (n > 512)
def newA (n : Int) : Ar := bif newBad n then ar0 else newAr n.toNat

theorem arenaNew (n : Int) : PCall Try.prog 18 [iint n] (.tup [arC (newA n), iint (bif newBad n then 1 else 0)]) := by
  refine PCall_of (ACall_body good Try.func18 rfl 31 rfl (by simp) ?_)
  refine AW_seq ?_
  refine AW_all good ta8 (ta8_ok) rfl rfl ?_ ?_
  · repeat' (first | exact trivial | exact rfl | exact (fun _ _ => rfl) | refine And.intro ?_ ?_ | intro _)
  refine AW_seq ?_
  refine AW_seq ?_
  refine AW_all good ta8 (ta8_ok) rfl rfl ?_ ?_
  · repeat' (first | exact trivial | exact rfl | exact (fun _ _ => rfl) | refine And.intro ?_ ?_ | intro _)
    all_goals (first | assumption | (rename_i hg; exact eqf hg))
  refine AW_cond rfl (fun h1 => ?_) (fun h1 => ?_)
  · first
    | (exfalso; simp_all; done)
    | (
        refine AW_seq ?_
        refine AW_all good ta8 (ta8_ok) rfl rfl ?_ ?_
        · repeat' (first | exact trivial | exact rfl | exact (fun _ _ => rfl) | refine And.intro ?_ ?_ | intro _)
        refine AW_ret (bodyQ_ret rfl ?_ (Ends.le rfl ?_ ?_))
        · repeat' (first | exact trivial | exact rfl | exact (fun _ _ => rfl) | refine And.intro ?_ ?_ | intro _)
        · repeat' (first | exact trivial | exact rfl | exact (fun _ _ => rfl) | refine And.intro ?_ ?_ | intro _)
        have hb : newBad n = true := h1
        unfold newA
        rw [hb]
        exact SLe.pair zero_ar (CLe.of_eq rfl)
    )
  · first
    | (exfalso; simp_all; done)
    | (
        refine AW_skip ?_
        refine AW_seq ?_
        have hb : newBad n = false := h1
        obtain ⟨k, rfl⟩ : ∃ k : Nat, n = k := ⟨n.toNat, by
          have := of_decide_eq_false (bor_f hb).1
          omega⟩
        have hk1 : 1 ≤ k := by
          have := of_decide_eq_false (bor_f hb).1
          omega
        have hk2 : k ≤ 512 := by
          have := of_decide_eq_false (bor_f hb).2
          omega
        refine AW_eff good ta8 (ta8_ok) et0 (et0_ok _) [1] rfl rfl ?_ ?_
        · repeat' (first | exact trivial | exact rfl | exact (fun _ _ => rfl) | refine And.intro ?_ ?_ | intro _)
          all_goals (first | omega | exact bytes_okI (by omega) (by omega) (by decide))
        refine AW_seq ?_
        refine AW_seq ?_
        refine AW_all good ta8 (ta8_ok) rfl rfl ?_ ?_
        · repeat' (first | exact trivial | exact rfl | exact (fun _ _ => rfl) | refine And.intro ?_ ?_ | intro _)
        refine AW_block ?_
        refine AW_absent 3 1 (fun i _ => .val (.int .i64 ((k : Int) - 1 - i))) ?_
        refine AW_blk 2 rfl (B := .var 50 [.imm (slI ndE ⟨k, fun _ => nd0⟩), .osl 4 1 0 0 0 true]) (BLe.var ⟨CLe.imm (ILe.sl (show k = ((k : Int)).toNat by omega) (by simp) (.inr ⟨rfl, fun i j hi hj => ILe.of_eq (zero_nd hj)⟩)), CLe.empty, trivial⟩) ?_
        refine AW_loopX [0, 2, 4, 16] [0] (fun j : { i : Nat // i ≤ k } => [(17, .cv (iint j.1))]) (fun j => [(2, .var 50 [.imm (slI ndE ⟨k, fun _ => nd0⟩), .osl 4 1 0 0 j.1 true]), (4, .rows 3 1 j.1 fun i _ => .val (.int .i64 ((k : Int) - 1 - i)))]) (fun j => k - j.1) ⟨0, Nat.zero_le _⟩ ⟨SLe.of_eq rfl, trivial⟩ ⟨⟨_, rfl, BLe.of_eq rfl⟩, ⟨_, rfl, BLe.of_eq rfl⟩, trivial⟩ ?_
        rintro ⟨i, hi⟩
        dsimp only at hi ⊢
        refine AW_seq ?_
        refine AW_all good ta8 (ta8_ok) rfl rfl ?_ ?_
        · repeat' (first | exact trivial | exact rfl | exact (fun _ _ => rfl) | refine And.intro ?_ ?_ | intro _)
        refine AW_seq ?_
        refine AW_cond rfl (fun h2 => ?_) (fun h2 => ?_)
        · first
          | (exfalso; simp_all; done)
          | (
              refine AW_skip ?_
              refine AW_seq ?_
              refine AW_block ?_
              refine AW_seq ?_
              have hlt : i < k := by simpa using h2
              refine AW_all good ta8 (ta8_ok) rfl rfl ?_ ?_
              · repeat' (first | exact trivial | exact rfl | exact (fun _ _ => rfl) | refine And.intro ?_ ?_ | intro _)
              refine AW_all good ta8 (ta8_ok) rfl rfl ?_ ?_
              · repeat' (first | exact trivial | exact rfl | exact (fun _ _ => rfl) | refine And.intro ?_ ?_ | intro _)
                all_goals (first | omega | (unfold maxLen; omega) | exact bytes_ok (by omega) (by decide))
              refine AW_all good ta8 (ta8_ok) rfl rfl ?_ ?_
              · repeat' (first | exact trivial | exact rfl | exact (fun _ _ => rfl) | refine And.intro ?_ ?_ | intro _)
              refine loopX_next ⟨i + 1, hlt⟩ [0, 1, 2, 3, 6] rfl rfl ⟨SLe.of_eq (congrArg (fun z => SV.cv (iint z)) ?_), trivial⟩ ⟨SLe.of_eq rfl, SLe.of_eq rfl, SLe.of_eq rfl, SLe.of_eq rfl, trivial⟩ ⟨⟨rfl, _, rfl, BLe.of_eq rfl⟩, ⟨rfl, _, rfl, BLe.rows rfl fun q j hq hj => ILe.of_eq ?_⟩, trivial⟩ ⟨⟨rfl, _, _, rfl, rfl, BLe.of_eq rfl⟩, trivial⟩ ?_
              · show IntKind.i64.wrap ((i : Int) + 1) = ((i + 1 : Nat) : Int)
                rw [IntKind.wrap_i64]
                omega
              · obtain rfl : j = 0 := by
                  have : j < 1 := hj
                  omega
                refine app_one (e := 1) (f := fun q _ => IV.val (.int .i64 ((k : Int) - 1 - q))) hq fun _ => ?_
                show IV.val (.int .i64 (IntKind.i64.wrap (IntKind.i64.wrap ((k : Int) - 1) - i))) = _
                rw [show IntKind.i64.wrap ((k : Int) - 1) = (k : Int) - 1 by rw [IntKind.wrap_i64]; omega, show IntKind.i64.wrap ((k : Int) - 1 - i) = (k : Int) - 1 - i by rw [IntKind.wrap_i64]; omega]
              show k - (i + 1) < k - i
              omega
          )
        · first
          | (exfalso; simp_all; done)
          | (
              refine AW_exit ?_
              refine AW_seq ?_
              refine AW_all good ta8 (ta8_ok) rfl rfl ?_ ?_
              · repeat' (first | exact trivial | exact rfl | exact (fun _ _ => rfl) | refine And.intro ?_ ?_ | intro _)
              refine AW_ret (bodyQ_ret rfl ?_ (Ends.le rfl ?_ ?_))
              · repeat' (first | exact trivial | exact rfl | exact (fun _ _ => rfl) | refine And.intro ?_ ?_ | intro _)
              · repeat' (first | exact trivial | exact rfl | exact (fun _ _ => rfl) | refine And.intro ?_ ?_ | intro _)
                all_goals omega
              have he : i = k := by
                have : ¬ i < k := by simpa using h2
                omega
              subst he
              unfold newA
              rw [hb]
              exact SLe.of_eq rfl
          )
    )

end Go.Proofs.Ytadgjhbhghhbgaa.Abs
