/-
  THE CONTRACTS OF PACKAGE word (1): which words may be, clones.
-/
import Derived.Test.YtndfcbcmeeemfaaLay
import Derived.Test.YtndfcbcmeeemfaaX5
namespace Go.Proofs.Ytndfcbcmeeemfaa.Abs
open Go
set_option maxRecDepth 10000

/-- Words as data. -/
def uS (n : Nat) (ex : Bool) (m : Nat → Int) : AV := .imm (.sl 1 n ex fun i _ => .val (.int .u64 (m i)))

theorem right25 (n : Nat) (ex : Bool) (cell : Nat → Nat → IV) : PCall Try.prog 25 [.one (.imm (.sl 1 n ex cell))] (.cv (ibool (decide ((n : Int) ≤ 64)))) := by
  refine PCall_of (ACall_body good Try.func25 rfl 6 rfl (by simp) ?_)
  refine AW_seq (AW_all good tab0 (tab0_ok _) rfl rfl ?_ ?_)
  · repeat' (first | exact trivial | apply And.intro | intro _)
  refine AW_seq (AW_all good tab0 (tab0_ok _) rfl rfl ?_ ?_)
  · repeat' (first | exact trivial | apply And.intro | intro _)
  refine AW_ret (bodyQ_ret rfl ?_ (Ends.intro rfl ?_ ?_))
  · repeat' (first | exact trivial | apply And.intro | intro _)
  · repeat' (first | exact trivial | apply And.intro | intro _)
  rfl

theorem clone50 (n : Nat) (ex : Bool) (cell : Nat → Nat → IV) (h1 : n * 8 ≤ 140737488355328) (h2 : n ≤ maxLen) :
    ACall Try.prog 50 [.one (.imm (.sl 1 n ex cell))] (heapOf []) 0 fun x H' n' => x = .cv (.one (.osl 0 1 0 0 n true)) ∧ H' = updH (heapOf []) [(0, some (.rows 22 1 n cell))] ∧ n' = 0 + 1 := by
  refine ACall_norm (Bs := []) (cnt := 1) ?_
  rw [heapOf_nil]
  refine ACall_body good Try.func50 rfl 8 rfl (by simp) ?_
  refine AW_seq (AW_all good tab0 (tab0_ok _) rfl rfl ?_ ?_)
  · repeat' (first | exact trivial | apply And.intro | intro _)
  refine AW_seq (AW_seq (AW_part good tab0 (tab0_ok _) et0 (et0_ok _) [] rfl rfl ?_ ?_))
  · repeat' (first | exact trivial | apply And.intro | intro _)
  refine AL_isnil good rfl rfl rfl rfl trivial rfl (fun q hq => AL_nil ?_)
  refine AW_cond rfl (fun h => ?_) (fun h => ?_)
  · refine AW_seq (AW_all good tab0 (tab0_ok _) rfl rfl ?_ ?_)
    · repeat' (first | exact trivial | apply And.intro | intro _)
    obtain rfl := hq h
    refine AW_own_empty 2 22 1 cell rfl rfl rfl ?_
    refine AW_ret ?_
    refine ⟨_, _, rfl, ?_, [0], rfl, EndsE.one rfl ?_ rfl ?_⟩
    · repeat' (first | exact trivial | apply And.intro | intro _)
    · exact SLe.of_eq rfl
    · exact BLe.of_eq rfl
  · refine AW_skip ?_
    refine AW_seq (AW_all good tab0 (tab0_ok _) rfl rfl ?_ ?_)
    · repeat' (first | exact trivial | apply And.intro | intro _)
      · show (0 + n) * 8 ≤ _
        omega
      · omega
      · omega
    refine AW_ret ?_
    refine ⟨_, _, rfl, ?_, [1], rfl, EndsE.one rfl ?_ rfl ?_⟩
    · repeat' (first | exact trivial | apply And.intro | intro _)
    · exact SLe.of_eq (by rw [Nat.zero_add]; rfl)
    · refine BLe.rows (by omega) fun i j hi hj => ILe.of_eq ?_
      show (bif Nat.blt i 0 then _ else cell (i - 0) j) = cell i j
      have : Nat.blt i 0 = false := by cases i <;> rfl
      rw [this]
      rfl
end Go.Proofs.Ytndfcbcmeeemfaa.Abs

/-
  THE CONTRACTS OF PACKAGE word (2): its function literals.
-/
namespace Go.Proofs.Ytndfcbcmeeemfaa.Abs
open Go
set_option maxRecDepth 10000

def iu (n : Int) : CV := .one (.imm (.val (.int .u64 n)))
def vpl (l : List IV) : AV := .vptr l.length fun q => l.getD q ivDef
def vp (n : Int) : AV := vpl [.val (.int .u64 n)]
/-- A step. -/
def stepL (k at_ x y : Int) : List IV := [.val (.int .i64 k), .val (.int .i64 at_), .val (.int .u64 x), .val (.int .u64 y)]

/-- What Cas makes of a word. -/
def casG (old v was : Int) : Int × Int := (bif was == old then v else was, bif was == old then 1 else 0)

theorem lit38 (was old v : Int) : PCall Try.prog 38 [iu was, .one (vp old), .one (vp v)] (.tup [iu (casG old v was).1, iu (casG old v was).2]) := by
  refine PCall_of (ACall_body good Try.func38 rfl 11 rfl (by simp) ?_)
  refine AW_seq ?_
  refine AW_all good tab0 (tab0_ok _) rfl rfl ?_ ?_
  · repeat' (first | exact trivial | apply And.intro | intro _)
    all_goals (first | omega | (change (_ : Bool) = true; simp_all; done) | (simp_all; done))
  refine AW_seq ?_
  refine AW_seq ?_
  refine AW_all good tab0 (tab0_ok _) rfl rfl ?_ ?_
  · repeat' (first | exact trivial | apply And.intro | intro _)
    all_goals (first | omega | (change (_ : Bool) = true; simp_all; done) | (simp_all; done))
  refine AW_cond rfl (fun h1 => ?_) (fun h1 => ?_)
  · first
    | (exfalso; simp_all; done)
    | (
        refine AW_seq ?_
        refine AW_all good tab0 (tab0_ok _) rfl rfl ?_ ?_
        · repeat' (first | exact trivial | apply And.intro | intro _)
          all_goals (first | omega | (change (_ : Bool) = true; simp_all; done) | (simp_all; done))
        refine AW_ret (bodyQ_ret rfl ?_ (Ends.intro rfl ?_ ?_))
        · repeat' (first | exact trivial | apply And.intro | intro _)
          all_goals (first | omega | (change (_ : Bool) = true; simp_all; done) | (simp_all; done))
        · repeat' (first | exact trivial | apply And.intro | intro _)
          all_goals (first | omega | (change (_ : Bool) = true; simp_all; done) | (simp_all; done))
        have hb : (was == old) = false := by simpa using h1
        simp [casG, hb, iu]
    )
  · first
    | (exfalso; simp_all; done)
    | (
        refine AW_skip ?_
        refine AW_seq ?_
        refine AW_all good tab0 (tab0_ok _) rfl rfl ?_ ?_
        · repeat' (first | exact trivial | apply And.intro | intro _)
          all_goals (first | omega | (change (_ : Bool) = true; simp_all; done) | (simp_all; done))
        refine AW_ret (bodyQ_ret rfl ?_ (Ends.intro rfl ?_ ?_))
        · repeat' (first | exact trivial | apply And.intro | intro _)
          all_goals (first | omega | (change (_ : Bool) = true; simp_all; done) | (simp_all; done))
        · repeat' (first | exact trivial | apply And.intro | intro _)
          all_goals (first | omega | (change (_ : Bool) = true; simp_all; done) | (simp_all; done))
        have hb : (was == old) = true := by simpa using h1
        simp [casG, hb, iu]
    )

theorem lit39 (was v : Int) : PCall Try.prog 39 [iu was, .one (vp v)] (.tup [iu (IntKind.u64.wrap (was + v)), iu was]) := by
  refine PCall_of (ACall_body good Try.func39 rfl 9 rfl (by simp) ?_)
  refine AW_seq ?_
  refine AW_all good tab0 (tab0_ok _) rfl rfl ?_ ?_
  · repeat' (first | exact trivial | apply And.intro | intro _)
    all_goals (first | omega | (change (_ : Bool) = true; simp_all; done) | (simp_all; done))
  refine AW_seq ?_
  refine AW_all good tab0 (tab0_ok _) rfl rfl ?_ ?_
  · repeat' (first | exact trivial | apply And.intro | intro _)
    all_goals (first | omega | (change (_ : Bool) = true; simp_all; done) | (simp_all; done))
  refine AW_ret (bodyQ_ret rfl ?_ (Ends.intro rfl ?_ ?_))
  · repeat' (first | exact trivial | apply And.intro | intro _)
    all_goals (first | omega | (change (_ : Bool) = true; simp_all; done) | (simp_all; done))
  · repeat' (first | exact trivial | apply And.intro | intro _)
    all_goals (first | omega | (change (_ : Bool) = true; simp_all; done) | (simp_all; done))
  rfl

theorem lit40 (was : Int) : PCall Try.prog 40 [iu was] (.tup [iu was, iu was]) := by
  refine PCall_of (ACall_body good Try.func40 rfl 6 rfl (by simp) ?_)
  refine AW_seq ?_
  refine AW_all good tab0 (tab0_ok _) rfl rfl ?_ ?_
  · repeat' (first | exact trivial | apply And.intro | intro _)
    all_goals (first | omega | (change (_ : Bool) = true; simp_all; done) | (simp_all; done))
  refine AW_seq ?_
  refine AW_all good tab0 (tab0_ok _) rfl rfl ?_ ?_
  · repeat' (first | exact trivial | apply And.intro | intro _)
    all_goals (first | omega | (change (_ : Bool) = true; simp_all; done) | (simp_all; done))
  refine AW_ret (bodyQ_ret rfl ?_ (Ends.intro rfl ?_ ?_))
  · repeat' (first | exact trivial | apply And.intro | intro _)
    all_goals (first | omega | (change (_ : Bool) = true; simp_all; done) | (simp_all; done))
  · repeat' (first | exact trivial | apply And.intro | intro _)
    all_goals (first | omega | (change (_ : Bool) = true; simp_all; done) | (simp_all; done))
  rfl

theorem lit42 (was : Int) : PCall Try.prog 42 [iu was] (.tup [iu was, iu was]) := by
  refine PCall_of (ACall_body good Try.func42 rfl 6 rfl (by simp) ?_)
  refine AW_seq ?_
  refine AW_all good tab0 (tab0_ok _) rfl rfl ?_ ?_
  · repeat' (first | exact trivial | apply And.intro | intro _)
    all_goals (first | omega | (change (_ : Bool) = true; simp_all; done) | (simp_all; done))
  refine AW_seq ?_
  refine AW_all good tab0 (tab0_ok _) rfl rfl ?_ ?_
  · repeat' (first | exact trivial | apply And.intro | intro _)
    all_goals (first | omega | (change (_ : Bool) = true; simp_all; done) | (simp_all; done))
  refine AW_ret (bodyQ_ret rfl ?_ (Ends.intro rfl ?_ ?_))
  · repeat' (first | exact trivial | apply And.intro | intro _)
    all_goals (first | omega | (change (_ : Bool) = true; simp_all; done) | (simp_all; done))
  · repeat' (first | exact trivial | apply And.intro | intro _)
    all_goals (first | omega | (change (_ : Bool) = true; simp_all; done) | (simp_all; done))
  rfl

theorem lit41 (was v : Int) : PCall Try.prog 41 [iu was, .one (vp v)] (.tup [iu v, iu 0]) := by
  refine PCall_of (ACall_body good Try.func41 rfl 6 rfl (by simp) ?_)
  refine AW_seq ?_
  refine AW_all good tab0 (tab0_ok _) rfl rfl ?_ ?_
  · repeat' (first | exact trivial | apply And.intro | intro _)
    all_goals (first | omega | (change (_ : Bool) = true; simp_all; done) | (simp_all; done))
  refine AW_seq ?_
  refine AW_all good tab0 (tab0_ok _) rfl rfl ?_ ?_
  · repeat' (first | exact trivial | apply And.intro | intro _)
    all_goals (first | omega | (change (_ : Bool) = true; simp_all; done) | (simp_all; done))
  refine AW_ret (bodyQ_ret rfl ?_ (Ends.intro rfl ?_ ?_))
  · repeat' (first | exact trivial | apply And.intro | intro _)
    all_goals (first | omega | (change (_ : Bool) = true; simp_all; done) | (simp_all; done))
  · repeat' (first | exact trivial | apply And.intro | intro _)
    all_goals (first | omega | (change (_ : Bool) = true; simp_all; done) | (simp_all; done))
  rfl

theorem lit43 (was k at_ x y : Int) : PCall Try.prog 43 [iu was, .one (vpl (stepL k at_ x y))] (.tup [iu x, iu 0]) := by
  refine PCall_of (ACall_body good Try.func43 rfl 7 rfl (by simp) ?_)
  refine AW_seq ?_
  refine AW_all good tab0 (tab0_ok _) rfl rfl ?_ ?_
  · repeat' (first | exact trivial | apply And.intro | intro _)
    all_goals (first | omega | (change (_ : Bool) = true; simp_all; done) | (simp_all; done))
  refine AW_seq ?_
  refine AW_all good tab0 (tab0_ok _) rfl rfl ?_ ?_
  · repeat' (first | exact trivial | apply And.intro | intro _)
    all_goals (first | omega | (change (_ : Bool) = true; simp_all; done) | (simp_all; done))
  refine AW_ret (bodyQ_ret rfl ?_ (Ends.intro rfl ?_ ?_))
  · repeat' (first | exact trivial | apply And.intro | intro _)
    all_goals (first | omega | (change (_ : Bool) = true; simp_all; done) | (simp_all; done))
  · repeat' (first | exact trivial | apply And.intro | intro _)
    all_goals (first | omega | (change (_ : Bool) = true; simp_all; done) | (simp_all; done))
  rfl
end Go.Proofs.Ytndfcbcmeeemfaa.Abs

/-
  THE CONTRACTS OF PACKAGE word (3): 'call', whatever the function literal does.
-/
namespace Go.Proofs.Ytndfcbcmeeemfaa.Abs
open Go
set_option maxRecDepth 10000

theorem AL_pcallv {K : Nat} {P : Program} {Q : Exit → St → Prop} {ops : Array Oper} {o : Oper} {rest : List Oper} {n nx : Nat} {E : Nat → SV} {H : Nat → Option ABlk} {c : Call} {f : FuncId} {cvs : List CV} {q : Prop} {r : SV} (hg : o.guard = none) (ho : o.op = .call c) (hc : callOf E c = some (f, cvs, q)) (hq : q) (hok : CallOk P f)
    (hi : cvs.all immCV = true) (hcall : PCall P f cvs r) (hr : immSV r = true) (hd : dstOk o.dst n = true) (h : AL K P ops rest Q ⟨n, putE E o.dst r, H, nx⟩) : AL K P ops (o :: rest) Q ⟨n, E, H, nx⟩ := by
  intro C μ a w hR
  obtain ⟨vals, hA0, hrun⟩ := callOf_sound hR.env hc hq hok ho
  have hA := immT_rel (μ' := noneμ) hi hA0
  unfold wpList
  rw [if_pos (by simp [Region.wanted, hg])]
  refine .inl ?_
  unfold Oper.wp
  rw [hrun]
  refine (hcall _ w _ (own_lt hR) hA).mono ?_
  rintro e w' ⟨v, rfl, hext, hs⟩
  obtain ⟨hR', hs'⟩ := pcall_step hR hext hs hr
  exact h C μ _ w' (hR'.put hs' hd)

theorem imm_clos (f nc : Nat) (first caps : Nat → AV) (v : Int) (h : immAV (.fn (.func f) 0 first nc caps) = true) : (fnList 0 first ++ ([iu v] ++ fnList nc caps)).all immCV = true := by
  simp only [immAV, Bool.and_eq_true, List.all_eq_true, List.mem_range] at h
  simp only [fnList, List.range_zero, List.map_nil, List.nil_append, List.singleton_append, List.all_cons, List.all_map, Bool.and_eq_true, List.all_eq_true, List.mem_range, Function.comp_apply]
  exact ⟨rfl, h.2⟩

def tabR : Tab := tabAdd 25 (fun args => match args with
  | [.one (.imm (.sl 1 n _ _))] => some (.cv (ibool (decide ((n : Int) ≤ 64))), True)
  | _ => none) tab0
theorem tabR_ok : TabOk Try.prog tabR := by
  refine tabAdd_ok rfl (fun args r p h _ => ?_) (tab0_ok _)
  split at h
  · simp only [Option.some.injEq, Prod.mk.injEq] at h; obtain ⟨rfl, _⟩ := h; exact right25 _ _ _
  · cases h

def etC : ETab := etAdd 50 (fun args _ => match args with
  | [.one (.imm (.sl 1 n _ cell))] => some ⟨[], .cv (.one (.osl 0 1 0 0 n true)), [(0, some (.rows 22 1 n cell))], 1, n * 8 ≤ 140737488355328 ∧ n ≤ maxLen⟩
  | _ => none) et0
theorem etC_ok : ETabOk Try.prog etC := by
  refine etAdd_ok rfl (fun args H e h hv => ?_) (et0_ok _)
  split at h
  · rename_i n ex cell
    simp only [Option.some.injEq] at h
    subst h
    exact ⟨rfl, _, [], rfl, fun nx => rfl, fun nx j b hb => by simp at hb, clone50 n ex cell hv.1 hv.2⟩
  · cases h

/-- A call on words that may not be. -/
def badAt (n : Nat) (at_ : Int) : Bool := !(decide ((n : Int) ≤ 64)) || (decide (at_ < 0) || decide (at_ ≥ (n : Int)))

/-- What a call answers: the words, what else, the error. -/
def callV (n : Nat) (m : Nat → Int) (at_ : Int) (g : Int → Int × Int) : SV :=
  .tup [.one (uS (bif badAt n at_ then 0 else n) false fun i => bif Nat.beq i at_.toNat then (g (m at_.toNat)).1 else m i), iu (bif badAt n at_ then 0 else (g (m at_.toNat)).2), iint (bif badAt n at_ then 1 else 0)]

theorem call37 (n : Nat) (ex : Bool) (m : Nat → Int) (at_ : Int) (f nc : Nat) (first caps : Nat → AV) (hi : immAV (.fn (.func f) 0 first nc caps) = true) (hok : CallOk Try.prog f) (g : Int → Int × Int)
    (hg : ∀ v, PCall Try.prog f (fnList 0 first ++ ([iu v] ++ fnList nc caps)) (.tup [iu (g v).1, iu (g v).2])) :
    PCall Try.prog 37 [.one (uS n ex m), iint at_, .one (.fn (.func f) 0 first nc caps)] (callV n m at_ g) := by
  refine PCall_of (ACall_body good Try.func37 rfl 41 rfl (by simp) ?_)
  refine AW_seq (AW_all good tabR tabR_ok rfl rfl ?_ ?_)
  · repeat' (first | exact trivial | apply And.intro | intro _)
  refine AW_seq (AW_seq (AW_all good tabR tabR_ok rfl rfl ?_ ?_))
  · repeat' (first | exact trivial | apply And.intro | intro _)
    all_goals (first | (change (_ : Bool) = true; simp_all; done) | (simp_all; done))
  refine AW_cond rfl (fun h => ?_) (fun h => ?_)
  · refine AW_seq (AW_all good tabR tabR_ok rfl rfl ?_ ?_)
    · repeat' (first | exact trivial | apply And.intro | intro _)
    refine AW_ret (bodyQ_ret rfl ?_ (Ends.le rfl ?_ ?_))
    · repeat' (first | exact trivial | apply And.intro | intro _)
    · repeat' (first | exact trivial | apply And.intro | intro _)
    have hb : badAt n at_ = true := by
      simp only [badAt]
      cases h1 : decide ((n : Int) ≤ 64) <;> simp_all
    unfold callV
    rw [hb]
    exact SLe.triple (CLe.imm (ILe.sl rfl (by simp) (.inl rfl))) (CLe.of_eq rfl) (CLe.of_eq rfl)
  refine AW_skip ?_
  have hb : badAt n at_ = false := by
    simp only [badAt]
    cases h1 : decide ((n : Int) ≤ 64) <;> simp_all
  have hr : (n : Int) ≤ 64 ∧ 0 ≤ at_ ∧ at_ < n := by
    simp only [badAt, Bool.or_eq_false_iff, Bool.not_eq_false', decide_eq_true_eq, decide_eq_false_iff_not] at hb
    omega
  refine AW_seq (AW_eff good tabR tabR_ok etC etC_ok [] rfl rfl ?_ ?_)
  · repeat' (first | exact trivial | apply And.intro | intro _)
    · omega
    · simp only [maxLen]; omega
  refine AW_seq (AW_part good tab0 (tab0_ok _) et0 (et0_ok _) [] rfl rfl ?_ ?_)
  · repeat' (first | exact trivial | apply And.intro | intro _)
    all_goals omega
  refine AL_pcallv rfl rfl rfl ?_ hok ?_ (hg _) rfl rfl ?_
  · repeat' (first | exact trivial | apply And.intro | intro _)
  · exact imm_clos _ _ _ _ _ hi
  refine AL_part good tabR tabR_ok etC etC_ok [] rfl rfl ?_ (AL_nil ?_)
  · repeat' (first | exact trivial | apply And.intro | intro _)
  refine AW_seq (AW_eff good tabR tabR_ok etC etC_ok [] rfl rfl ?_ ?_)
  · repeat' (first | exact trivial | apply And.intro | intro _)
    all_goals omega
  refine AW_seq (AW_all good tabR tabR_ok rfl rfl ?_ ?_)
  · repeat' (first | exact trivial | apply And.intro | intro _)
  refine AW_ret (bodyQ_ret rfl ?_ (Ends.le rfl ?_ ?_))
  · repeat' (first | exact trivial | apply And.intro | intro _)
  · repeat' (first | exact trivial | apply And.intro | intro _)
    all_goals omega
  unfold callV
  rw [hb]
  refine SLe.triple (CLe.imm (ILe.sl (by simp) (by simp) (.inr ⟨rfl, fun i j hi hj => ILe.of_eq ?_⟩))) (CLe.of_eq (by rw [Nat.zero_add]; rfl)) (CLe.of_eq rfl)
  obtain rfl : j = 0 := by
    have : j < 1 := hj
    omega
  rw [Nat.zero_add at_.toNat]
  show (bif (Nat.beq (0 + i) at_.toNat && (Nat.ble 0 0 && Nat.blt 0 1)) then IV.val (.int .u64 (g (m at_.toNat)).1) else IV.val (.int .u64 (m (0 + i)))) = IV.val (.int .u64 (bif Nat.beq i at_.toNat then (g (m at_.toNat)).1 else m i))
  rw [Nat.zero_add]
  cases Nat.beq i at_.toNat <;> rfl
end Go.Proofs.Ytndfcbcmeeemfaa.Abs

/-
  THE CONTRACTS OF PACKAGE word (4): 'call' with each of the function literals, as a table.
-/
namespace Go.Proofs.Ytndfcbcmeeemfaa.Abs
open Go
set_option maxRecDepth 10000

/-- Cells that are words. -/
def wordsAt (cell : Nat → Nat → IV) (i : Nat) : Int := ivInt (cell i 0)
def isWords (n : Nat) (cell : Nat → Nat → IV) : Prop := ∀ i, i < n → cell i 0 = .val (.int .u64 (wordsAt cell i))
theorem words_le {n : Nat} {ex : Bool} {cell : Nat → Nat → IV} (h : isWords n cell) : CLe (.one (.imm (.sl 1 n ex cell))) (.one (uS n ex (wordsAt cell))) :=
  CLe.imm (ILe.sl rfl id (.inr ⟨rfl, fun i j hi hj => by
    obtain rfl : j = 0 := by omega
    exact ILe.of_eq (h i hi)⟩))
def capInt (c : Nat → IV) : Int := ivInt (c 0)
def isCap (c : Nat → IV) : Prop := c = fun q => [IV.val (.int .u64 (capInt c))].getD q ivDef

def callG (f nc : Nat) (caps : Nat → AV) : Option ((Int → Int × Int) × Prop) :=
  bif Nat.beq f 40 && Nat.beq nc 0 then some (fun v => (v, v), True)
  else bif Nat.beq f 42 && Nat.beq nc 0 then some (fun v => (v, v), True)
  else bif Nat.beq f 41 && Nat.beq nc 1 then match caps 0 with
    | .vptr 1 c => some (fun _ => (capInt c, 0), isCap c)
    | _ => none
  else bif Nat.beq f 39 && Nat.beq nc 1 then match caps 0 with
    | .vptr 1 c => some (fun v => (IntKind.u64.wrap (v + capInt c), v), isCap c)
    | _ => none
  else bif Nat.beq f 43 && Nat.beq nc 1 then match caps 0 with
    | .vptr 4 c => some (fun _ => (ivInt (c 2), 0), c = fun q => (stepL (ivInt (c 0)) (ivInt (c 1)) (ivInt (c 2)) (ivInt (c 3))).getD q ivDef)
    | _ => none
  else bif Nat.beq f 38 && Nat.beq nc 2 then match caps 0, caps 1 with
    | .vptr 1 c, .vptr 1 d => some (fun v => casG (capInt c) (capInt d) v, isCap c ∧ isCap d)
    | _, _ => none
  else none

def LitOk (f nc : Nat) (first caps : Nat → AV) (g : Int → Int × Int) : Prop :=
  CallOk Try.prog f ∧ immAV (.fn (.func f) 0 first nc caps) = true ∧ ∀ v, PCall Try.prog f (fnList 0 first ++ ([iu v] ++ fnList nc caps)) (.tup [iu (g v).1, iu (g v).2])

theorem cap_vp {c : Nat → IV} (h : isCap c) : AV.vptr 1 c = vp (capInt c) := by
  unfold vp vpl
  rw [AV.vptr.injEq]
  exact ⟨rfl, h⟩

theorem callG_ok {f nc : Nat} {first caps : Nat → AV} {g : Int → Int × Int} {p : Prop} (h : callG f nc caps = some (g, p)) (hp : p) : LitOk f nc first caps g := by
  have c1 : ∀ (c : Nat → AV) (x : AV), c 0 = x → immAV x = true → immAV (.fn (.func f) 0 first 1 c) = true := fun c x h0 hx => by simp [immAV, h0, hx, List.range_succ]
  unfold callG at h
  cases b0 : (Nat.beq f 40 && Nat.beq nc 0) with
  | true =>
    rw [b0] at h
    simp only [cond_true, Option.some.injEq, Prod.mk.injEq] at h
    obtain ⟨rfl, rfl⟩ := h
    rw [Bool.and_eq_true] at b0
    obtain rfl := Nat.eq_of_beq_eq_true b0.1
    obtain rfl := Nat.eq_of_beq_eq_true b0.2
    exact ⟨rfl, by simp [immAV], fun v => lit40 v⟩
  | false =>
  rw [b0] at h
  cases b1 : (Nat.beq f 42 && Nat.beq nc 0) with
  | true =>
    rw [b1] at h
    simp only [cond_true, cond_false, Option.some.injEq, Prod.mk.injEq] at h
    obtain ⟨rfl, rfl⟩ := h
    rw [Bool.and_eq_true] at b1
    obtain rfl := Nat.eq_of_beq_eq_true b1.1
    obtain rfl := Nat.eq_of_beq_eq_true b1.2
    exact ⟨rfl, by simp [immAV], fun v => lit42 v⟩
  | false =>
  rw [b1] at h
  cases b2 : (Nat.beq f 41 && Nat.beq nc 1) with
  | true =>
    rw [b2] at h
    simp only [cond_true, cond_false] at h
    rw [Bool.and_eq_true] at b2
    obtain rfl := Nat.eq_of_beq_eq_true b2.1
    obtain rfl := Nat.eq_of_beq_eq_true b2.2
    split at h
    · rename_i c hc
      simp only [Option.some.injEq, Prod.mk.injEq] at h
      obtain ⟨rfl, rfl⟩ := h
      refine ⟨rfl, c1 caps _ hc rfl, fun v => ?_⟩
      have := lit41 v (capInt c)
      rw [← cap_vp hp, ← hc] at this
      exact this
    · cases h
  | false =>
  rw [b2] at h
  cases b3 : (Nat.beq f 39 && Nat.beq nc 1) with
  | true =>
    rw [b3] at h
    simp only [cond_true, cond_false] at h
    rw [Bool.and_eq_true] at b3
    obtain rfl := Nat.eq_of_beq_eq_true b3.1
    obtain rfl := Nat.eq_of_beq_eq_true b3.2
    split at h
    · rename_i c hc
      simp only [Option.some.injEq, Prod.mk.injEq] at h
      obtain ⟨rfl, rfl⟩ := h
      refine ⟨rfl, c1 caps _ hc rfl, fun v => ?_⟩
      have := lit39 v (capInt c)
      rw [← cap_vp hp, ← hc] at this
      exact this
    · cases h
  | false =>
  rw [b3] at h
  cases b4 : (Nat.beq f 43 && Nat.beq nc 1) with
  | true =>
    rw [b4] at h
    simp only [cond_true, cond_false] at h
    rw [Bool.and_eq_true] at b4
    obtain rfl := Nat.eq_of_beq_eq_true b4.1
    obtain rfl := Nat.eq_of_beq_eq_true b4.2
    split at h
    · rename_i c hc
      simp only [Option.some.injEq, Prod.mk.injEq] at h
      obtain ⟨rfl, rfl⟩ := h
      refine ⟨rfl, c1 caps _ hc rfl, fun v => ?_⟩
      have := lit43 v (ivInt (c 0)) (ivInt (c 1)) (ivInt (c 2)) (ivInt (c 3))
      have e : vpl (stepL (ivInt (c 0)) (ivInt (c 1)) (ivInt (c 2)) (ivInt (c 3))) = caps 0 := by
        rw [hc]
        unfold vpl
        rw [AV.vptr.injEq]
        exact ⟨rfl, hp.symm⟩
      rw [e] at this
      exact this
    · cases h
  | false =>
  rw [b4] at h
  cases b5 : (Nat.beq f 38 && Nat.beq nc 2) with
  | true =>
    rw [b5] at h
    simp only [cond_true, cond_false] at h
    rw [Bool.and_eq_true] at b5
    obtain rfl := Nat.eq_of_beq_eq_true b5.1
    obtain rfl := Nat.eq_of_beq_eq_true b5.2
    split at h
    · rename_i c d hc hd
      simp only [Option.some.injEq, Prod.mk.injEq] at h
      obtain ⟨rfl, rfl⟩ := h
      refine ⟨rfl, by simp [immAV, hc, hd, List.range_succ], fun v => ?_⟩
      have := lit38 v (capInt c) (capInt d)
      rw [← cap_vp hp.1, ← cap_vp hp.2, ← hc, ← hd] at this
      exact this
    · cases h
  | false => rw [b5] at h; simp at h

def tabW : Tab := tabAdd 37 (fun args => match args with
  | [.one (.imm (.sl 1 n _ cell)), .one (.imm (.val (.int .i64 at_))), .one (.fn (.func f) 0 _ nc caps)] => match callG f nc caps with
    | some (g, p) => some (callV n (wordsAt cell) at_ g, isWords n cell ∧ p)
    | none => none
  | _ => none) tabR
theorem tabW_ok : TabOk Try.prog tabW := by
  refine tabAdd_ok rfl (fun args r p h hp => ?_) tabR_ok
  split at h
  · rename_i n ex cell at_ f first nc caps
    split at h
    · rename_i g q hg
      simp only [Option.some.injEq, Prod.mk.injEq] at h
      obtain ⟨rfl, rfl⟩ := h
      obtain ⟨h1, h2, h3⟩ := callG_ok (first := first) hg hp.2
      have := call37 n ex (wordsAt cell) at_ f nc first caps h2 h1 g h3
      exact this.args (TLe.cons (words_le hp.1) (TLe.refl _))
    · cases h
  · cases h
end Go.Proofs.Ytndfcbcmeeemfaa.Abs

/-
  THE CONTRACTS OF PACKAGE word (5): Load, Store, Cas, Add.
-/
namespace Go.Proofs.Ytndfcbcmeeemfaa.Abs
open Go
set_option maxRecDepth 10000

def errAt (n : Nat) (at_ : Int) : CV := iint (bif badAt n at_ then 1 else 0)
def loadV (n : Nat) (m : Nat → Int) (at_ : Int) : SV := .tup [iu (bif badAt n at_ then 0 else m at_.toNat), errAt n at_]
def putW (m : Nat → Int) (at_ v : Int) : Nat → Int := fun i => bif Nat.beq i at_.toNat then v else m i
def storeV (n : Nat) (m : Nat → Int) (at_ v : Int) : SV := .tup [.one (uS (bif badAt n at_ then 0 else n) false (putW m at_ v)), errAt n at_]
def casV (n : Nat) (m : Nat → Int) (at_ old v : Int) : SV := .tup [.one (uS (bif badAt n at_ then 0 else n) false (putW m at_ (casG old v (m at_.toNat)).1)), ibool ((bif badAt n at_ then 0 else (casG old v (m at_.toNat)).2) == 1), errAt n at_]

theorem load20 (n : Nat) (ex : Bool) (m : Nat → Int) (at_ : Int) : PCall Try.prog 20 [.one (uS n ex m), iint at_] (loadV n m at_) := by
  refine PCall_of (ACall_body good Try.func20 rfl 18 rfl (by simp) ?_)
  refine AW_seq ?_
  refine AW_all good tabW tabW_ok rfl rfl ?_ ?_
  · repeat' (first | exact trivial | exact rfl | exact (fun _ _ => rfl) | apply And.intro | intro _)
    all_goals (first | omega | (change (_ : Bool) = true; simp_all; done) | (simp_all; done))
  refine AW_seq ?_
  refine AW_all good tabW tabW_ok rfl rfl ?_ ?_
  · repeat' (first | exact trivial | exact rfl | exact (fun _ _ => rfl) | apply And.intro | intro _)
    all_goals (first | omega | (change (_ : Bool) = true; simp_all; done) | (simp_all; done))
  refine AW_seq ?_
  refine AW_all good tabW tabW_ok rfl rfl ?_ ?_
  · repeat' (first | exact trivial | exact rfl | exact (fun _ _ => rfl) | apply And.intro | intro _)
    all_goals (first | omega | (change (_ : Bool) = true; simp_all; done) | (simp_all; done))
  refine AW_ret (bodyQ_ret rfl ?_ (Ends.intro rfl ?_ ?_))
  · repeat' (first | exact trivial | exact rfl | exact (fun _ _ => rfl) | apply And.intro | intro _)
    all_goals (first | omega | (change (_ : Bool) = true; simp_all; done) | (simp_all; done))
  · repeat' (first | exact trivial | exact rfl | exact (fun _ _ => rfl) | apply And.intro | intro _)
    all_goals (first | omega | (change (_ : Bool) = true; simp_all; done) | (simp_all; done))
  rfl

theorem store22 (n : Nat) (ex : Bool) (m : Nat → Int) (at_ v : Int) : PCall Try.prog 22 [.one (uS n ex m), iint at_, iu v] (storeV n m at_ v) := by
  refine PCall_of (ACall_body good Try.func22 rfl 20 rfl (by simp) ?_)
  refine AW_seq ?_
  refine AW_eff good tab0 (tab0_ok _) et0 (et0_ok _) [0] rfl rfl ?_ ?_
  · repeat' (first | exact trivial | exact rfl | exact (fun _ _ => rfl) | apply And.intro | intro _)
    all_goals (first | omega | (change (_ : Bool) = true; simp_all; done) | (simp_all; done))
  refine AW_seq ?_
  refine AW_all good tabW tabW_ok rfl rfl ?_ ?_
  · repeat' (first | exact trivial | exact rfl | exact (fun _ _ => rfl) | apply And.intro | intro _)
    all_goals (first | omega | (change (_ : Bool) = true; simp_all; done) | (simp_all; done))
  refine AW_seq ?_
  refine AW_all good tabW tabW_ok rfl rfl ?_ ?_
  · repeat' (first | exact trivial | exact rfl | exact (fun _ _ => rfl) | apply And.intro | intro _)
    all_goals (first | omega | (change (_ : Bool) = true; simp_all; done) | (simp_all; done))
  refine AW_ret (bodyQ_ret rfl ?_ (Ends.intro rfl ?_ ?_))
  · repeat' (first | exact trivial | exact rfl | exact (fun _ _ => rfl) | apply And.intro | intro _)
    all_goals (first | omega | (change (_ : Bool) = true; simp_all; done) | (simp_all; done))
  · repeat' (first | exact trivial | exact rfl | exact (fun _ _ => rfl) | apply And.intro | intro _)
    all_goals (first | omega | (change (_ : Bool) = true; simp_all; done) | (simp_all; done))
  rfl

theorem cas16 (n : Nat) (ex : Bool) (m : Nat → Int) (at_ old v : Int) : PCall Try.prog 16 [.one (uS n ex m), iint at_, iu old, iu v] (casV n m at_ old v) := by
  refine PCall_of (ACall_body good Try.func16 rfl 25 rfl (by simp) ?_)
  refine AW_seq ?_
  refine AW_eff good tab0 (tab0_ok _) et0 (et0_ok _) [0, 1] rfl rfl ?_ ?_
  · repeat' (first | exact trivial | exact rfl | exact (fun _ _ => rfl) | apply And.intro | intro _)
    all_goals (first | omega | (change (_ : Bool) = true; simp_all; done) | (simp_all; done))
  refine AW_seq ?_
  refine AW_all good tabW tabW_ok rfl rfl ?_ ?_
  · repeat' (first | exact trivial | exact rfl | exact (fun _ _ => rfl) | apply And.intro | intro _)
    all_goals (first | omega | (change (_ : Bool) = true; simp_all; done) | (simp_all; done))
  refine AW_seq ?_
  refine AW_all good tabW tabW_ok rfl rfl ?_ ?_
  · repeat' (first | exact trivial | exact rfl | exact (fun _ _ => rfl) | apply And.intro | intro _)
    all_goals (first | omega | (change (_ : Bool) = true; simp_all; done) | (simp_all; done))
  refine AW_ret (bodyQ_ret rfl ?_ (Ends.intro rfl ?_ ?_))
  · repeat' (first | exact trivial | exact rfl | exact (fun _ _ => rfl) | apply And.intro | intro _)
    all_goals (first | omega | (change (_ : Bool) = true; simp_all; done) | (simp_all; done))
  · repeat' (first | exact trivial | exact rfl | exact (fun _ _ => rfl) | apply And.intro | intro _)
    all_goals (first | omega | (change (_ : Bool) = true; simp_all; done) | (simp_all; done))
  rfl

theorem add17 (n : Nat) (ex : Bool) (m : Nat → Int) (at_ v : Int) : PCall Try.prog 17 [.one (uS n ex m), iint at_, iu v] (callV n m at_ fun w => (IntKind.u64.wrap (w + v), w)) := by
  refine PCall_of (ACall_body good Try.func17 rfl 16 rfl (by simp) ?_)
  refine AW_seq ?_
  refine AW_eff good tab0 (tab0_ok _) et0 (et0_ok _) [0] rfl rfl ?_ ?_
  · repeat' (first | exact trivial | exact rfl | exact (fun _ _ => rfl) | apply And.intro | intro _)
    all_goals (first | omega | (change (_ : Bool) = true; simp_all; done) | (simp_all; done))
  refine AW_seq ?_
  refine AW_all good tabW tabW_ok rfl rfl ?_ ?_
  · repeat' (first | exact trivial | exact rfl | exact (fun _ _ => rfl) | apply And.intro | intro _)
    all_goals (first | omega | (change (_ : Bool) = true; simp_all; done) | (simp_all; done))
  refine AW_ret (bodyQ_ret rfl ?_ (Ends.intro rfl ?_ ?_))
  · repeat' (first | exact trivial | exact rfl | exact (fun _ _ => rfl) | apply And.intro | intro _)
    all_goals (first | omega | (change (_ : Bool) = true; simp_all; done) | (simp_all; done))
  · repeat' (first | exact trivial | exact rfl | exact (fun _ _ => rfl) | apply And.intro | intro _)
    all_goals (first | omega | (change (_ : Bool) = true; simp_all; done) | (simp_all; done))
  rfl
end Go.Proofs.Ytndfcbcmeeemfaa.Abs

/-
  THE CONTRACTS OF PACKAGE word (6): the table of its calls; 'alive', 'few'.
-/
namespace Go.Proofs.Ytndfcbcmeeemfaa.Abs
open Go
set_option maxRecDepth 10000

def tabX : Tab := tabAdd 20 (fun args => match args with
  | [.one (.imm (.sl 1 n _ cell)), .one (.imm (.val (.int .i64 at_)))] => some (loadV n (wordsAt cell) at_, isWords n cell)
  | _ => none) (tabAdd 22 (fun args => match args with
  | [.one (.imm (.sl 1 n _ cell)), .one (.imm (.val (.int .i64 at_))), .one (.imm (.val (.int .u64 v)))] => some (storeV n (wordsAt cell) at_ v, isWords n cell)
  | _ => none) (tabAdd 16 (fun args => match args with
  | [.one (.imm (.sl 1 n _ cell)), .one (.imm (.val (.int .i64 at_))), .one (.imm (.val (.int .u64 old))), .one (.imm (.val (.int .u64 v)))] => some (casV n (wordsAt cell) at_ old v, isWords n cell)
  | _ => none) (tabAdd 17 (fun args => match args with
  | [.one (.imm (.sl 1 n _ cell)), .one (.imm (.val (.int .i64 at_))), .one (.imm (.val (.int .u64 v)))] => some (callV n (wordsAt cell) at_ fun w => (IntKind.u64.wrap (w + v), w), isWords n cell)
  | _ => none) tabW)))
theorem tabX_ok : TabOk Try.prog tabX := by
  refine tabAdd_ok rfl (fun args r p h hp => ?_) (tabAdd_ok rfl (fun args r p h hp => ?_) (tabAdd_ok rfl (fun args r p h hp => ?_) (tabAdd_ok rfl (fun args r p h hp => ?_) tabW_ok)))
  · split at h
    · simp only [Option.some.injEq, Prod.mk.injEq] at h; obtain ⟨rfl, rfl⟩ := h; exact (load20 _ _ _ _).args (TLe.cons (words_le hp) (TLe.refl _))
    · cases h
  · split at h
    · simp only [Option.some.injEq, Prod.mk.injEq] at h; obtain ⟨rfl, rfl⟩ := h; exact (store22 _ _ _ _ _).args (TLe.cons (words_le hp) (TLe.refl _))
    · cases h
  · split at h
    · simp only [Option.some.injEq, Prod.mk.injEq] at h; obtain ⟨rfl, rfl⟩ := h; exact (cas16 _ _ _ _ _ _).args (TLe.cons (words_le hp) (TLe.refl _))
    · cases h
  · split at h
    · simp only [Option.some.injEq, Prod.mk.injEq] at h; obtain ⟨rfl, rfl⟩ := h; exact (add17 _ _ _ _ _).args (TLe.cons (words_le hp) (TLe.refl _))
    · cases h

theorem alive18 : PCall Try.prog 18 [] (.cv (ibool true)) := by
  refine PCall_of (ACall_body good Try.func18 rfl 26 rfl (by simp) ?_)
  refine AW_seq ?_
  refine AW_all good tabX tabX_ok rfl rfl ?_ ?_
  · repeat' (first | exact trivial | exact rfl | exact (fun _ _ => rfl) | apply And.intro | intro _)
    all_goals (first | omega | (change (_ : Bool) = true; simp_all; done) | (simp_all; done))
  refine AW_seq ?_
  refine AW_eff good tabX tabX_ok et0 (et0_ok _) [0] rfl rfl ?_ ?_
  · repeat' (first | exact trivial | exact rfl | exact (fun _ _ => rfl) | apply And.intro | intro _)
    all_goals (first | omega | (rename_i i hi; match i, hi with | 0, _ => exact rfl | 1, _ => exact rfl))
  refine AW_seq ?_
  refine AW_all good tabX tabX_ok rfl rfl ?_ ?_
  · repeat' (first | exact trivial | exact rfl | exact (fun _ _ => rfl) | apply And.intro | intro _)
    all_goals (first | omega | (change (_ : Bool) = true; simp_all; done) | (simp_all; done))
  refine AW_ret (bodyQ_ret rfl ?_ (Ends.intro rfl ?_ ?_))
  · repeat' (first | exact trivial | exact rfl | exact (fun _ _ => rfl) | apply And.intro | intro _)
    all_goals (first | omega | (change (_ : Bool) = true; simp_all; done) | (simp_all; done))
  · repeat' (first | exact trivial | exact rfl | exact (fun _ _ => rfl) | apply And.intro | intro _)
    all_goals (first | omega | (change (_ : Bool) = true; simp_all; done) | (simp_all; done))
  exact ret_bool rfl

theorem few19 (n : Nat) (ex : Bool) (m : Nat → Int) : PCall Try.prog 19 [.one (uS n ex m)] (.cv (.one (uS (min n 66) false m))) := by
  refine PCall_of (ACall_body good Try.func19 rfl 8 rfl (by simp) ?_)
  refine AW_seq ?_
  refine AW_all good tabX tabX_ok rfl rfl ?_ ?_
  · repeat' (first | exact trivial | exact rfl | exact (fun _ _ => rfl) | apply And.intro | intro _)
    all_goals (first | omega | (change (_ : Bool) = true; simp_all; done) | (simp_all; done))
  refine AW_seq ?_
  refine AW_all good tabX tabX_ok rfl rfl ?_ ?_
  · repeat' (first | exact trivial | exact rfl | exact (fun _ _ => rfl) | apply And.intro | intro _)
    all_goals (first | omega | (change (_ : Bool) = true; simp_all; done) | (simp_all; done))
  refine AW_ret (bodyQ_ret rfl ?_ (Ends.le rfl ?_ ?_))
  · repeat' (first | exact trivial | exact rfl | exact (fun _ _ => rfl) | apply And.intro | intro _)
    all_goals (first | omega | (change (_ : Bool) = true; simp_all; done) | (simp_all; done))
  · repeat' (first | exact trivial | exact rfl | exact (fun _ _ => rfl) | apply And.intro | intro _)
    all_goals (first | omega | (change (_ : Bool) = true; simp_all; done) | (simp_all; done))
  refine SLe.cv (CLe.imm (ILe.sl ?_ (by simp) (.inr ⟨rfl, fun i j hi hj => ILe.of_eq ?_⟩)))
  · split <;> omega
  show IV.val (.int .u64 (m (0 + i))) = IV.val (.int .u64 (m i))
  rw [Nat.zero_add]
end Go.Proofs.Ytndfcbcmeeemfaa.Abs

/-
  THE CONTRACTS OF THE REFERENCE's rows of words: which are the same.
-/
namespace Go.Proofs.Ytndfcbcmeeemfaa.Abs
open Go
set_option maxRecDepth 10000

/-- Rows of words that are the same. -/
def sameW (n : Nat) (a : Nat → Int) (n' : Nat) (b : Nat → Int) : Bool := decide (n = n' ∧ ∀ i, i < n → a i = b i)

theorem same21 (n : Nat) (ex : Bool) (a : Nat → Int) (n' : Nat) (ex' : Bool) (b : Nat → Int) : PCall Try.prog 21 [.one (uS n ex a), .one (uS n' ex' b)] (.cv (ibool (sameW n a n' b))) := by
  refine PCall_of (ACall_body good Try.func21 rfl 26 rfl (by simp) ?_)
  refine AW_lenle 0 rfl (fun hm => ?_)
  refine AW_seq ?_
  refine AW_all good tabX tabX_ok rfl rfl ?_ ?_
  · repeat' (first | exact trivial | exact rfl | exact (fun _ _ => rfl) | apply And.intro | intro _)
    all_goals (first | omega | (change (_ : Bool) = true; simp_all; done) | (simp_all; done))
  refine AW_seq ?_
  refine AW_seq ?_
  refine AW_all good tabX tabX_ok rfl rfl ?_ ?_
  · repeat' (first | exact trivial | exact rfl | exact (fun _ _ => rfl) | apply And.intro | intro _)
    all_goals (first | omega | (change (_ : Bool) = true; simp_all; done) | (simp_all; done))
  refine AW_cond rfl (fun h1 => ?_) (fun h1 => ?_)
  · first
    | (exfalso; simp_all; done)
    | (
        refine AW_seq ?_
        refine AW_all good tabX tabX_ok rfl rfl ?_ ?_
        · repeat' (first | exact trivial | exact rfl | exact (fun _ _ => rfl) | apply And.intro | intro _)
          all_goals (first | omega | (change (_ : Bool) = true; simp_all; done) | (simp_all; done))
        refine AW_ret (bodyQ_ret rfl ?_ (Ends.intro rfl ?_ ?_))
        · repeat' (first | exact trivial | exact rfl | exact (fun _ _ => rfl) | apply And.intro | intro _)
          all_goals (first | omega | (change (_ : Bool) = true; simp_all; done) | (simp_all; done))
        · repeat' (first | exact trivial | exact rfl | exact (fun _ _ => rfl) | apply And.intro | intro _)
          all_goals (first | omega | (change (_ : Bool) = true; simp_all; done) | (simp_all; done))
        exact ret_bool (by have : n ≠ n' := (by intro e; simp [e] at h1); simp [sameW, this])
    )
  · first
    | (exfalso; simp_all; done)
    | (
        refine AW_skip ?_
        refine AW_seq ?_
        refine AW_seq ?_
        refine AW_all good tabX tabX_ok rfl rfl ?_ ?_
        · repeat' (first | exact trivial | exact rfl | exact (fun _ _ => rfl) | apply And.intro | intro _)
          all_goals (first | omega | (change (_ : Bool) = true; simp_all; done) | (simp_all; done))
        refine AW_block ?_
        have hn : n = n' := by
          have : (n : Int) = n' := by simpa using h1
          omega
        subst hn
        refine AW_loopL (fun j : { i : Nat // i ≤ n ∧ ∀ k, k < i → a k = b k } => [(0, .cv (.one (uS n ex a))), (1, .cv (.one (uS n ex' b))), (12, .cv (iint n)), (13, .cv (iint j.1))]) (fun j => n - j.1) ⟨0, Nat.zero_le _, fun k hk => absurd hk (Nat.not_lt_zero k)⟩ ?_ ?_
        · exact ⟨rfl, rfl, rfl, rfl, trivial⟩
        rintro ⟨i, hi, hk⟩
        refine AW_seq ?_
        refine AW_all good tabX tabX_ok rfl rfl ?_ ?_
        · repeat' (first | exact trivial | exact rfl | exact (fun _ _ => rfl) | apply And.intro | intro _)
          all_goals (first | omega | (change (_ : Bool) = true; simp_all; done) | (simp_all; done))
        refine AW_seq ?_
        refine AW_cond rfl (fun h2 => ?_) (fun h2 => ?_)
        · first
          | (exfalso; simp_all; done)
          | (
              refine AW_skip ?_
              refine AW_seq ?_
              refine AW_block ?_
              refine AW_seq ?_
              refine AW_all good tabX tabX_ok rfl rfl ?_ ?_
              · repeat' (first | exact trivial | exact rfl | exact (fun _ _ => rfl) | apply And.intro | intro _)
                all_goals (first | omega | (change (_ : Bool) = true; simp_all; done) | (simp_all; done))
              refine AW_seq ?_
              refine AW_drw good rfl tabX tabX_ok rfl rfl rfl ?_ ?_
              · repeat' (first | exact trivial | exact rfl | exact (fun _ _ => rfl) | apply And.intro | intro _)
                all_goals (first | omega | (change (_ : Bool) = true; simp_all; done) | (simp_all; done))
              refine AW_cond rfl (fun h3 => ?_) (fun h3 => ?_)
              · first
                | (exfalso; simp_all; done)
                | (
                    refine AW_seq ?_
                    refine AW_all good tabX tabX_ok rfl rfl ?_ ?_
                    · repeat' (first | exact trivial | exact rfl | exact (fun _ _ => rfl) | apply And.intro | intro _)
                      all_goals (first | omega | (change (_ : Bool) = true; simp_all; done) | (simp_all; done))
                    refine AW_ret (bodyQ_ret rfl ?_ (Ends.intro rfl ?_ ?_))
                    · repeat' (first | exact trivial | exact rfl | exact (fun _ _ => rfl) | apply And.intro | intro _)
                      all_goals (first | omega | (change (_ : Bool) = true; simp_all; done) | (simp_all; done))
                    · repeat' (first | exact trivial | exact rfl | exact (fun _ _ => rfl) | apply And.intro | intro _)
                      all_goals (first | omega | (change (_ : Bool) = true; simp_all; done) | (simp_all; done))
                    have hne : a i ≠ b i := by simpa using h3
                    have hlt : i < n := by simpa using h2
                    exact ret_bool (by simp only [sameW, true_and]; rw [eq_comm, decide_eq_false_iff_not]; exact fun h => hne (h i hlt))
                )
              · first
                | (exfalso; simp_all; done)
                | (
                    refine AW_skip ?_
                    refine AW_all good tabX tabX_ok rfl rfl ?_ ?_
                    · repeat' (first | exact trivial | exact rfl | exact (fun _ _ => rfl) | apply And.intro | intro _)
                      all_goals (first | omega | (change (_ : Bool) = true; simp_all; done) | (simp_all; done))
                    have hab : a i = b i := by simpa using h3
                    have hlt : i < n := by simpa using h2
                    refine loop_next ⟨i + 1, hlt, fun k hk' => ?_⟩ ⟨rfl, rfl, rfl, ?_, trivial⟩ ?_
                    · rcases Nat.lt_succ_iff_lt_or_eq.1 hk' with h | h
                      · exact hk k h
                      · rw [h]; exact hab
                    · exact congrArg (fun z => SV.cv (iint z)) (next_int i n hlt hm)
                    · show n - (i + 1) < n - i
                      omega
                )
          )
        · first
          | (exfalso; simp_all; done)
          | (
              refine AW_exit ?_
              refine AW_seq ?_
              refine AW_all good tabX tabX_ok rfl rfl ?_ ?_
              · repeat' (first | exact trivial | exact rfl | exact (fun _ _ => rfl) | apply And.intro | intro _)
                all_goals (first | omega | (change (_ : Bool) = true; simp_all; done) | (simp_all; done))
              refine AW_ret (bodyQ_ret rfl ?_ (Ends.intro rfl ?_ ?_))
              · repeat' (first | exact trivial | exact rfl | exact (fun _ _ => rfl) | apply And.intro | intro _)
                all_goals (first | omega | (change (_ : Bool) = true; simp_all; done) | (simp_all; done))
              · repeat' (first | exact trivial | exact rfl | exact (fun _ _ => rfl) | apply And.intro | intro _)
                all_goals (first | omega | (change (_ : Bool) = true; simp_all; done) | (simp_all; done))
              have hge : i = n := by
                have : ¬ i < n := by simpa using h2
                omega
              subst hge
              exact ret_bool (by simp only [sameW, true_and]; rw [eq_comm, decide_eq_true_iff]; exact hk)
          )
    )
end Go.Proofs.Ytndfcbcmeeemfaa.Abs
