/-
  THE CONTRACTS OF PACKAGE word (3): 'call', whatever the function literal does.
-/
import Derived.Test.YtndfcbcmeeemfaaW2
namespace Go.Proofs.Ytndfcbcmeeemfaa.Abs
open Go
set_option maxRecDepth 10000

theorem AL_pcallv {K : Nat} {P : Program} {Q : Exit → St → Prop} {ops : Array Oper} {o : Oper} {rest : List Oper} {n nx : Nat} {E : Nat → SV} {H : Nat → Option ABlk} {c : Call} {f : FuncId} {cvs : List CV} {q : Prop} {r : SV} (hg : o.guard = none) (ho : o.op = .call c) (hc : callOf E c = some (f, cvs, q)) (hq : q) (hok : CallOk P f)
    (hi : cvs.all immCV = true) (hcall : PCall P f cvs r) (hr : immSV r = true) (hd : dstOk o.dst n = true) (h : AL K P ops rest Q ⟨n, putE E o.dst r, H, nx⟩) : AL K P ops (o :: rest) Q ⟨n, E, H, nx⟩ := by
  intro C μ a w hR
  obtain ⟨vals, hA0, hrun⟩ := callOf_sound hR.env hc hq hok ho
  have hA := immT_rel (μ' := noneμ) hi hA0
  unfold wpList
  rw [if_pos (by simp [Region.wanted, hg])]
  refine .inl ?_
  unfold Oper.wp
  rw [hrun]
  refine (hcall _ w _ (own_lt hR) hA).mono ?_
  rintro e w' ⟨v, rfl, hext, hs⟩
  obtain ⟨hR', hs'⟩ := pcall_step hR hext hs hr
  exact h C μ _ w' (hR'.put hs' hd)

theorem imm_clos (f nc : Nat) (first caps : Nat → AV) (v : Int) (h : immAV (.fn (.func f) 0 first nc caps) = true) : (fnList 0 first ++ ([iu v] ++ fnList nc caps)).all immCV = true := by
  simp only [immAV, Bool.and_eq_true, List.all_eq_true, List.mem_range] at h
  simp only [fnList, List.range_zero, List.map_nil, List.nil_append, List.singleton_append, List.all_cons, List.all_map, Bool.and_eq_true, List.all_eq_true, List.mem_range, Function.comp_apply]
  exact ⟨rfl, h.2⟩

def tabR : Tab := tabAdd 25 (fun args => match args with
  | [.one (.imm (.sl 1 n _ _))] => some (.cv (ibool (decide ((n : Int) ≤ 64))), True)
  | _ => none) tab0
theorem tabR_ok : TabOk Try.prog tabR := by
  refine tabAdd_ok rfl (fun args r p h _ => ?_) (tab0_ok _)
  split at h
  · simp only [Option.some.injEq, Prod.mk.injEq] at h; obtain ⟨rfl, _⟩ := h; exact right25 _ _ _
  · cases h

def etC : ETab := etAdd 50 (fun args _ => match args with
  | [.one (.imm (.sl 1 n _ cell))] => some ⟨[], .cv (.one (.osl 0 1 0 0 n true)), [(0, some (.rows 22 1 n cell))], 1, n * 8 ≤ 140737488355328 ∧ n ≤ maxLen⟩
  | _ => none) et0
theorem etC_ok : ETabOk Try.prog etC := by
  refine etAdd_ok rfl (fun args H e h hv => ?_) (et0_ok _)
  split at h
  · rename_i n ex cell
    simp only [Option.some.injEq] at h
    subst h
    exact ⟨rfl, _, [], rfl, fun nx => rfl, fun nx j b hb => by simp at hb, clone50 n ex cell hv.1 hv.2⟩
  · cases h

/-- A call on words that may not be. -/
def badAt (n : Nat) (at_ : Int) : Bool := !(decide ((n : Int) ≤ 64)) || (decide (at_ < 0) || decide (at_ ≥ (n : Int)))

/-- What a call answers: the words, what else, the error. -/
def callV (n : Nat) (m : Nat → Int) (at_ : Int) (g : Int → Int × Int) : SV :=
  .tup [.one (uS (bif badAt n at_ then 0 else n) false fun i => bif Nat.beq i at_.toNat then (g (m at_.toNat)).1 else m i), iu (bif badAt n at_ then 0 else (g (m at_.toNat)).2), iint (bif badAt n at_ then 1 else 0)]

theorem call37 (n : Nat) (ex : Bool) (m : Nat → Int) (at_ : Int) (f nc : Nat) (first caps : Nat → AV) (hi : immAV (.fn (.func f) 0 first nc caps) = true) (hok : CallOk Try.prog f) (g : Int → Int × Int)
    (hg : ∀ v, PCall Try.prog f (fnList 0 first ++ ([iu v] ++ fnList nc caps)) (.tup [iu (g v).1, iu (g v).2])) :
    PCall Try.prog 37 [.one (uS n ex m), iint at_, .one (.fn (.func f) 0 first nc caps)] (callV n m at_ g) := by
  refine PCall_of (ACall_body good Try.func37 rfl 41 rfl (by simp) ?_)
  refine AW_seq (AW_all good tabR tabR_ok rfl rfl ?_ ?_)
  · repeat' (first | exact trivial | apply And.intro | intro _)
  refine AW_seq (AW_seq (AW_all good tabR tabR_ok rfl rfl ?_ ?_))
  · repeat' (first | exact trivial | apply And.intro | intro _)
    all_goals (first | (change (_ : Bool) = true; simp_all; done) | (simp_all; done))
  refine AW_cond rfl (fun h => ?_) (fun h => ?_)
  · refine AW_seq (AW_all good tabR tabR_ok rfl rfl ?_ ?_)
    · repeat' (first | exact trivial | apply And.intro | intro _)
    refine AW_ret (bodyQ_ret rfl ?_ (Ends.le rfl ?_ ?_))
    · repeat' (first | exact trivial | apply And.intro | intro _)
    · repeat' (first | exact trivial | apply And.intro | intro _)
    have hb : badAt n at_ = true := by
      simp only [badAt]
      cases h1 : decide ((n : Int) ≤ 64) <;> simp_all
    unfold callV
    rw [hb]
    exact SLe.triple (CLe.imm (ILe.sl rfl (by simp) (.inl rfl))) (CLe.of_eq rfl) (CLe.of_eq rfl)
  refine AW_skip ?_
  have hb : badAt n at_ = false := by
    simp only [badAt]
    cases h1 : decide ((n : Int) ≤ 64) <;> simp_all
  have hr : (n : Int) ≤ 64 ∧ 0 ≤ at_ ∧ at_ < n := by
    simp only [badAt, Bool.or_eq_false_iff, Bool.not_eq_false', decide_eq_true_eq, decide_eq_false_iff_not] at hb
    omega
  refine AW_seq (AW_eff good tabR tabR_ok etC etC_ok [] rfl rfl ?_ ?_)
  · repeat' (first | exact trivial | apply And.intro | intro _)
    · omega
    · simp only [maxLen]; omega
  refine AW_seq (AW_part good tab0 (tab0_ok _) et0 (et0_ok _) [] rfl rfl ?_ ?_)
  · repeat' (first | exact trivial | apply And.intro | intro _)
    all_goals omega
  refine AL_pcallv rfl rfl rfl ?_ hok ?_ (hg _) rfl rfl ?_
  · repeat' (first | exact trivial | apply And.intro | intro _)
  · exact imm_clos _ _ _ _ _ hi
  refine AL_part good tabR tabR_ok etC etC_ok [] rfl rfl ?_ (AL_nil ?_)
  · repeat' (first | exact trivial | apply And.intro | intro _)
  refine AW_seq (AW_eff good tabR tabR_ok etC etC_ok [] rfl rfl ?_ ?_)
  · repeat' (first | exact trivial | apply And.intro | intro _)
    all_goals omega
  refine AW_seq (AW_all good tabR tabR_ok rfl rfl ?_ ?_)
  · repeat' (first | exact trivial | apply And.intro | intro _)
  refine AW_ret (bodyQ_ret rfl ?_ (Ends.le rfl ?_ ?_))
  · repeat' (first | exact trivial | apply And.intro | intro _)
  · repeat' (first | exact trivial | apply And.intro | intro _)
    all_goals omega
  unfold callV
  rw [hb]
  refine SLe.triple (CLe.imm (ILe.sl (by simp) (by simp) (.inr ⟨rfl, fun i j hi hj => ILe.of_eq ?_⟩))) (CLe.of_eq (by rw [Nat.zero_add]; rfl)) (CLe.of_eq rfl)
  obtain rfl : j = 0 := by
    have : j < 1 := hj
    omega
  rw [Nat.zero_add at_.toNat]
  show (bif (Nat.beq (0 + i) at_.toNat && (Nat.ble 0 0 && Nat.blt 0 1)) then IV.val (.int .u64 (g (m at_.toNat)).1) else IV.val (.int .u64 (m (0 + i)))) = IV.val (.int .u64 (bif Nat.beq i at_.toNat then (g (m at_.toNat)).1 else m i))
  rw [Nat.zero_add]
  cases Nat.beq i at_.toNat <;> rfl
end Go.Proofs.Ytndfcbcmeeemfaa.Abs
