/-
  DEEDS, READ.
-/
import Derived.Test.YtmpddomgiplnmaaDoorS6
import Derived.Test.YtmpddomgiplnmaaDoorX9
namespace Go.Proofs.YtmpddomgiplnmaaDoor.Abs
open Go
set_option maxRecDepth 10000

def kndOf (w : ByteArray) : Int := bif sEq (wordK 1) w then 1 else bif sEq (wordK 2) w then 2 else bif sEq (wordK 3) w then 3 else bif sEq (wordK 4) w then 4 else bif sEq (wordK 5) w then 5 else bif sEq (wordK 6) w then 6 else bif sEq (wordK 7) w then 7 else 0
theorem isK_cases {x : Int} (h : isK x = true) : x = 1 ∨ x = 2 ∨ x = 3 ∨ x = 4 ∨ x = 5 ∨ x = 6 ∨ x = 7 := by
  unfold isK at h
  rw [Bool.and_eq_true, decide_eq_true_eq, decide_eq_true_eq] at h
  omega
theorem kndOf_hit {x : Int} (h : isK x = true) : kndOf (wordK x) = x := by
  unfold kndOf
  simp only [sEq_data]
  rcases isK_cases h with rfl | rfl | rfl | rfl | rfl | rfl | rfl <;> rfl
theorem kndOf_miss {w : ByteArray} (h : ∀ x, isK x = true → ¬ wordK x = w) : kndOf w = 0 := by
  have g : ∀ x, isK x = true → sEq (wordK x) w = false := fun x hx => by
    cases hs : sEq (wordK x) w with
    | false => rfl
    | true => exact absurd (sEq_iff.1 hs) (h x hx)
  unfold kndOf
  rw [g 1 rfl, g 2 rfl, g 3 rfl, g 4 rfl, g 5 rfl, g 6 rfl, g 7 rfl]
  rfl
theorem kndOf_isK {w : ByteArray} (h : kndOf w ≠ 0) : isK (kndOf w) = true ∧ wordK (kndOf w) = w := by
  refine Classical.byContradiction fun hc => h (kndOf_miss fun x hx e => hc ?_)
  subst e
  rw [kndOf_hit hx]
  exact ⟨hx, rfl⟩
def tailS {α : Type} (s : Sl α) : Sl α := ⟨((s.n : Int) - 1).toNat, fun i => s.at_ (1 + i)⟩
def dd0 : Dd := ⟨0, ⟨0, fun _ => 0⟩⟩
def kindS (s : ByteArray) : Int := kndOf ((splitS s 32).at_ 0)
def deedD (s : ByteArray) : Dd := bif kindS s == 0 then dd0 else ⟨kindS s, numsF (tailS (splitS s 32))⟩
def deedB (s : ByteArray) : Bool := bif kindS s == 0 then false else bif rightB (deedD s) then sEq (lineF (wordK (kindS s)) (deedD s).nums) (s ++ ⟨#[10]⟩) else false
/-- How many kinds are not seen yet. -/
def remK (seen : List (List Int)) : Nat := ([1, 2, 3, 4, 5, 6, 7] : List Int).countP fun k => decide ([k] ∉ seen)
theorem countP_lt {p q : Int → Bool} {x : Int} : ∀ (l : List Int), (∀ k, q k = true → p k = true) → x ∈ l → p x = true → q x = false → l.countP q < l.countP p
  | [], _, hx, _, _ => by cases hx
  | y :: l, h, hx, hp, hq => by
    have hle : ∀ l : List Int, l.countP q ≤ l.countP p := fun l => List.countP_mono_left fun k _ => h k
    rw [List.countP_cons, List.countP_cons]
    rcases List.mem_cons.1 hx with rfl | hx
    · rw [hp, hq]
      have := hle l
      simp only [if_true, Bool.false_eq_true, if_false]
      omega
    · have := countP_lt l h hx hp hq
      cases hq' : q y with
      | false =>
        cases p y <;> simp <;> omega
      | true => rw [h y hq']; simp; omega
theorem wordK_size {k : Int} : (wordK k).size ≤ 1000000000 := by
  unfold wordK
  repeat' (first | (cases h : (k == _) <;> simp only [cond_true, cond_false]) | decide)
theorem rightB_small {d : Dd} (h : rightB d = true) : smallS d.nums := (rightB_iff.1 h).small
theorem remK_lt {seen : List (List Int)} {x : Int} (hx : isK x = true) (hn : [x] ∉ seen) : remK ([x] :: seen) < remK seen := by
  refine countP_lt (x := x) _ (fun k hk => ?_) ?_ ?_ ?_
  · simp only [decide_eq_true_eq, List.mem_cons, not_or] at hk ⊢
    exact hk.2
  · rcases isK_cases hx with rfl | rfl | rfl | rfl | rfl | rfl | rfl <;> decide
  · simpa using hn
  · simp

def e_deed : WEnv Tryd.prog lay := ⟨{ tab := tn4, cb := fun i => bif Nat.beq i 5 then some ([0, 1, 0, 4, 12, 31], [false, false, false, false, false, false]) else bif Nat.beq i 7 then some ([0, 0, 2, 6, 14, 30, 14, 78, 254, 14, 526, 2046, 4094, 511, 16383], [false, false, false, false, false, false, false, false, false, false, false, false, false, true, false]) else none, stop := fun i => Nat.beq i 3 }, good, rfl, tn4_ok, (et0_ok _)⟩
theorem deed (s : ByteArray) (hs : s.size ≤ 100000) : PCall Tryd.prog 23 [str s] (.tup [ddC (deedD s), .one (.imm (.val (.bool (deedB s))))]) := by
  refine pwalk e_deed Tryd.func23 rfl 42 rfl rfl ?_
  have f0 : 0 < (splitS s 32).n := Nat.succ_pos _
  have f1 : ∀ i, ((splitS s 32).at_ i).size ≤ 1000000000 := fun i => Nat.le_trans (part_size s 32 i) (by omega)
  have f2 : (splitS s 32).n ≤ 1000000 := by
    have := cnt_size s 32
    show cntB s 32 + 1 ≤ _
    omega
  repeat' (first | refine And.intro ?_ ?_ | refine iT fun _ _ => ?_ | refine iF fun _ _ => ?_ | intro _ | exact sE | exact bE | exact trivial | exact rfl | assumption | omega | (unfold maxLen; omega) | exact bok (by omega) (by decide) | exact slOk_lit | exact slOk_f | exact slOk_nil | exact slOk_1 rfl | exact slOk_2 rfl rfl)
  refine ⟨AW_loopW e_deed [0, 2, 4, 11] [] (fun (seen : List (List Int)) => []) (fun seen => [(1, .it false [.i64] true 2 shDom shVal seen)]) (fun seen => remK seen) (fun seen => ∀ ks ∈ seen, ∃ x, ks = [x] ∧ isK x = true ∧ ¬ wordK x = (splitS s 32).at_ 0) ([]) ?_ ?_⟩
  · repeat' (first | refine And.intro ?_ ?_ | refine iT fun _ _ => ?_ | refine iF fun _ _ => ?_ | intro _ | exact sE | exact bE | exact trivial | exact rfl | assumption | omega | contradiction)
  intro seen hI
  repeat' (first | refine And.intro ?_ ?_ | refine iT fun _ _ => ?_ | refine iF fun _ _ => ?_ | intro _ | exact sE | exact bE | exact trivial | exact rfl | assumption)
  refine ⟨AW_next rfl rfl rfl rfl rfl rfl (by decide) (by decide) rfl rfl rfl (fun hov => ?_) (fun x hx hn => ?_)⟩
  · repeat' (first | refine And.intro ?_ ?_ | refine iT fun _ _ => ?_ | refine iF fun _ _ => ?_ | intro _ | exact sE | exact bE | exact trivial | exact rfl | assumption | omega | contradiction)
    have hk : kindS s = 0 := kndOf_miss fun x hx e => by
      obtain ⟨y, hy, _, hn⟩ := hI _ (hov x hx)
      cases hy
      exact hn e
    unfold deedD deedB
    rw [hk]
    exact sP (sAg ⟨CLe.refl _, cNil, trivial⟩) sE
  · have f3 : (numsF (tailS (splitS s 32))).n ≤ 1000000 := by
      show (((splitS s 32).n : Int) - 1).toNat ≤ _
      omega
    repeat' (first | refine And.intro ?_ ?_ | refine iT fun _ _ => ?_ | refine iF fun _ _ => ?_ | intro _ | exact sE | exact bE | exact trivial | exact rfl | assumption | omega | (unfold maxLen; omega) | exact bok (by omega) (by decide) | exact slOk_lit | exact slOk_f | exact slOk_nil | exact slOk_1 rfl | exact slOk_2 rfl rfl | contradiction | exact f3 | exact wordK_size | exact rightB_small (d := ⟨x, numsF (tailS (splitS s 32))⟩) (by assumption) | (show s.size + 1 ≤ _; omega))
    · have e : wordK x = (splitS s 32).at_ 0 := by assumption
      have hkx : kindS s = x := by
        unfold kindS
        rw [← e]
        exact kndOf_hit hx
      have hx0 : (x == 0) = false := by
        rcases isK_cases hx with rfl | rfl | rfl | rfl | rfl | rfl | rfl <;> rfl
      unfold deedD deedB deedD
      rw [hkx, hx0]
      exact sE
    · refine ⟨[x] :: seen, [], ?_⟩
      have e : ¬ wordK x = (splitS s 32).at_ 0 := by assumption
      repeat' (first | refine And.intro ?_ ?_ | refine iT fun _ _ => ?_ | refine iF fun _ _ => ?_ | intro _ | exact sE | exact bE | exact trivial | exact rfl | assumption | contradiction)
      · exact remK_lt hx hn
      · rename_i ks hks
        rcases List.mem_cons.1 hks with rfl | hks
        · exact ⟨x, rfl, hx, e⟩
        · exact hI ks hks

def tq1 : Tab := tabC1 23 sA (fun s => .tup [ddC (deedD s), .one (.imm (.val (.bool (deedB s))))]) (fun s => s.size ≤ 100000) tab0
theorem tq1_ok : TabOk Tryd.prog tq1 := tabC1_ok rfl (fun s hq => deed s hq) (tab0_ok _)

def tq2 : Tab := tabC1 22 sA (fun s => .tup [bgC s, .one (.imm (.val (.bool (bif bgBad s then false else bgOk s))))]) (fun s => s.size ≤ 1000000000) tq1
theorem tq2_ok : TabOk Tryd.prog tq2 := tabC1_ok rfl (fun s hq => begin s hq) tq1_ok

def tq3 : Tab := tabC2 21 sA kA (fun s k => .tup [str (cutA s k), str (cutZ s k), .one (.imm (.val (.bool (cutB s k))))]) (fun s k => s.size ≤ 4611686018427387904) tq2
theorem tq3_ok : TabOk Tryd.prog tq3 := tabC2_ok rfl (fun s k hq => cutS s k hq) tq2_ok

/-- The lines of a text: what is left behind the first i; the i-th one, whether it ends. -/
def lrest (s : ByteArray) : Nat → ByteArray
  | 0 => s
  | i + 1 => cutZ (lrest s i) 10
def lrow (s : ByteArray) (i : Nat) : ByteArray := cutA (lrest s i) 10
def lend (s : ByteArray) (i : Nat) : Bool := cutB (lrest s i) 10

def bgOkS (s : ByteArray) : Bool := bif bgBad s then false else bgOk s
def planI (s : ByteArray) (i : Nat) : Pl := ⟨(bif bgBad (lrow s 0) then 0 else (bgP (lrow s 0)).procs), (bif bgBad (lrow s 0) then 0 else (bgP (lrow s 0)).nodes), ⟨i, fun q => deedD (lrow s (q + 1))⟩⟩
def badL (s : ByteArray) (i : Nat) : Bool := bif (bif !lend s (i + 1) then true else !deedB (lrow s (i + 1))) then true else ((i : Int) == 200)
def parseGo (s : ByteArray) : Nat → Nat → Pl × Int × Int
  | 0, _ => (pl0, 0, 0)
  | f + 1, i => bif !sEq (lrest s (i + 1)) ⟨#[]⟩ then (bif badL s i then (pl0, 250, (i : Int) + 2) else parseGo s f (i + 1)) else (planI s i, 0, 0)
def parseF (s : ByteArray) : Pl × Int × Int := bif (bif !lend s 0 then true else !bgOkS (lrow s 0)) then (pl0, 250, 1) else parseGo s (s.size + 1) 0
theorem ne_size {s : ByteArray} (h : ¬ s = ⟨#[]⟩) : 0 < s.size := by
  rcases Nat.eq_zero_or_pos s.size with h1 | h1
  · refine absurd (toL_inj ?_) h
    have := toL_len s
    rw [h1] at this
    exact List.length_eq_zero_iff.1 this
  · exact h1
theorem cutZ_size (s : ByteArray) (k : UInt8) : (cutZ s k).size ≤ s.size ∧ (0 < s.size → (cutZ s k).size < s.size) := by
  have := ix_lt s k
  unfold cutZ
  cases h : decide (ixB s k.toNat ≥ 0) with
  | false => exact ⟨Nat.zero_le _, fun h => h⟩
  | true =>
    have h := of_decide_eq_true h
    rw [cond_true, ByteArray.size_extract]
    omega
theorem cutA_size (s : ByteArray) (k : UInt8) : (cutA s k).size ≤ s.size := by
  unfold cutA
  cases decide (ixB s k.toNat ≥ 0) with
  | false => exact Nat.le_refl _
  | true => rw [cond_true, ByteArray.size_extract]; omega
theorem lrest_size (s : ByteArray) : ∀ i, (lrest s i).size ≤ s.size
  | 0 => Nat.le_refl _
  | i + 1 => Nat.le_trans (cutZ_size _ _).1 (lrest_size s i)

def e_Parse : WEnv Tryd.prog lay := ⟨{ tab := tq3 }, good, rfl, tq3_ok, (et0_ok _)⟩
theorem Parse (s : ByteArray) (hs : s.size ≤ 100000) : PCall Tryd.prog 9 [str s] (.tup [plC (parseF s).1, iint (parseF s).2.1, iint (parseF s).2.2]) := by
  refine pwalk e_Parse Tryd.func9 rfl 67 rfl rfl ?_
  have f1 : ∀ i, (lrest s i).size ≤ 100000 := fun i => Nat.le_trans (lrest_size s i) hs
  have f2 : ∀ i, (lrow s i).size ≤ 100000 := fun i => Nat.le_trans (cutA_size _ 10) (f1 i)
  repeat' (first | refine And.intro ?_ ?_ | refine iT fun _ _ => ?_ | refine iF fun _ _ => ?_ | intro _ | exact sE | exact bE | exact trivial | exact rfl | assumption | omega | contradiction | exact Nat.le_trans (f1 0) (by decide) | exact Nat.le_trans (f2 0) (by decide))
  · rename_i _ h
    have h : (bif !lend s 0 then true else !bgOkS (lrow s 0)) = true := h
    unfold parseF
    rw [h]
    exact sT (sAg ⟨CLe.refl _, CLe.refl _, cNil, trivial⟩) sE sE
  rename_i _ h
  have h : (bif !lend s 0 then true else !bgOkS (lrow s 0)) = false := h
  have hp : parseF s = parseGo s (s.size + 1) 0 := by
    unfold parseF
    rw [h]
    rfl
  refine ⟨AW_absent 40 2 (fun _ _ => ivDef) ?_⟩
  refine AW_loopW e_Parse [2, 8] [] (fun (i : Nat) => [(6, .cv (str (lrest s (i + 1)))), (10, .cv (iint ((i : Int) + 2)))]) (fun i => [(1, .var 24 [.imm (.val (.int .i64 (planI s 0).procs)), .imm (.val (.int .i64 (planI s 0).nodes)), .osl 3 2 0 0 i true]), (3, .rows 40 2 i fun q j => ddE.f (deedD (lrow s (q + 1))) j)]) (fun i => (lrest s (i + 1)).size) (fun i => i ≤ 200 ∧ ∃ fu, (lrest s (i + 1)).size < fu ∧ parseF s = parseGo s fu i) (0) ?_ ?_
  · repeat' (first | refine And.intro ?_ ?_ | refine iT fun _ _ => ?_ | refine iF fun _ _ => ?_ | intro _ | exact sE | exact bE | exact trivial | exact rfl | assumption | omega | contradiction)
    · exact ⟨BLe.var ⟨CLe.refl _, CLe.refl _, CLe.empty, trivial⟩⟩
    · exact bR rfl fun q j hq _ => absurd hq (Nat.not_lt_zero q)
    · exact ⟨s.size + 1, Nat.lt_succ_of_le (lrest_size s 1), hp⟩
  rintro i ⟨hi, fu, hf, hg⟩
  obtain ⟨fu, rfl⟩ : ∃ k, fu = k + 1 := ⟨fu - 1, by omega⟩
  repeat' (first | refine And.intro ?_ ?_ | refine iT fun _ _ => ?_ | refine iF fun _ _ => ?_ | intro _ | exact sE | exact bE | exact trivial | exact rfl | assumption | omega | contradiction | exact slOk_lit | exact slOk_f | exact slOk_nil | (unfold maxLen; omega) | exact bok (by omega) (by decide) | exact slOk_1 rfl | exact slOk_2 rfl rfl | exact Nat.le_trans (f1 _) (by decide) | exact f2 _)
  · rename_i h1 _ h2
    have h2 : badL s i = true := h2
    rw [hg, parseGo, h1, h2]
    exact sT (sAg ⟨CLe.refl _, CLe.refl _, cNil, trivial⟩) sE sE
  · rename_i h0 h1 _ h2
    have h2 : badL s i = false := h2
    have hb : ¬ i = 200 := fun e => by
      unfold badL at h2
      have := (bor_f h2).2
      rw [e] at this
      cases this
    refine ⟨i + 1, [(3, 7)], ?_⟩
    repeat' (first | refine And.intro ?_ ?_ | refine iT fun _ _ => ?_ | refine iF fun _ _ => ?_ | intro _ | exact sE | exact bE | exact trivial | exact rfl | assumption | omega | (dsimp only; omega))
    · exact sW (by omega) (by omega) (by omega)
    · refine bR rfl fun q j hq hj => ?_
      show (bif Nat.blt q i then ddE.f (deedD (lrow s (q + 1))) j else [IV.val (.int .i64 (deedD (lrow s (i + 1))).kind), slI i64E (deedD (lrow s (i + 1))).nums].getD (plusN 0 (q - i) * 2 + j) ivDef) = _
      rw [plusN_eq]
      exact app_last (f := fun q j => ddE.f (deedD (lrow s (q + 1))) j) hq fun _ => rfl
    · exact (cutZ_size _ 10).2 (ne_size h0)
    · refine ⟨fu, ?_, ?_⟩
      · have := (cutZ_size (lrest s (i + 1)) 10).2 (ne_size h0)
        show (cutZ (lrest s (i + 1)) 10).size < fu
        omega
      · rw [hg, parseGo, h1, h2]
        rfl
  · rename_i h1
    rw [hg, parseGo, h1]
    refine sT (sAg ⟨CLe.refl _, CLe.refl _, CLe.imm (ILe.sl rfl (fun h => by cases h) (.inr ⟨rfl, fun q j hq hj => ILe.of_eq ?_⟩)), trivial⟩) sE sE
    rw [plusN_eq, Nat.zero_add]
    rfl

end Go.Proofs.YtmpddomgiplnmaaDoor.Abs
