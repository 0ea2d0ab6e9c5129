/-
  NUMBERS, READ.
-/
import Derived.Test.YtmpddomgiplnmaaDoorS5
import Derived.Test.YtmpddomgiplnmaaDoorS2
namespace Go.Proofs.YtmpddomgiplnmaaDoor.Abs
open Go
set_option maxRecDepth 10000

def byteAt (t : ByteArray) (i : Nat) : Int := (t.data.getD i 0).toNat
def nf (t : ByteArray) : Nat → Int
  | 0 => 0
  | i + 1 => IntKind.i64.wrap (IntKind.i64.wrap (IntKind.i64.wrap (10 * nf t i) + IntKind.i64.wrap (byteAt t i)) - 48)
def sgn (s : ByteArray) : Int := bif preB s 45 then -1 else 1
def numF (s : ByteArray) : Int := bif decide (((cpA s 45).size : Int) > 10) then 0 else IntKind.i64.wrap (sgn s * nf (cpA s 45) (cpA s 45).size)

def tn1 : Tab := tabC2 52 sA kA (fun s k => .tup [str (cpA s k), .one (.imm (.val (.bool (preB s k))))]) (fun _ _ => True) tl
theorem tn1_ok : TabOk Tryd.prog tn1 := tabC2_ok rfl (fun s k _ => cutPrefix s k) tl_ok

def e_number : WEnv Tryd.prog lay := ⟨{ tab := tn1, sc := fun i => Nat.beq i 14 }, good, rfl, tn1_ok, (et0_ok _)⟩
theorem number (s : ByteArray) : PCall Tryd.prog 41 [str s] (.cv (iint (numF s))) := by
  refine pwalk e_number Tryd.func41 rfl 36 rfl rfl ?_
  repeat' (first | refine And.intro ?_ ?_ | refine iT fun _ _ => ?_ | refine iF fun _ _ => ?_ | intro _ | exact sE | exact bE | exact trivial | exact rfl | assumption | omega)
  refine ⟨AW_condW e_number [3] [] (fun (_j : Unit) => [(0, .cv (str (cpA s 45))), (4, .cv (iint (sgn s)))]) (fun _j => []) rfl (fun _j => ?_) ?_⟩
  · repeat' (first | refine And.intro ?_ ?_ | refine iT fun _ _ => ?_ | refine iF fun _ _ => ?_ | intro _ | exact sE | exact bE | exact trivial | exact rfl | assumption | omega)
    · rename_i h _
      unfold numF
      rw [decide_eq_true h]
      exact sE
    refine ⟨AW_loopW e_number [4, 20, 21] [] (fun (i : Nat) => [(3, .cv (iint (nf (cpA s 45) i))), (22, .cv (iint i))]) (fun i => []) (fun i => (cpA s 45).size - i) (fun i => i ≤ (cpA s 45).size) (0) ?_ ?_⟩
    · repeat' (first | refine And.intro ?_ ?_ | refine iT fun _ _ => ?_ | refine iF fun _ _ => ?_ | intro _ | exact sE | exact bE | exact trivial | exact rfl | assumption | omega)
    intro i hi
    repeat' (first | refine And.intro ?_ ?_ | refine iT fun _ _ => ?_ | refine iF fun _ _ => ?_ | intro _ | exact sE | exact bE | exact trivial | exact rfl | assumption | omega | (unfold maxLen; omega))
    · refine ⟨i + 1, [], ?_⟩
      repeat' (first | refine And.intro ?_ ?_ | refine iT fun _ _ => ?_ | refine iF fun _ _ => ?_ | intro _ | exact sE | exact bE | exact trivial | exact rfl | assumption | omega | exact sW (by omega) (by omega) (by omega) | (dsimp only; omega))
    · rename_i h _ _ _
      obtain rfl : i = (cpA s 45).size := by omega
      unfold numF
      rw [decide_eq_false h]
      exact sE
  repeat' (first | refine And.intro ?_ ?_ | refine iT fun _ _ => ?_ | refine iF fun _ _ => ?_ | intro _ | exact sE | exact bE | exact trivial | exact rfl | assumption | omega)
  all_goals (refine ⟨(), [], ?_⟩; repeat' (first | refine And.intro ?_ ?_ | refine iT fun _ _ => ?_ | refine iF fun _ _ => ?_ | intro _ | exact sE | exact bE | exact trivial | exact rfl | assumption))
  all_goals (rename_i h; first | exact sI (by unfold sgn; rw [h]; rfl) | exact sS (by unfold cpA; rw [h]; rfl))

def tn2 : Tab := tabC1 41 sA (fun s => .cv (iint (numF s))) (fun _ => True) tn1
theorem tn2_ok : TabOk Tryd.prog tn2 := tabC1_ok rfl (fun s _ => number s) tn1_ok

def numsF (l : Sl ByteArray) : Sl Int := ⟨l.n, fun i => numF (l.at_ i)⟩
def e_numbers : WEnv Tryd.prog lay := ⟨{ tab := tn2 }, good, rfl, tn2_ok, (et0_ok _)⟩
theorem numbers (l : Sl ByteArray) (hl : l.n ≤ 1000000) : PCall Tryd.prog 42 [.one (.imm (slI encStr l))] (.cv (.one (.imm (slI i64E (numsF l))))) := by
  refine pwalk e_numbers Tryd.func42 rfl 19 rfl rfl ?_
  repeat' (first | refine And.intro ?_ ?_ | refine iT fun _ _ => ?_ | refine iF fun _ _ => ?_ | intro _ | exact sE | exact bE | exact trivial | exact rfl | assumption)
  refine ⟨AW_own_empty 3 2 1 (fun _ _ => ivDef) rfl rfl rfl ?_⟩
  refine AW_loopW e_numbers [6, 7] [] (fun (i : Nat) => [(3, .cv (.one (.osl 0 1 0 0 i true))), (8, .cv (iint i))]) (fun i => [(0, .rows 2 1 i fun q _ => .val (.int .i64 (numF (l.at_ q))))]) (fun i => l.n - i) (fun i => i ≤ l.n) (0) ?_ ?_
  · repeat' (first | refine And.intro ?_ ?_ | refine iT fun _ _ => ?_ | refine iF fun _ _ => ?_ | intro _ | exact sE | exact bE | exact trivial | exact rfl | assumption | omega)
    refine bR rfl fun q j hq hj => absurd hq (Nat.not_lt_zero q)
  intro i hi
  repeat' (first | refine And.intro ?_ ?_ | refine iT fun _ _ => ?_ | refine iF fun _ _ => ?_ | intro _ | exact sE | exact bE | exact trivial | exact rfl | assumption | omega | (unfold maxLen; omega) | exact bok (by omega) (by decide) | exact slOk_lit)
  · refine ⟨i + 1, [(0, 2)], ?_⟩
    repeat' (first | refine And.intro ?_ ?_ | refine iT fun _ _ => ?_ | refine iF fun _ _ => ?_ | intro _ | exact sE | exact bE | exact trivial | exact rfl | assumption | omega | exact sW (by omega) (by omega) (by omega) | (dsimp only; omega))
    refine bR rfl fun q j hq hj => ?_
    obtain rfl : j = 0 := by have hj : j < 1 := hj; omega
    show (bif Nat.blt q i then IV.val (.int .i64 (numF (l.at_ q))) else [IV.val (.int .i64 (numF (l.at_ i)))].getD (plusN 0 (q - i) * 1 + 0) ivDef) = .val (.int .i64 (numF (l.at_ q)))
    rw [plusN_eq]
    exact rowS (f := fun q => .val (.int .i64 (numF (l.at_ q)))) hq rfl
  · obtain rfl : i = l.n := by omega
    refine sR rfl fun q j hq hj => ?_
    obtain rfl : j = 0 := by omega
    rw [plusN_eq, Nat.zero_add]
    rfl

def tn3 : Tab := tabC1 42 (codSl encStr) (fun l => .cv (.one (.imm (slI i64E (numsF l))))) (fun l => l.n ≤ 1000000) tn2
theorem tn3_ok : TabOk Tryd.prog tn3 := tabC1_ok rfl (fun l hq => numbers l hq) tn2_ok

def tn4 : Tab := tabC2 40 sA kA (fun s k => .cv (.one (.imm (slI encStr (splitS s k))))) (fun s k => s.size ≤ 1000000000) tn3
theorem tn4_ok : TabOk Tryd.prog tn4 := tabC2_ok rfl (fun s k hq => Split s k hq) tn3_ok

/-- The first line, read. -/
def bgBad (s : ByteArray) : Bool := bif ((splitS s 32).n : Int) != 3 then true else !sEq ((splitS s 32).at_ 0) ⟨#[115, 116, 111, 114, 101]⟩
def bgP (s : ByteArray) : Pl := ⟨numF ((splitS s 32).at_ 1), numF ((splitS s 32).at_ 2), ⟨0, fun _ => ⟨0, ⟨0, fun _ => 0⟩⟩⟩⟩
def two (a b : Int) : Sl Int := ⟨2, fun i => ivInt ([IV.val (.int .i64 a), .val (.int .i64 b)].getD (i * 1 + 0) ivDef)⟩
def bgOk (s : ByteArray) : Bool := bif beginsB (bgP s) then sEq (lineF ((splitS s 32).at_ 0) (two (bgP s).procs (bgP s).nodes)) (s ++ ⟨#[10]⟩) else false
theorem part_size (s : ByteArray) (k : UInt8) (i : Nat) : (partS s k i).size ≤ s.size := by
  have := rest_size s k i
  unfold partS
  cases Nat.blt i (cntB s k) with
  | true => rw [cond_true, ByteArray.size_extract]; omega
  | false => exact this
theorem small3 {p : Pl} (h : beginsB p = true) : smallS (two p.procs p.nodes) := ⟨by show 2 ≤ 1000000; decide, fun i hi => by
    have h := beginsB_iff.1 h
    match i, hi with
    | 0, _ => show -4611686018427387904 < p.procs ∧ p.procs < 4611686018427387904; omega
    | 1, _ => show -4611686018427387904 < p.nodes ∧ p.nodes < 4611686018427387904; omega⟩
/-- A plan without deeds: its slice of deeds is nil. -/
def nilS : AV := .imm (.sl 0 0 true fun _ _ => ivDef)
def bgC (s : ByteArray) : CV := .agg [.imm (.val (.int .i64 (bif bgBad s then 0 else (bgP s).procs))), .imm (.val (.int .i64 (bif bgBad s then 0 else (bgP s).nodes))), nilS]
def pl0 : Pl := ⟨0, 0, ⟨0, fun _ => ⟨0, ⟨0, fun _ => 0⟩⟩⟩⟩

def e_begin : WEnv Tryd.prog lay := ⟨{ tab := tn4, fz := fun i => bif Nat.beq i 5 then [11] else [], cb := fun i => bif Nat.beq i 4 then some ([0, 1, 3, 7, 0, 16, 48, 127, 255, 0, 1023], [false, false, false, false, false, false, false, false, false, true, true]) else bif Nat.beq i 5 then some ([0, 0, 2, 6, 14, 30, 62, 14, 142, 14, 526, 1934, 4094, 14, 8206, 32766, 65534, 8191, 262143], [false, false, false, false, false, false, false, false, false, false, false, false, false, false, false, false, false, true, false]) else none }, good, rfl, tn4_ok, (et0_ok _)⟩
theorem begin (s : ByteArray) (hs : s.size ≤ 1000000000) : PCall Tryd.prog 22 [str s] (.tup [bgC s, .one (.imm (.val (.bool (bif bgBad s then false else bgOk s))))]) := by
  refine pwalk e_begin Tryd.func22 rfl 44 rfl rfl ?_
  have f1 : ∀ i, ((splitS s 32).at_ i).size ≤ 1000000000 := fun i => Nat.le_trans (part_size s 32 i) hs
  repeat' (first | refine And.intro ?_ ?_ | refine iT fun _ _ => ?_ | refine iF fun _ _ => ?_ | intro _ | exact sE | exact bE | exact trivial | exact rfl | assumption | omega | (unfold maxLen; omega) | exact bok (by omega) (by decide) | exact slOk_lit | exact slOk_f | exact slOk_nil | exact slOk_1 rfl | exact slOk_2 rfl rfl | exact f1 _ | exact small3 (p := bgP s) (by assumption) | (show s.size + 1 ≤ _; omega))
  · rename_i _ h
    have h : bgBad s = true := h
    unfold bgC
    rw [h]
    exact sE
  · rename_i _ h
    have h : bgBad s = false := h
    unfold bgC
    rw [h]
    exact sE

end Go.Proofs.YtmpddomgiplnmaaDoor.Abs
