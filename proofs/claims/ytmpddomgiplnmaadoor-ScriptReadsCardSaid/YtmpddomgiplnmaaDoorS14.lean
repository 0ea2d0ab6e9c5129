/-
  THE REFERENCE'S READING, WALKED: parts, numbers, lines.
-/
import Derived.Test.YtmpddomgiplnmaaDoorSq4
import Derived.Test.YtmpddomgiplnmaaDoorS11
namespace Go.Proofs.YtmpddomgiplnmaaDoor.Abs
open Go
set_option maxRecDepth 10000

noncomputable section

/-- In the midst of a text: t behind the last separator, c parts ahead of it. -/
structure SInv (s : ByteArray) (i c : Nat) (t : ByteArray) : Prop where
  le : i ≤ s.size
  lc : c < (splitS s 32).n
  lt : t.size ≤ i
  rest : (splitL 32 (toL s)).drop c = splitL 32 (toL t ++ (toL s).drop i)
  nl : (32 : UInt8) ∉ toL t
theorem SInv.start (s : ByteArray) : SInv s 0 0 ⟨#[]⟩ := ⟨Nat.zero_le _, Nat.succ_pos _, Nat.zero_le _, rfl, by decide⟩
theorem SInv.at_ {s t : ByteArray} {i c : Nat} {l : List (List UInt8)} (h : SInv s i c t) (hl : (splitL 32 (toL s)).drop c = toL t :: l) : (splitS s 32).at_ c = t := by
  have h1 := split_at s 32 c h.lc
  have h2 : ((splitL 32 (toL s)).drop c)[0]? = some (toL t) := by rw [hl]; rfl
  rw [List.getElem?_drop, Nat.add_zero, h1] at h2
  exact toL_inj (Option.some.inj h2)
theorem SInv.hit {s t : ByteArray} {i c : Nat} (h : SInv s i c t) (hi : i < s.size) (hb : byteAt s i = 32) : (splitS s 32).at_ c = t ∧ SInv s (i + 1) (c + 1) ⟨#[]⟩ := by
  obtain ⟨x, h1, h2⟩ := drop_at hi
  have hx : x = 32 := by
    refine UInt8.toNat_inj.1 ?_
    have : ((x.toNat : Nat) : Int) = 32 := by rw [← h2]; exact hb
    show x.toNat = 32
    omega
  have hr := h.rest
  rw [h1, hx, splitL_hit 32 _ _ h.nl] at hr
  have hn := split_n s 32
  have hl := congrArg List.length hr
  have hp := List.length_pos_iff.2 (splitL_ne 32 ((toL s).drop (i + 1)))
  rw [List.length_drop, List.length_cons] at hl
  refine ⟨h.at_ hr, hi, by omega, Nat.zero_le _, ?_, by decide⟩
  have := congrArg List.tail hr
  rw [List.tail_drop, List.tail_cons] at this
  exact this
theorem SInv.step {s t : ByteArray} {i c : Nat} (h : SInv s i c t) (hi : i < s.size) (hb : byteAt s i ≠ 32) : SInv s (i + 1) c (t ++ s.extract i (i + 1)) := by
  obtain ⟨x, h1, h2⟩ := drop_at hi
  have hx := toL_at h1 hi
  refine ⟨hi, h.lc, ?_, ?_, ?_⟩
  · rw [ByteArray.size_append, ByteArray.size_extract]
    have := h.lt
    omega
  · rw [h.rest, h1, toL_append, hx]
    simp
  · rw [toL_append, hx, List.mem_append, List.mem_singleton, not_or]
    refine ⟨h.nl, fun e => hb ?_⟩
    rw [h2, ← e]
    rfl
theorem SInv.done {s t : ByteArray} {c : Nat} (h : SInv s s.size c t) : (splitS s 32).at_ c = t ∧ c + 1 = (splitS s 32).n := by
  have hr := h.rest
  rw [← toL_len, List.drop_length, List.append_nil, splitL_miss 32 _ h.nl] at hr
  have hn := split_n s 32
  have hl := congrArg List.length hr
  rw [List.length_drop, List.length_singleton] at hl
  exact ⟨h.at_ hr, by omega⟩

def e_splitR : WEnv Tryd.prog lay := ⟨{ tab := tab0 }, good, rfl, (tab0_ok _), (et0_ok _)⟩
theorem splitR (s : ByteArray) (hs : s.size ≤ 1000000000) : PCall Tryd.prog 46 [str s] (.cv (.one (.imm (slI encStr (splitS s 32))))) := by
  refine pwalk e_splitR Tryd.func46 rfl 33 rfl rfl ?_
  repeat' (first | refine And.intro ?_ ?_ | refine iT fun _ _ => ?_ | refine iF fun _ _ => ?_ | intro _ | exact sE | exact bE | exact trivial | exact rfl | assumption | omega)
  refine ⟨AW_loopW e_splitR [0] [] (fun (p : Nat × Nat × ByteArray) => [(3, .cv (.one (.osl 0 1 0 0 p.2.1 true))), (4, .cv (str p.2.2)), (5, .cv (iint p.1))]) (fun p => [(0, .rows 9 1 p.2.1 fun q _ => .val (.string ((splitS s 32).at_ q)))]) (fun p => s.size - p.1) (fun p => SInv s p.1 p.2.1 p.2.2) ((0, 0, ⟨#[]⟩)) ?_ ?_⟩
  · repeat' (first | refine And.intro ?_ ?_ | refine iT fun _ _ => ?_ | refine iF fun _ _ => ?_ | intro _ | exact sE | exact bE | exact trivial | exact rfl | assumption | omega)
    all_goals first | exact SInv.start s | exact bR rfl fun q j hq hj => absurd hq (Nat.not_lt_zero q)
  rintro ⟨i, c, t⟩ hI
  have hI : SInv s i c t := hI
  have h1 := hI.le; have h2 := hI.lt; have h3 := cnt_size s 32
  have h4 : c < cntB s 32 + 1 := hI.lc
  have w1 : IntKind.i64.wrap ((i : Int) + 1) = i + 1 := by rw [IntKind.wrap_i64]; omega
  have hex : (s.extract i (i + 1)).size ≤ 1 := by rw [ByteArray.size_extract]; omega
  repeat' (first | refine And.intro ?_ ?_ | refine iT fun _ _ => ?_ | refine iF fun _ _ => ?_ | intro _ | exact sE | exact bE | exact trivial | exact rfl | assumption | omega | (show (c + 1) * 16 ≤ _; omega) | (unfold maxLen; dsimp only; omega) | (show (i : Int) ≤ IntKind.i64.wrap ((i : Int) + 1); omega) | (show IntKind.i64.wrap ((i : Int) + 1) ≤ _; omega) | (show t.size + (s.extract i (IntKind.i64.wrap ((i : Int) + 1)).toNat).size ≤ _; rw [w1, show ((i : Int) + 1).toNat = i + 1 from by omega]; omega))
  · have hb : byteAt s i = 32 := by assumption
    obtain ⟨e1, e2⟩ := hI.hit (by omega) hb
    refine ⟨(i + 1, c + 1, ⟨#[]⟩), [(0, 2)], ?_⟩
    repeat' (first | refine And.intro ?_ ?_ | refine iT fun _ _ => ?_ | refine iF fun _ _ => ?_ | intro _ | exact sE | exact bE | exact trivial | exact rfl | assumption | omega | exact sW (by omega) (by omega) (by omega) | (dsimp only; omega) | exact e2)
    refine bR rfl fun q j hq hj => ?_
    obtain rfl : j = 0 := by have hj : j < 1 := hj; omega
    show (bif Nat.blt q c then IV.val (.string ((splitS s 32).at_ q)) else [IV.val (.string t)].getD (plusN 0 (q - c) * 1 + 0) ivDef) = .val (.string ((splitS s 32).at_ q))
    rw [plusN_eq]
    exact rowS (f := fun q => .val (.string ((splitS s 32).at_ q))) hq (by rw [e1])
  · have hb : ¬ byteAt s i = 32 := by assumption
    refine ⟨(i + 1, c, t ++ s.extract i (i + 1)), [], ?_⟩
    repeat' (first | refine And.intro ?_ ?_ | refine iT fun _ _ => ?_ | refine iF fun _ _ => ?_ | intro _ | exact sE | exact bE | exact trivial | exact rfl | assumption | omega | exact sW (by omega) (by omega) (by omega) | (dsimp only; omega) | exact hI.step (by omega) hb)
    refine sS ?_
    show t ++ s.extract i (IntKind.i64.wrap ((i : Int) + 1)).toNat = _
    rw [w1, show ((i : Int) + 1).toNat = i + 1 from by omega]
  · obtain rfl : i = s.size := by omega
    obtain ⟨e1, e2⟩ := hI.done
    refine sR e2.symm fun q j hq hj => ?_
    obtain rfl : j = 0 := by have hj : j < 1 := hj; omega
    show (bif Nat.blt (plusN 0 q) c then IV.val (.string ((splitS s 32).at_ (plusN 0 q))) else [IV.val (.string t)].getD (plusN 0 (plusN 0 q - c) * 1 + 0) ivDef) = .val (.string ((splitS s 32).at_ q))
    rw [plusN_eq, plusN_eq, Nat.zero_add q]
    have hq : q < c + 1 := hq
    exact rowS (f := fun q => .val (.string ((splitS s 32).at_ q))) hq (by rw [e1])
  

theorem sEq_f' {a b : ByteArray} (h : ¬ a = b) : sEq a b = false := by
  cases hs : sEq a b with
  | false => rfl
  | true => exact absurd (sEq_iff.1 hs) h
theorem negR_t {s : ByteArray} (h0 : 0 < s.size) (h : byteAt s 0 = 45) : negR s = true := by
  obtain ⟨x, h1, h2⟩ := drop_at h0
  rw [List.drop_zero] at h1
  unfold negR
  rw [h1]
  show ((x.toNat : Int) == 45) = true
  rw [← h2, h]
  rfl
theorem negR_f {s : ByteArray} (h : 0 < s.size → ¬ byteAt s 0 = 45) : negR s = false := by
  unfold negR
  rcases Nat.eq_zero_or_pos s.size with h0 | h0
  · rw [List.length_eq_zero_iff.1 (show (toL s).length = 0 by rw [toL_len]; exact h0)]
    rfl
  · obtain ⟨x, h1, h2⟩ := drop_at h0
    rw [List.drop_zero] at h1
    rw [h1]
    show ((x.toNat : Int) == 45) = false
    have := h h0
    rw [h2] at this
    simpa using this
theorem frR_le (s : ByteArray) : frR s ≤ s.size := by
  unfold frR
  cases h : negR s with
  | false => exact Nat.zero_le _
  | true =>
    rcases Nat.eq_zero_or_pos s.size with h0 | h0
    · unfold negR at h
      rw [List.length_eq_zero_iff.1 (show (toL s).length = 0 by rw [toL_len]; exact h0)] at h
      cases h
    · exact h0
structure NInv (s : ByteArray) (i : Nat) (n : Int) : Prop where
  le : i ≤ s.size
  lo : 0 ≤ n
  hi : n ≤ 10737418249
  go : numR s = finR s (lr ((toL s).drop i) n)
theorem NInv.start (s : ByteArray) : NInv s (frR s) 0 := ⟨frR_le s, by decide, by decide, rfl⟩
theorem NInv.bad {s : ByteArray} {i : Nat} {n : Int} (h : NInv s i n) (hi : i < s.size) (hb : (byteAt s i < 48 ∨ byteAt s i > 57) ∨ n > 1073741824) : numR s = 2147483648 := by
  obtain ⟨x, h1, h2⟩ := drop_at hi
  rw [h.go, h1, lr]
  rw [h2] at hb
  have : (bif (bif decide ((x.toNat : Int) < 48) then true else decide ((x.toNat : Int) > 57)) then true else decide (n > 1073741824)) = true := by
    rcases hb with (hb | hb) | hb
    · rw [decide_eq_true hb]; rfl
    · rw [decide_eq_true hb]; cases decide ((x.toNat : Int) < 48) <;> rfl
    · rw [decide_eq_true hb]; cases (bif decide ((x.toNat : Int) < 48) then true else decide ((x.toNat : Int) > 57)) <;> rfl
  rw [this]
  rfl
theorem NInv.step {s : ByteArray} {i : Nat} {n : Int} (h : NInv s i n) (hi : i < s.size) (hb : ¬ ((byteAt s i < 48 ∨ byteAt s i > 57) ∨ n > 1073741824)) : IntKind.i64.wrap (IntKind.i64.wrap (10 * n) + IntKind.i64.wrap (IntKind.u8.wrap (byteAt s i - 48))) = 10 * n + (byteAt s i - 48) ∧ NInv s (i + 1) (10 * n + (byteAt s i - 48)) := by
  obtain ⟨x, h1, h2⟩ := drop_at hi
  have h3 := h.lo
  refine ⟨?_, hi, by omega, by omega, ?_⟩
  · simp only [IntKind.wrap_i64, IntKind.wrap_u8]
    omega
  · rw [h.go, h1, lr]
    rw [h2] at hb ⊢
    rw [decide_eq_false (by omega), decide_eq_false (by omega), decide_eq_false (by omega)]
    rfl
theorem NInv.done {s : ByteArray} {n : Int} (h : NInv s s.size n) : numR s = bif sEq (wrF (bif negR s then 0 - n else n)) s then (bif negR s then 0 - n else n) else 2147483648 := by
  have := h.go
  rw [← toL_len, List.drop_length] at this
  exact this

def e_numberR : WEnv Tryd.prog lay := ⟨{ tab := r5, sc := fun i => Nat.beq i 13 || Nat.beq i 44 }, good, rfl, r5_ok, (et0_ok _)⟩
theorem numberR (s : ByteArray) (hs : s.size ≤ 1000000000) : PCall Tryd.prog 47 [str s] (.cv (iint (numR s))) := by
  refine pwalk e_numberR Tryd.func47 rfl 52 rfl rfl ?_
  repeat' (first | refine And.intro ?_ ?_ | refine iT fun _ _ => ?_ | refine iF fun _ _ => ?_ | intro _ | exact sE | exact bE | exact trivial | exact rfl | assumption | omega)
  refine ⟨AW_condW e_numberR [0, 3] [] (fun (_j : Unit) => [(4, .cv (iint (frR s)))]) (fun _j => []) rfl (fun _j => ?_) ?_⟩
  · repeat' (first | refine And.intro ?_ ?_ | refine iT fun _ _ => ?_ | refine iF fun _ _ => ?_ | intro _ | exact sE | exact bE | exact trivial | exact rfl | assumption | omega)
    refine ⟨AW_loopW e_numberR [0, 4] [] (fun (p : Nat × Int) => [(3, .cv (iint p.2)), (5, .cv (iint p.1))]) (fun p => []) (fun p => s.size - p.1) (fun p => NInv s p.1 p.2) ((frR s, 0)) ?_ ?_⟩
    · repeat' (first | refine And.intro ?_ ?_ | refine iT fun _ _ => ?_ | refine iF fun _ _ => ?_ | intro _ | exact sE | exact bE | exact trivial | exact rfl | assumption | omega | exact NInv.start s)
    rintro ⟨i, n⟩ hI
    have hI : NInv s i n := hI
    have h1 := hI.le; have h2 := hI.lo; have h3 := hI.hi
    have w1 : IntKind.i64.wrap ((i : Int) + 1) = i + 1 := by rw [IntKind.wrap_i64]; omega
    repeat' (first | refine And.intro ?_ ?_ | refine iT fun _ _ => ?_ | refine iF fun _ _ => ?_ | intro _ | exact sE | exact bE | exact trivial | exact rfl | assumption | omega)
    · exact sI (hI.bad (by omega) (by assumption)).symm
    · obtain ⟨e1, e2⟩ := hI.step (by omega) (by assumption)
      refine ⟨(i + 1, 10 * n + (byteAt s i - 48)), [], ?_⟩
      repeat' (first | refine And.intro ?_ ?_ | refine iT fun _ _ => ?_ | refine iF fun _ _ => ?_ | intro _ | exact sE | exact bE | exact trivial | exact rfl | assumption | omega | exact sW (by omega) (by omega) (by omega) | (dsimp only; omega) | exact e2 | exact sI e1)
    · refine ⟨AW_condW e_numberR [0] [] (fun (_j : Unit) => [(3, .cv (iint (bif negR s then 0 - n else n)))]) (fun _j => []) rfl (fun _j => ?_) ?_⟩
      · obtain rfl : i = s.size := by omega
        have hd := hI.done
        have hb : -4611686018427387904 < (bif negR s then 0 - n else n) ∧ (bif negR s then 0 - n else n) < 4611686018427387904 := by cases negR s <;> simp only [cond_true, cond_false] <;> omega
        repeat' (first | refine And.intro ?_ ?_ | refine iT fun _ _ => ?_ | refine iF fun _ _ => ?_ | intro _ | exact sE | exact bE | exact trivial | exact rfl | assumption | omega | exact hb.1 | exact hb.2)
        · have g : ¬ wrF (bif negR s then 0 - n else n) = s := by assumption
          exact sI (by rw [hd, sEq_f' g]; rfl)
        · have g : wrF (bif negR s then 0 - n else n) = s := Classical.byContradiction (by assumption)
          exact sI (by rw [hd, sEq_iff.2 g]; rfl)
      repeat' (first | refine And.intro ?_ ?_ | refine iT fun _ _ => ?_ | refine iF fun _ _ => ?_ | intro _ | exact sE | exact bE | exact trivial | exact rfl | assumption | omega)
      all_goals (refine ⟨(), [], ?_⟩; repeat' (first | refine And.intro ?_ ?_ | refine iT fun _ _ => ?_ | refine iF fun _ _ => ?_ | intro _ | exact sE | exact bE | exact trivial | exact rfl | assumption))
      · have g : ((frR s : Nat) : Int) = 1 := by assumption
        have g : negR s = true := by
          unfold frR at g
          cases h : negR s with
          | true => rfl
          | false => rw [h] at g; cases g
        exact sI (by rw [g, cond_true, IntKind.wrap_i64]; omega)
      · have g : ¬ ((frR s : Nat) : Int) = 1 := by assumption
        have g : negR s = false := by
          unfold frR at g
          cases h : negR s with
          | false => rfl
          | true => rw [h] at g; exact absurd rfl g
        exact sI (by rw [g]; rfl)
  repeat' (first | refine And.intro ?_ ?_ | refine iT fun _ _ => ?_ | refine iF fun _ _ => ?_ | intro _ | exact sE | exact bE | exact trivial | exact rfl | assumption | omega)
  all_goals (refine ⟨(), [], ?_⟩; repeat' (first | refine And.intro ?_ ?_ | refine iT fun _ _ => ?_ | refine iF fun _ _ => ?_ | intro _ | exact sE | exact bE | exact trivial | exact rfl | assumption))
  · rename_i h _
    exact sI (by unfold frR; rw [negR_t (by omega) h.2]; rfl)
  · rename_i h _
    exact sI (by unfold frR; rw [negR_f fun h0 e => h ⟨by omega, e⟩]; rfl)
  

end
end Go.Proofs.YtmpddomgiplnmaaDoor.Abs
