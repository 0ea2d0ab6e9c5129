/-
  strings.Split AT A SEPARATOR OF ONE BYTE.
-/
import Derived.Test.YtmpddomgiplnmaaDoorS4
import Derived.Test.YtmpddomgiplnmaaDoorSq1
namespace Go.Proofs.YtmpddomgiplnmaaDoor.Abs
open Go
set_option maxRecDepth 10000

open Lib
/-- What is left behind the first i separators; the i-th part. -/
def restS (s : ByteArray) (k : UInt8) : Nat → ByteArray
  | 0 => s
  | i + 1 => (restS s k i).extract (ixB (restS s k i) k.toNat + 1).toNat (restS s k i).size
def partS (s : ByteArray) (k : UInt8) (i : Nat) : ByteArray := bif Nat.blt i (cntB s k) then (restS s k i).extract 0 (ixB (restS s k i) k.toNat).toNat else restS s k i
def splitS (s : ByteArray) (k : UInt8) : Sl ByteArray := ⟨cntB s k + 1, partS s k⟩
theorem byte_k (k : UInt8) : ((k.toNat : Int).toNat.toUInt8) = k := by simp
theorem ixB_eq (s : ByteArray) (k : UInt8) : ixB s k.toNat = indexByte (toL s) k := by rw [ixB, byte_k]
theorem cntB_eq (s : ByteArray) (k : UInt8) : cntB s k = (toL s).count k := by rw [cntB, byte_k]; rfl
theorem ix_cnt (s : ByteArray) (k : UInt8) : 0 ≤ ixB s k.toNat ↔ 0 < cntB s k := by
  rw [ixB_eq, cntB_eq, List.count_pos_iff]
  have := ib_miss k (toL s)
  by_cases h : k ∈ toL s
  · exact ⟨fun _ => h, fun _ => by
      rcases Int.lt_or_le (indexByte (toL s) k) 0 with h1 | h1
      · exact absurd h (this.1 h1)
      · exact h1⟩
  · have := this.2 h
    exact ⟨fun h => by omega, fun h' => absurd h' h⟩
theorem cnt_next (s : ByteArray) (k : UInt8) (h : 0 ≤ ixB s k.toNat) : cntB (s.extract (ixB s k.toNat + 1).toNat s.size) k + 1 = cntB s k := by
  rw [cntB_eq, cntB_eq, toL_behind]
  rw [ixB_eq] at h ⊢
  obtain ⟨i, hi⟩ := Int.eq_ofNat_of_zero_le h
  obtain ⟨g1, g2, _⟩ := ib_hit k (toL s) i hi
  rw [hi]
  have e : ((i : Int) + 1).toNat = i + 1 := by omega
  rw [e]
  have e2 : (toL s).count k = ((toL s).take i ++ k :: (toL s).drop (i + 1)).count k := by rw [← g1]
  rw [e2, List.count_append, List.count_cons_self, List.count_eq_zero.2 g2]
  omega
theorem rest_cnt (s : ByteArray) (k : UInt8) : ∀ i, i ≤ cntB s k → cntB (restS s k i) k + i = cntB s k
  | 0, _ => rfl
  | i + 1, h => by
    have h1 := rest_cnt s k i (by omega)
    have h2 := cnt_next (restS s k i) k ((ix_cnt _ k).2 (by omega))
    rw [restS]
    omega
theorem rest_size (s : ByteArray) (k : UInt8) : ∀ i, (restS s k i).size ≤ s.size
  | 0 => Nat.le_refl _
  | i + 1 => by
    rw [restS, ByteArray.size_extract]
    have := rest_size s k i
    omega
theorem cnt_size (s : ByteArray) (k : UInt8) : cntB s k ≤ s.size := by
  rw [cntB_eq, ← toL_len]
  exact List.count_le_length

def e_genSplit : WEnv Tryd.prog lay := ⟨{ tab := ts7 }, good, rfl, ts7_ok, (et0_ok _)⟩
theorem genSplit (s : ByteArray) (k : UInt8) (hs : s.size ≤ 1000000000) : PCall Tryd.prog 51 [str s, str ⟨#[k]⟩, iint 0, iint (-1)] (.cv (.one (.imm (slI encStr (splitS s k))))) := by
  refine pwalk e_genSplit Tryd.func51 rfl 66 rfl rfl ?_
  have e1 := one_size k
  have e2 : ¬ (⟨#[k]⟩ : ByteArray) = ⟨#[]⟩ := fun h => by cases h
  have hc := cnt_size s k
  have w1 : IntKind.i64.wrap (s.size + 1) = s.size + 1 := by rw [IntKind.wrap_i64]; omega
  have w2 : IntKind.i64.wrap (cntB s k + 1) = cntB s k + 1 := by rw [IntKind.wrap_i64]; omega
  have hn : (if IntKind.i64.wrap (s.size + 1) < IntKind.i64.wrap (cntB s k + 1) then IntKind.i64.wrap (s.size + 1) else IntKind.i64.wrap (cntB s k + 1)) = cntB s k + 1 := by
    rw [w1, w2]
    split <;> omega
  repeat' (first | refine And.intro ?_ ?_ | refine iT fun _ _ => ?_ | refine iF fun _ _ => ?_ | intro _ | exact sE | exact bE | exact trivial | exact rfl | assumption | omega | exact absurd (by assumption) e2 | (rw [hn]; omega) | (rw [hn]; show (16 : Int) * _ ≤ _; omega))
  refine ⟨AW_loopW e_genSplit [1, 2] [] (fun (i : Nat) => [(0, .cv (str (restS s k i))), (10, .cv (iint i)), (3, .cv (iint (cntB s k))), (9, .cv (.one (.osl 0 1 0 0 (cntB s k + 1) true)))]) (fun i => [(0, .rows 9 1 (cntB s k + 1) fun q _ => .val (.string (bif Nat.blt q i then partS s k q else ⟨#[]⟩)))]) (fun i => cntB s k - i) (fun i => i ≤ cntB s k) (0) ?_ ?_⟩
  · repeat' (first | refine And.intro ?_ ?_ | refine iT fun _ _ => ?_ | refine iF fun _ _ => ?_ | intro _ | exact sE | exact bE | exact trivial | exact rfl | assumption | omega | (rw [hn]; exact sW (by omega) (by omega) (by omega)))
    · refine sL ?_
      rw [hn]; omega
    refine bR ?_ fun q j hq hj => ?_
    · rw [hn]; omega
    obtain rfl : j = 0 := by have hj : j < 1 := hj; omega
    rw [blt0]
    rfl
  intro i hi
  have hrs := rest_size s k i
  have hl := ix_lt (restS s k i) k
  have hcn := rest_cnt s k i hi
  have hx : cntB s k ≤ i ∨ 0 ≤ ixB (restS s k i) k.toNat := (Nat.lt_or_ge i (cntB s k)).elim (fun h => .inr ((ix_cnt _ k).2 (by omega))) .inl
  have w3 : IntKind.i64.wrap ((i : Int) + 1) = i + 1 := by rw [IntKind.wrap_i64]; omega
  have w4 : 0 ≤ ixB (restS s k i) k.toNat → IntKind.i64.wrap (ixB (restS s k i) k.toNat + 0) = ixB (restS s k i) k.toNat := fun h => by rw [IntKind.wrap_i64]; omega
  have w5 : 0 ≤ ixB (restS s k i) k.toNat → IntKind.i64.wrap (ixB (restS s k i) k.toNat + ((ByteArray.mk #[k]).size : Nat)) = ixB (restS s k i) k.toNat + 1 := fun h => by rw [IntKind.wrap_i64]; omega
  repeat' (first | refine And.intro ?_ ?_ | refine iT fun _ _ => ?_ | refine iF fun _ _ => ?_ | intro _ | exact sE | exact bE | exact trivial | exact rfl | assumption | omega | (rw [plusN_eq]; omega) | (rw [w3]; omega) | (rw [plusN_eq, w3]; omega) | (rw [w4 (by omega)]; omega) | (rw [w5 (by omega)]; omega))
  · refine ⟨i + 1, [], ?_⟩
    repeat' (first | refine And.intro ?_ ?_ | refine iT fun _ _ => ?_ | refine iF fun _ _ => ?_ | intro _ | exact sE | exact bE | exact trivial | exact rfl | assumption | omega | exact sW (by omega) (by omega) (by omega) | (dsimp only; omega))
    · refine sS ?_
      rw [w5 (by omega)]
      rfl
    · refine bR rfl fun q j hq hj => ?_
      obtain rfl : j = 0 := by omega
      show (bif Nat.beq q (plusN 0 i) && _ then IV.val (Value.string ((restS s k i).extract 0 (IntKind.i64.wrap (ixB (restS s k i) k.toNat + 0)).toNat)) else .val (.string (bif Nat.blt q i then partS s k q else ⟨#[]⟩))) = .val (.string (bif Nat.blt q (i + 1) then partS s k q else ⟨#[]⟩))
      rw [plusN_eq, Nat.zero_add, w4 (by omega)]
      rcases Nat.lt_trichotomy q i with h | rfl | h
      · rw [beq_f (show q ≠ i by omega), blt_t h, blt_t (show q < i + 1 by omega)]
        rfl
      · rw [Nat.beq_refl, blt_t (Nat.lt_succ_self q)]
        unfold partS
        rw [blt_t (show q < cntB s k by omega)]
        rfl
      · rw [beq_f (show q ≠ i by omega), blt_f (show i ≤ q by omega), blt_f (show i + 1 ≤ q by omega)]
        rfl
  · obtain rfl : i = cntB s k := by omega
    refine sR ?_ fun q j hq hj => ?_
    · rw [w3]; show cntB s k + 1 = _; omega
    obtain rfl : j = 0 := by omega
    show (bif Nat.beq (plusN 0 q) (plusN 0 (cntB s k)) && _ then IV.val (Value.string (restS s k (cntB s k))) else .val (.string (bif Nat.blt (plusN 0 q) (cntB s k) then partS s k (plusN 0 q) else ⟨#[]⟩))) = .val (.string (partS s k q))
    rw [plusN_eq, plusN_eq, Nat.zero_add, Nat.zero_add]
    rcases Nat.lt_or_ge q (cntB s k) with h | h
    · rw [beq_f (by omega), blt_t h]
      rfl
    · obtain rfl : q = cntB s k := by rw [w3] at hq; omega
      rw [Nat.beq_refl]
      unfold partS
      rw [blt_f (Nat.le_refl _)]
      rfl
  

def ts8 : Tab := tabC4 51 sA kA (codI .i64) (codI .i64) (fun s k a b => .cv (.one (.imm (slI encStr (splitS s k))))) (fun s k a b => s.size ≤ 1000000000 ∧ a = 0 ∧ b = -1) tab0
theorem ts8_ok : TabOk Tryd.prog ts8 := tabC4_ok rfl (fun s k a b hq => (by obtain ⟨h, rfl, rfl⟩ := hq; exact genSplit s k h)) (tab0_ok _)

def e_Split : WEnv Tryd.prog lay := ⟨{ tab := ts8 }, good, rfl, ts8_ok, (et0_ok _)⟩
theorem Split (s : ByteArray) (k : UInt8) (hs : s.size ≤ 1000000000) : PCall Tryd.prog 40 [str s, str ⟨#[k]⟩] (.cv (.one (.imm (slI encStr (splitS s k))))) := by
  refine pwalk e_Split Tryd.func40 rfl 8 rfl rfl ?_
  repeat' (first | refine And.intro ?_ ?_ | refine iT fun _ _ => ?_ | refine iF fun _ _ => ?_ | intro _ | exact sE | exact bE | exact trivial | exact rfl | assumption)

end Go.Proofs.YtmpddomgiplnmaaDoor.Abs
