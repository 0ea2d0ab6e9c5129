/-
  STRINGS OF THE LIBRARY: Index, Cut, CutPrefix, Count, Split, at separators of one byte.
-/
import Derived.KernelRfl
import Derived.Lib.Bytealg
import Derived.Test.YtmpddomgiplnmaaDoorV3
import Derived.Test.YtmpddomgiplnmaaDoorLay
namespace Go.Proofs.YtmpddomgiplnmaaDoor.Abs
open Go
set_option maxRecDepth 10000

open Lib
def u8 (k : Int) : CV := .one (.imm (.val (.int .u8 k)))
def sA : Cod ByteArray := codStr
def bA : Cod Int := codI .u8
def ixB (s : ByteArray) (k : Int) : Int := indexByte s.data.toList k.toNat.toUInt8
def e_indexByte_ : WEnv Tryd.prog lay := ⟨{ tab := tab0 }, good, rfl, (tab0_ok _), (et0_ok _)⟩
theorem indexByte_ (s : ByteArray) (k : Int) : PCall Tryd.prog 54 [str s, u8 k] (.cv (iint (ixB s k))) := by
  refine pwalk e_indexByte_ Tryd.func54 rfl 8 rfl rfl ?_
  repeat' (first | refine And.intro ?_ ?_ | refine iT fun _ _ => ?_ | refine iF fun _ _ => ?_ | intro _ | exact sE | exact bE | exact trivial | exact rfl | assumption)
  refine ⟨AL_extSB rfl rfl rfl ?_ Tryd.func64 (by kernel_rfl) (by kernel_rfl) (by kernel_rfl) (by kernel_rfl) (fun w => run_indexByteString _ _ w) rfl (AL_part good tab0 (tab0_ok _) et0 (et0_ok _) [] rfl rfl ?_ (AL_nil ?_))⟩
  · repeat' (first | refine And.intro ?_ ?_ | refine iT fun _ _ => ?_ | refine iF fun _ _ => ?_ | intro _ | exact sE | exact bE | exact trivial | exact rfl | assumption)
  · repeat' (first | refine And.intro ?_ ?_ | refine iT fun _ _ => ?_ | refine iF fun _ _ => ?_ | intro _ | exact sE | exact bE | exact trivial | exact rfl | assumption)
  repeat' (first | refine And.intro ?_ ?_ | refine iT fun _ _ => ?_ | refine iF fun _ _ => ?_ | intro _ | exact sE | exact bE | exact trivial | exact rfl | assumption)

def ts1 : Tab := tabC2 54 sA bA (fun s k => .cv (iint (ixB s k))) (fun _ _ => True) tab0
theorem ts1_ok : TabOk Tryd.prog ts1 := tabC2_ok rfl (fun s k _ => indexByte_ s k) (tab0_ok _)

theorem ix_self (k : UInt8) : ixB ⟨#[k]⟩ k.toNat = 0 := by
  have e : (k.toNat : Int).toNat.toUInt8 = k := by simp
  unfold ixB
  rw [e]
  show (if (k == k) = true then 0 else _) = (0 : Int)
  rw [if_pos (by simp)]
theorem one_size (k : UInt8) : (ByteArray.mk #[k]).size = 1 := rfl

def e_index_ : WEnv Tryd.prog lay := ⟨{ tab := ts1 }, good, rfl, ts1_ok, (et0_ok _)⟩
theorem index_ (s : ByteArray) (k : UInt8) : PCall Tryd.prog 48 [str s, str ⟨#[k]⟩] (.cv (iint (ixB s k.toNat))) := by
  refine pwalk e_index_ Tryd.func48 rfl 143 rfl rfl ?_
  have e1 := one_size k
  repeat' (first | refine And.intro ?_ ?_ | refine iT fun _ _ => ?_ | refine iF fun _ _ => ?_ | intro _ | exact sE | exact bE | exact trivial | exact rfl | assumption | omega)
  · rename_i h _
    rcases h with h | h
    · omega
    · rw [← h, ix_self]
      exact sE
  all_goals omega


/-- A separator of one byte. -/
def kA : Cod UInt8 := ⟨fun k => str ⟨#[k]⟩, fun c => match c with
  | .one (.imm (.val (.string ⟨⟨[k]⟩⟩))) => some (k, True)
  | _ => none, fun c x p h _ => by
  split at h
  · simp only [Option.some.injEq, Prod.mk.injEq] at h
    obtain ⟨rfl, _⟩ := h
    exact CLe.refl _
  · cases h⟩
def ts2 : Tab := tabC2 48 sA kA (fun s k => .cv (iint (ixB s k.toNat))) (fun _ _ => True) ts1
theorem ts2_ok : TabOk Tryd.prog ts2 := tabC2_ok rfl (fun s k _ => index_ s k) ts1_ok

def e_indexS : WEnv Tryd.prog lay := ⟨{ tab := ts2 }, good, rfl, ts2_ok, (et0_ok _)⟩
theorem indexS (s : ByteArray) (k : UInt8) : PCall Tryd.prog 33 [str s, str ⟨#[k]⟩] (.cv (iint (ixB s k.toNat))) := by
  refine pwalk e_indexS Tryd.func33 rfl 8 rfl rfl ?_
  repeat' (first | refine And.intro ?_ ?_ | refine iT fun _ _ => ?_ | refine iF fun _ _ => ?_ | intro _ | exact sE | exact bE | exact trivial | exact rfl | assumption)

/-- Ahead of the first such byte, behind it, whether there is one. -/
def cutA (s : ByteArray) (k : UInt8) : ByteArray := bif decide (ixB s k.toNat ≥ 0) then s.extract 0 (ixB s k.toNat).toNat else s
def cutZ (s : ByteArray) (k : UInt8) : ByteArray := bif decide (ixB s k.toNat ≥ 0) then s.extract ((ixB s k.toNat) + 1).toNat s.size else ⟨#[]⟩
def cutB (s : ByteArray) (k : UInt8) : Bool := decide (ixB s k.toNat ≥ 0)
theorem ib_lt : ∀ (l : List UInt8) (c : UInt8), indexByte l c < l.length
  | [], c => by simp [indexByte]
  | b :: l, c => by
    have := ib_lt l c
    unfold indexByte
    rw [List.length_cons]
    split
    · omega
    · split <;> omega
theorem ix_lt (s : ByteArray) (k : UInt8) : ixB s k.toNat < s.size := by
  unfold ixB
  have := ib_lt s.data.toList (k.toNat : Int).toNat.toUInt8
  have e : s.data.toList.length = s.size := Array.length_toList
  omega

def e_cut_ : WEnv Tryd.prog lay := ⟨{ tab := ts2, cb := fun i => bif Nat.beq i 3 then some ([0, 0, 3, 0, 0, 0, 32, 112, 248, 7, 1023, 2047], [false, false, false, false, false, false, false, false, false, false, false, false]) else none }, good, rfl, ts2_ok, (et0_ok _)⟩
theorem cut_ (s : ByteArray) (k : UInt8) (hs : s.size ≤ 4611686018427387904) : PCall Tryd.prog 39 [str s, str ⟨#[k]⟩] (.tup [str (cutA s k), str (cutZ s k), .one (.imm (.val (.bool (cutB s k))))]) := by
  refine pwalk e_cut_ Tryd.func39 rfl 23 rfl rfl ?_
  have e1 := one_size k
  have hl := ix_lt s k
  have hw : ixB s k.toNat ≥ 0 → IntKind.i64.wrap (ixB s k.toNat + ((ByteArray.mk #[k]).size : Nat)) = ixB s k.toNat + 1 := fun h => by
    rw [IntKind.wrap_i64]
    omega
  repeat' (first | refine And.intro ?_ ?_ | refine iT fun _ _ => ?_ | refine iF fun _ _ => ?_ | intro _ | exact sE | exact bE | exact trivial | exact rfl | assumption | omega | (rw [hw (by assumption)]; omega))
  all_goals unfold cutA cutZ cutB
  · rename_i h _
    rw [decide_eq_true h, cond_true, cond_true, ← hw h]
    exact sE
  · rename_i h _
    rw [decide_eq_false h]
    exact sE

def ts3 : Tab := tabC2 39 sA kA (fun s k => .tup [str (cutA s k), str (cutZ s k), .one (.imm (.val (.bool (cutB s k))))]) (fun s k => s.size ≤ 4611686018427387904) ts2
theorem ts3_ok : TabOk Tryd.prog ts3 := tabC2_ok rfl (fun s k hq => cut_ s k hq) ts2_ok

def e_cutS : WEnv Tryd.prog lay := ⟨{ tab := ts3 }, good, rfl, ts3_ok, (et0_ok _)⟩
theorem cutS (s : ByteArray) (k : UInt8) (hs : s.size ≤ 4611686018427387904) : PCall Tryd.prog 21 [str s, str ⟨#[k]⟩] (.tup [str (cutA s k), str (cutZ s k), .one (.imm (.val (.bool (cutB s k))))]) := by
  refine pwalk e_cutS Tryd.func21 rfl 13 rfl rfl ?_
  repeat' (first | refine And.intro ?_ ?_ | refine iT fun _ _ => ?_ | refine iF fun _ _ => ?_ | intro _ | exact sE | exact bE | exact trivial | exact rfl | assumption)

/-- Begins with a byte. -/
def preB (s : ByteArray) (k : UInt8) : Bool := bif decide ((s.size : Int) ≥ 1) then sEq (s.extract 0 1) ⟨#[k]⟩ else false
def e_hasPrefix_ : WEnv Tryd.prog lay := ⟨{ tab := tab0 }, good, rfl, (tab0_ok _), (et0_ok _)⟩
theorem hasPrefix_ (s : ByteArray) (k : UInt8) : PCall Tryd.prog 72 [str s, str ⟨#[k]⟩] (.cv (ibool (preB s k))) := by
  refine pwalk e_hasPrefix_ Tryd.func72 rfl 18 rfl rfl ?_
  have e1 := one_size k
  repeat' (first | refine And.intro ?_ ?_ | refine iT fun _ _ => ?_ | refine iF fun _ _ => ?_ | intro _ | exact sE | exact bE | exact trivial | exact rfl | assumption | omega)

def ts4 : Tab := tabC2 72 sA kA (fun s k => .cv (ibool (preB s k))) (fun _ _ => True) tab0
theorem ts4_ok : TabOk Tryd.prog ts4 := tabC2_ok rfl (fun s k _ => hasPrefix_ s k) (tab0_ok _)

def cpA (s : ByteArray) (k : UInt8) : ByteArray := bif preB s k then s.extract 1 s.size else s
def e_cutPrefix_ : WEnv Tryd.prog lay := ⟨{ tab := ts4 }, good, rfl, ts4_ok, (et0_ok _)⟩
theorem cutPrefix_ (s : ByteArray) (k : UInt8) : PCall Tryd.prog 63 [str s, str ⟨#[k]⟩] (.tup [str (cpA s k), .one (.imm (.val (.bool (preB s k))))]) := by
  refine pwalk e_cutPrefix_ Tryd.func63 rfl 15 rfl rfl ?_
  have e1 := one_size k
  have hl : preB s k = true → 1 ≤ s.size := fun h => by
    have := (band_t h).1
    have := of_decide_eq_true this
    omega
  repeat' (first | refine And.intro ?_ ?_ | refine iT fun _ _ => ?_ | refine iF fun _ _ => ?_ | intro _ | exact sE | exact bE | exact trivial | exact rfl | assumption | omega | (have h := hl (bnot_f (by assumption)); omega))
  · rename_i h
    have h := bnot_t h
    unfold cpA
    rw [h]
    exact sE
  · rename_i h
    have h := bnot_f h
    unfold cpA
    rw [h]
    exact sE

def ts5 : Tab := tabC2 63 sA kA (fun s k => .tup [str (cpA s k), .one (.imm (.val (.bool (preB s k))))]) (fun _ _ => True) tab0
theorem ts5_ok : TabOk Tryd.prog ts5 := tabC2_ok rfl (fun s k _ => cutPrefix_ s k) (tab0_ok _)

def e_cutPrefix : WEnv Tryd.prog lay := ⟨{ tab := ts5 }, good, rfl, ts5_ok, (et0_ok _)⟩
theorem cutPrefix (s : ByteArray) (k : UInt8) : PCall Tryd.prog 52 [str s, str ⟨#[k]⟩] (.tup [str (cpA s k), .one (.imm (.val (.bool (preB s k))))]) := by
  refine pwalk e_cutPrefix Tryd.func52 rfl 11 rfl rfl ?_
  repeat' (first | refine And.intro ?_ ?_ | refine iT fun _ _ => ?_ | refine iF fun _ _ => ?_ | intro _ | exact sE | exact bE | exact trivial | exact rfl | assumption)

def cntB (s : ByteArray) (k : UInt8) : Nat := countByte s.data.toList ((k.toNat : Int).toNat.toUInt8)
def e_countS : WEnv Tryd.prog lay := ⟨{ tab := ts2 }, good, rfl, ts2_ok, (et0_ok _)⟩
theorem countS (s : ByteArray) (k : UInt8) : PCall Tryd.prog 14 [str s, str ⟨#[k]⟩] (.cv (iint (cntB s k))) := by
  refine pwalk e_countS Tryd.func14 rfl 34 rfl rfl ?_
  have e1 := one_size k
  repeat' (first | refine And.intro ?_ ?_ | refine iT fun _ _ => ?_ | refine iF fun _ _ => ?_ | intro _ | exact sE | exact bE | exact trivial | exact rfl | assumption | omega)
  refine ⟨AL_extSB rfl rfl rfl ?_ Tryd.func32 (by kernel_rfl) (by kernel_rfl) (by kernel_rfl) (by kernel_rfl) (fun w => run_countString _ _ w) rfl (AL_part good tab0 (tab0_ok _) et0 (et0_ok _) [] rfl rfl ?_ (AL_nil ?_))⟩
  · repeat' (first | refine And.intro ?_ ?_ | refine iT fun _ _ => ?_ | refine iF fun _ _ => ?_ | intro _ | exact sE | exact bE | exact trivial | exact rfl | assumption)
  · repeat' (first | refine And.intro ?_ ?_ | refine iT fun _ _ => ?_ | refine iF fun _ _ => ?_ | intro _ | exact sE | exact bE | exact trivial | exact rfl | assumption)
  repeat' (first | refine And.intro ?_ ?_ | refine iT fun _ _ => ?_ | refine iF fun _ _ => ?_ | intro _ | exact sE | exact bE | exact trivial | exact rfl | assumption)

def ts6 : Tab := tabC2 14 sA kA (fun s k => .cv (iint (cntB s k))) (fun _ _ => True) tab0
theorem ts6_ok : TabOk Tryd.prog ts6 := tabC2_ok rfl (fun s k _ => countS s k) (tab0_ok _)

def ts7 : Tab := tabC2 33 sA kA (fun s k => .cv (iint (ixB s k.toNat))) (fun _ _ => True) ts6
theorem ts7_ok : TabOk Tryd.prog ts7 := tabC2_ok rfl (fun s k _ => indexS s k) ts6_ok

end Go.Proofs.YtmpddomgiplnmaaDoor.Abs
