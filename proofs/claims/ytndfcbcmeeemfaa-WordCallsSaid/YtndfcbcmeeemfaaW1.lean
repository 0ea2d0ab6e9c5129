/-
  THE CONTRACTS OF PACKAGE word (1): which words may be, clones.
-/
import Derived.Test.YtndfcbcmeeemfaaLay
import Derived.Test.YtndfcbcmeeemfaaR4
namespace Go.Proofs.Ytndfcbcmeeemfaa.Abs
open Go
set_option maxRecDepth 10000

/-- Words as data. -/
def uS (n : Nat) (ex : Bool) (m : Nat → Int) : AV := .imm (.sl 1 n ex fun i _ => .val (.int .u64 (m i)))

theorem right25 (n : Nat) (ex : Bool) (cell : Nat → Nat → IV) : PCall Try.prog 25 [.one (.imm (.sl 1 n ex cell))] (.cv (ibool (decide ((n : Int) ≤ 64)))) := by
  refine PCall_of (ACall_body good Try.func25 rfl 6 rfl (by simp) ?_)
  refine AW_seq (AW_all good tab0 (tab0_ok _) rfl rfl ?_ ?_)
  · repeat' (first | exact trivial | apply And.intro | intro _)
  refine AW_seq (AW_all good tab0 (tab0_ok _) rfl rfl ?_ ?_)
  · repeat' (first | exact trivial | apply And.intro | intro _)
  refine AW_ret (bodyQ_ret rfl ?_ (Ends.intro rfl ?_ ?_))
  · repeat' (first | exact trivial | apply And.intro | intro _)
  · repeat' (first | exact trivial | apply And.intro | intro _)
  rfl

theorem clone50 (n : Nat) (ex : Bool) (cell : Nat → Nat → IV) (h1 : n * 8 ≤ 140737488355328) (h2 : n ≤ maxLen) :
    ACall Try.prog 50 [.one (.imm (.sl 1 n ex cell))] (heapOf []) 0 fun x H' n' => x = .cv (.one (.osl 0 1 0 0 n true)) ∧ H' = updH (heapOf []) [(0, some (.rows 22 1 n cell))] ∧ n' = 0 + 1 := by
  refine ACall_norm (Bs := []) (cnt := 1) ?_
  rw [heapOf_nil]
  refine ACall_body good Try.func50 rfl 8 rfl (by simp) ?_
  refine AW_seq (AW_all good tab0 (tab0_ok _) rfl rfl ?_ ?_)
  · repeat' (first | exact trivial | apply And.intro | intro _)
  refine AW_seq (AW_seq (AW_part good tab0 (tab0_ok _) et0 (et0_ok _) [] rfl rfl ?_ ?_))
  · repeat' (first | exact trivial | apply And.intro | intro _)
  refine AL_isnil good rfl rfl rfl rfl trivial rfl (fun q hq => AL_nil ?_)
  refine AW_cond rfl (fun h => ?_) (fun h => ?_)
  · refine AW_seq (AW_all good tab0 (tab0_ok _) rfl rfl ?_ ?_)
    · repeat' (first | exact trivial | apply And.intro | intro _)
    obtain rfl := hq h
    refine AW_own_empty 2 22 1 cell rfl rfl rfl ?_
    refine AW_ret ?_
    refine ⟨_, _, rfl, ?_, [0], rfl, EndsE.one rfl ?_ rfl ?_⟩
    · repeat' (first | exact trivial | apply And.intro | intro _)
    · exact SLe.of_eq rfl
    · exact BLe.of_eq rfl
  · refine AW_skip ?_
    refine AW_seq (AW_all good tab0 (tab0_ok _) rfl rfl ?_ ?_)
    · repeat' (first | exact trivial | apply And.intro | intro _)
      · show (0 + n) * 8 ≤ _
        omega
      · omega
      · omega
    refine AW_ret ?_
    refine ⟨_, _, rfl, ?_, [1], rfl, EndsE.one rfl ?_ rfl ?_⟩
    · repeat' (first | exact trivial | apply And.intro | intro _)
    · exact SLe.of_eq (by rw [Nat.zero_add]; rfl)
    · refine BLe.rows (by omega) fun i j hi hj => ILe.of_eq ?_
      show (bif Nat.blt i 0 then _ else cell (i - 0) j) = cell i j
      have : Nat.blt i 0 = false := by cases i <;> rfl
      rw [this]
      rfl
end Go.Proofs.Ytndfcbcmeeemfaa.Abs
