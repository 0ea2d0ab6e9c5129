/-
  THE CONTRACTS OF PACKAGE op's inner functions.
-/
import Derived.Test.YtlogldffadeadaaLay
import Derived.Test.YtlogldffadeadaaB7
namespace Go.Proofs.Ytlogldffadeadaa.Abs
open Go
set_option maxRecDepth 10000

def numKs : List (Int × Int × Int) := [(1, 1, 1), (1, 2, 2), (1, 3, 1), (1, 4, 1), (1, 5, 1), (1, 6, 0), (2, 1, 1), (2, 2, 2), (2, 3, 1), (2, 6, 0), (3, 1, 1), (3, 2, 1), (3, 3, 0), (3, 4, 1), (3, 5, 0), (3, 6, 0), (4, 1, 0), (4, 2, 2), (4, 3, 0), (4, 6, 0)]
def numIns : List (Option (List Int × (Nat → IV))) := none :: (numKs.flatMap fun p => [none, some ([p.1, p.2.1], fun j => [IV.val (.int .i64 p.2.2)].getD j ivDef)]) ++ [none, none]
def numM : CV := .one (.imm (.mp true [.i64, .i64] false 1 (domD (fun _ => true) 0 numIns) (mvalD (fun _ => true) 0 numIns)))

theorem numbers_c : PCall Try.prog 9 [] (.cv numM) := by
  refine PCall_of (ACall_body good Try.func9 rfl 23 rfl (by simp) ?_)
  refine AW_seq (AW_region (AL_eval good 100 rfl rfl ?_ (AL_nil ?_)))
  · repeat' (first | exact trivial | apply And.intro | intro _)
  refine AW_seq (AW_litr good rfl tab0 (tab0_ok _) 0 true false [.i64, .i64] 1 rfl rfl rfl ?_ rfl rfl ?_)
  · repeat' (first | exact trivial | apply And.intro | intro _)
  refine AW_ret (bodyQ_ret rfl ?_ (Ends.intro rfl ?_ ?_))
  · repeat' (first | exact trivial | apply And.intro | intro _)
  · repeat' (first | exact trivial | apply And.intro | intro _)
  rfl

def wi (n : Int) : Bool := decide (-1073741824 ≤ n) && decide (n ≤ 1073741824)
theorem within_c (n : Int) : PCall Try.prog 10 [ione (.int .i64 n)] (.cv (ibool (wi n))) := by
  refine PCall_of (ACall_body good Try.func10 rfl 9 rfl (by simp) ?_)
  refine AW_seq (AW_all good tab0 (tab0_ok _) rfl rfl ?_ ?_)
  · repeat' (first | exact trivial | apply And.intro | intro _)
  refine AW_seq (AW_all good tab0 (tab0_ok _) rfl rfl ?_ ?_)
  · repeat' (first | exact trivial | apply And.intro | intro _)
    all_goals (change (_ : Bool) = true; simp_all; done)
  refine AW_ret (bodyQ_ret rfl ?_ (Ends.intro rfl ?_ ?_))
  · repeat' (first | exact trivial | apply And.intro | intro _)
  · repeat' (first | exact trivial | apply And.intro | intro _)
  refine ret_bool ?_
  unfold wi
  cases h : decide (-1073741824 ≤ n) <;> simp_all

def tabA : Tab := tabAdd 10 (fun args => match args with
  | [.one (.imm (.val (.int .i64 n)))] => some (.cv (ibool (wi n)), True)
  | _ => none) (tabAdd 9 (fun args => match args with
  | [] => some (.cv numM, True)
  | _ => none) tab0)
theorem tabA_ok : TabOk Try.prog tabA := by
  refine tabAdd_ok rfl (fun args r p h _ => ?_) (tabAdd_ok rfl (fun args r p h _ => ?_) (tab0_ok _))
  · split at h
    · simp only [Option.some.injEq, Prod.mk.injEq] at h; obtain ⟨rfl, _⟩ := h; exact within_c _
    · cases h
  · split at h
    · simp only [Option.some.injEq, Prod.mk.injEq] at h; obtain ⟨rfl, _⟩ := h; exact numbers_c
    · cases h

def opIs (b k : Int) : Bool := domD (fun _ => true) 0 numIns [b, k]
def opN (b k : Int) : Int := bif opIs b k then ivInt (mvalD (fun _ => true) 0 numIns [b, k] 0) else 0
def rightB (b k x y : Int) : Bool := opIs b k && (wi x && (wi y && ((decide (1 ≤ opN b k) || x == 0) && (opN b k == 2 || y == 0))))

theorem numVal_int (b k : Int) : domD (fun _ => true) 0 numIns [b, k] = true → mvalD (fun _ => true) 0 numIns [b, k] 0 = .val (.int .i64 (ivInt (mvalD (fun _ => true) 0 numIns [b, k] 0))) := by
  intro h
  refine mvalD_all (q := fun f => f 0 = .val (.int .i64 (ivInt (f 0)))) numIns 0 (fun ks f hf => ?_) h
  simp only [numIns, numKs, List.flatMap_cons, List.flatMap_nil, List.mem_cons, List.cons_append, List.nil_append, Option.some.injEq, Prod.mk.injEq, reduceCtorEq, false_or, List.not_mem_nil, or_false] at hf
  rcases hf with h | h | h | h | h | h | h | h | h | h | h | h | h | h | h | h | h | h | h | h <;> (rw [h.2]; rfl)

theorem opIs_eq (b k : Int) : domD (fun _ => true) 0 numIns [b, k] = opIs b k := rfl
theorem opN_eq (b k : Int) : (bif opIs b k then ivInt (mvalD (fun _ => true) 0 numIns [b, k] 0) else 0) = opN b k := rfl

def opA (b k x y : Int) : CV := .agg [.imm (.val (.int .i64 b)), .imm (.val (.int .i64 k)), .imm (.val (.int .i64 x)), .imm (.val (.int .i64 y))]

theorem right_c (b k x y : Int) : PCall Try.prog 8 [opA b k x y] (.cv (ibool (rightB b k x y))) := by
  refine PCall_of (ACall_body good Try.func8 rfl 44 rfl (by simp) ?_)
  refine AW_seq (AW_all good tabA tabA_ok rfl rfl ?_ ?_)
  · repeat' (first | exact trivial | apply And.intro | intro _)
  refine AW_seq (AW_drw good rfl tabA tabA_ok rfl rfl rfl ?_ ?_)
  · repeat' (first | exact trivial | exact numVal_int b k | apply And.intro | intro _)
  refine AW_seq (AW_all good tabA tabA_ok rfl rfl ?_ ?_)
  · repeat' (first | exact trivial | apply And.intro | intro _)
    all_goals (change (_ : Bool) = true; simp only [opIs_eq, opN_eq, ge_iff_le] at *; simp_all)
  refine AW_ret (bodyQ_ret rfl ?_ (Ends.intro rfl ?_ ?_))
  · repeat' (first | exact trivial | apply And.intro | intro _)
  · repeat' (first | exact trivial | apply And.intro | intro _)
  refine ret_bool ?_
  simp only [opIs_eq, opN_eq, ge_iff_le, rightB]
  cases opIs b k <;> cases wi x <;> cases wi y <;> simp

def tabB : Tab := tabAdd 8 (fun args => match args with
  | [.agg [.imm (.val (.int .i64 b)), .imm (.val (.int .i64 k)), .imm (.val (.int .i64 x)), .imm (.val (.int .i64 y))]] => some (.cv (ibool (rightB b k x y)), True)
  | _ => none) tabA
theorem tabB_ok : TabOk Try.prog tabB := by
  refine tabAdd_ok rfl (fun args r p h _ => ?_) tabA_ok
  split at h
  · simp only [Option.some.injEq, Prod.mk.injEq] at h; obtain ⟨rfl, _⟩ := h; exact right_c _ _ _ _
  · cases h

def readsB (b k x y : Int) : Bool := rightB b k x y && (k == 1 || (k == 6 || ((k == 4 || k == 5) && b == 1)))

end Go.Proofs.Ytlogldffadeadaa.Abs
