/-
  THE CONTRACTS OF THE REFERENCE's rows of words: which are the same.
-/
import Derived.Test.YtndfcbcmeeemfaaW6
import Derived.Test.YtndfcbcmeeemfaaR5
namespace Go.Proofs.Ytndfcbcmeeemfaa.Abs
open Go
set_option maxRecDepth 10000

/-- Rows of words that are the same. -/
def sameW (n : Nat) (a : Nat → Int) (n' : Nat) (b : Nat → Int) : Bool := decide (n = n' ∧ ∀ i, i < n → a i = b i)

theorem same21 (n : Nat) (ex : Bool) (a : Nat → Int) (n' : Nat) (ex' : Bool) (b : Nat → Int) : PCall Try.prog 21 [.one (uS n ex a), .one (uS n' ex' b)] (.cv (ibool (sameW n a n' b))) := by
  refine PCall_of (ACall_body good Try.func21 rfl 26 rfl (by simp) ?_)
  refine AW_lenle 0 rfl (fun hm => ?_)
  refine AW_seq ?_
  refine AW_all good tabX tabX_ok rfl rfl ?_ ?_
  · repeat' (first | exact trivial | exact rfl | exact (fun _ _ => rfl) | apply And.intro | intro _)
    all_goals (first | omega | (change (_ : Bool) = true; simp_all; done) | (simp_all; done))
  refine AW_seq ?_
  refine AW_seq ?_
  refine AW_all good tabX tabX_ok rfl rfl ?_ ?_
  · repeat' (first | exact trivial | exact rfl | exact (fun _ _ => rfl) | apply And.intro | intro _)
    all_goals (first | omega | (change (_ : Bool) = true; simp_all; done) | (simp_all; done))
  refine AW_cond rfl (fun h1 => ?_) (fun h1 => ?_)
  · first
    | (exfalso; simp_all; done)
    | (
        refine AW_seq ?_
        refine AW_all good tabX tabX_ok rfl rfl ?_ ?_
        · repeat' (first | exact trivial | exact rfl | exact (fun _ _ => rfl) | apply And.intro | intro _)
          all_goals (first | omega | (change (_ : Bool) = true; simp_all; done) | (simp_all; done))
        refine AW_ret (bodyQ_ret rfl ?_ (Ends.intro rfl ?_ ?_))
        · repeat' (first | exact trivial | exact rfl | exact (fun _ _ => rfl) | apply And.intro | intro _)
          all_goals (first | omega | (change (_ : Bool) = true; simp_all; done) | (simp_all; done))
        · repeat' (first | exact trivial | exact rfl | exact (fun _ _ => rfl) | apply And.intro | intro _)
          all_goals (first | omega | (change (_ : Bool) = true; simp_all; done) | (simp_all; done))
        exact ret_bool (by have : n ≠ n' := (by intro e; simp [e] at h1); simp [sameW, this])
    )
  · first
    | (exfalso; simp_all; done)
    | (
        refine AW_skip ?_
        refine AW_seq ?_
        refine AW_seq ?_
        refine AW_all good tabX tabX_ok rfl rfl ?_ ?_
        · repeat' (first | exact trivial | exact rfl | exact (fun _ _ => rfl) | apply And.intro | intro _)
          all_goals (first | omega | (change (_ : Bool) = true; simp_all; done) | (simp_all; done))
        refine AW_block ?_
        have hn : n = n' := by
          have : (n : Int) = n' := by simpa using h1
          omega
        subst hn
        refine AW_loopL (fun j : { i : Nat // i ≤ n ∧ ∀ k, k < i → a k = b k } => [(0, .cv (.one (uS n ex a))), (1, .cv (.one (uS n ex' b))), (12, .cv (iint n)), (13, .cv (iint j.1))]) (fun j => n - j.1) ⟨0, Nat.zero_le _, fun k hk => absurd hk (Nat.not_lt_zero k)⟩ ?_ ?_
        · exact ⟨rfl, rfl, rfl, rfl, trivial⟩
        rintro ⟨i, hi, hk⟩
        refine AW_seq ?_
        refine AW_all good tabX tabX_ok rfl rfl ?_ ?_
        · repeat' (first | exact trivial | exact rfl | exact (fun _ _ => rfl) | apply And.intro | intro _)
          all_goals (first | omega | (change (_ : Bool) = true; simp_all; done) | (simp_all; done))
        refine AW_seq ?_
        refine AW_cond rfl (fun h2 => ?_) (fun h2 => ?_)
        · first
          | (exfalso; simp_all; done)
          | (
              refine AW_skip ?_
              refine AW_seq ?_
              refine AW_block ?_
              refine AW_seq ?_
              refine AW_all good tabX tabX_ok rfl rfl ?_ ?_
              · repeat' (first | exact trivial | exact rfl | exact (fun _ _ => rfl) | apply And.intro | intro _)
                all_goals (first | omega | (change (_ : Bool) = true; simp_all; done) | (simp_all; done))
              refine AW_seq ?_
              refine AW_drw good rfl tabX tabX_ok rfl rfl rfl ?_ ?_
              · repeat' (first | exact trivial | exact rfl | exact (fun _ _ => rfl) | apply And.intro | intro _)
                all_goals (first | omega | (change (_ : Bool) = true; simp_all; done) | (simp_all; done))
              refine AW_cond rfl (fun h3 => ?_) (fun h3 => ?_)
              · first
                | (exfalso; simp_all; done)
                | (
                    refine AW_seq ?_
                    refine AW_all good tabX tabX_ok rfl rfl ?_ ?_
                    · repeat' (first | exact trivial | exact rfl | exact (fun _ _ => rfl) | apply And.intro | intro _)
                      all_goals (first | omega | (change (_ : Bool) = true; simp_all; done) | (simp_all; done))
                    refine AW_ret (bodyQ_ret rfl ?_ (Ends.intro rfl ?_ ?_))
                    · repeat' (first | exact trivial | exact rfl | exact (fun _ _ => rfl) | apply And.intro | intro _)
                      all_goals (first | omega | (change (_ : Bool) = true; simp_all; done) | (simp_all; done))
                    · repeat' (first | exact trivial | exact rfl | exact (fun _ _ => rfl) | apply And.intro | intro _)
                      all_goals (first | omega | (change (_ : Bool) = true; simp_all; done) | (simp_all; done))
                    have hne : a i ≠ b i := by simpa using h3
                    have hlt : i < n := by simpa using h2
                    exact ret_bool (by simp only [sameW, true_and]; rw [eq_comm, decide_eq_false_iff_not]; exact fun h => hne (h i hlt))
                )
              · first
                | (exfalso; simp_all; done)
                | (
                    refine AW_skip ?_
                    refine AW_all good tabX tabX_ok rfl rfl ?_ ?_
                    · repeat' (first | exact trivial | exact rfl | exact (fun _ _ => rfl) | apply And.intro | intro _)
                      all_goals (first | omega | (change (_ : Bool) = true; simp_all; done) | (simp_all; done))
                    have hab : a i = b i := by simpa using h3
                    have hlt : i < n := by simpa using h2
                    refine loop_next ⟨i + 1, hlt, fun k hk' => ?_⟩ ⟨rfl, rfl, rfl, ?_, trivial⟩ ?_
                    · rcases Nat.lt_succ_iff_lt_or_eq.1 hk' with h | h
                      · exact hk k h
                      · rw [h]; exact hab
                    · exact congrArg (fun z => SV.cv (iint z)) (next_int i n hlt hm)
                    · show n - (i + 1) < n - i
                      omega
                )
          )
        · first
          | (exfalso; simp_all; done)
          | (
              refine AW_exit ?_
              refine AW_seq ?_
              refine AW_all good tabX tabX_ok rfl rfl ?_ ?_
              · repeat' (first | exact trivial | exact rfl | exact (fun _ _ => rfl) | apply And.intro | intro _)
                all_goals (first | omega | (change (_ : Bool) = true; simp_all; done) | (simp_all; done))
              refine AW_ret (bodyQ_ret rfl ?_ (Ends.intro rfl ?_ ?_))
              · repeat' (first | exact trivial | exact rfl | exact (fun _ _ => rfl) | apply And.intro | intro _)
                all_goals (first | omega | (change (_ : Bool) = true; simp_all; done) | (simp_all; done))
              · repeat' (first | exact trivial | exact rfl | exact (fun _ _ => rfl) | apply And.intro | intro _)
                all_goals (first | omega | (change (_ : Bool) = true; simp_all; done) | (simp_all; done))
              have hge : i = n := by
                have : ¬ i < n := by simpa using h2
                omega
              subst hge
              exact ret_bool (by simp only [sameW, true_and]; rw [eq_comm, decide_eq_true_iff]; exact hk)
          )
    )
end Go.Proofs.Ytndfcbcmeeemfaa.Abs
