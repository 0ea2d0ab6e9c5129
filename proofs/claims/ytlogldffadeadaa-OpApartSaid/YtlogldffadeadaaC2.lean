/-
  THE CONTRACTS OF PACKAGE op (2), and the laws of two statements; the walks are printed by this session's walk.py.
-/
import Derived.Test.YtlogldffadeadaaC1
namespace Go.Proofs.Ytlogldffadeadaa.Abs
open Go
set_option maxRecDepth 10000

theorem reads_c (b k x y : Int) : PCall Try.prog 7 [opA b k x y] (.cv (ibool (readsB b k x y))) := by
  refine PCall_of (ACall_body good Try.func7 rfl 17 rfl (by simp) ?_)
  refine AW_seq ?_
  refine AW_all good tabB tabB_ok rfl rfl ?_ ?_
  · repeat' (first | exact trivial | apply And.intro | intro _)
    all_goals (first | omega | (change (_ : Bool) = true; simp_all; done) | (simp_all; done))
  refine AW_seq ?_
  refine AW_seq ?_
  refine AW_all good tabB tabB_ok rfl rfl ?_ ?_
  · repeat' (first | exact trivial | apply And.intro | intro _)
    all_goals (first | omega | (change (_ : Bool) = true; simp_all; done) | (simp_all; done))
  refine AW_cond rfl (fun h1 => ?_) (fun h1 => ?_)
  · first
    | (exfalso; simp_all; done)
    | (
        refine AW_seq ?_
        refine AW_all good tabB tabB_ok rfl rfl ?_ ?_
        · repeat' (first | exact trivial | apply And.intro | intro _)
          all_goals (first | omega | (change (_ : Bool) = true; simp_all; done) | (simp_all; done))
        refine AW_ret (bodyQ_ret rfl ?_ (Ends.intro rfl ?_ ?_))
        · repeat' (first | exact trivial | apply And.intro | intro _)
          all_goals (first | omega | (change (_ : Bool) = true; simp_all; done) | (simp_all; done))
        · repeat' (first | exact trivial | apply And.intro | intro _)
          all_goals (first | omega | (change (_ : Bool) = true; simp_all; done) | (simp_all; done))
        exact ret_bool (by simp only [readsB]; generalize rightB b k x y = r at *; simp_all)
    )
  · first
    | (exfalso; simp_all; done)
    | (
        refine AW_skip ?_
        refine AW_seq ?_
        refine AW_seq ?_
        refine AW_all good tabB tabB_ok rfl rfl ?_ ?_
        · repeat' (first | exact trivial | apply And.intro | intro _)
          all_goals (first | omega | (change (_ : Bool) = true; simp_all; done) | (simp_all; done))
        refine AW_block ?_
        refine AW_seq ?_
        refine AW_seq ?_
        refine AW_all good tabB tabB_ok rfl rfl ?_ ?_
        · repeat' (first | exact trivial | apply And.intro | intro _)
          all_goals (first | omega | (change (_ : Bool) = true; simp_all; done) | (simp_all; done))
        refine AW_cond rfl (fun h2 => ?_) (fun h2 => ?_)
        · first
          | (exfalso; simp_all; done)
          | (
              refine AW_skip ?_
              refine AW_cond rfl (fun h3 => ?_) (fun h3 => ?_)
              · first
                | (exfalso; simp_all; done)
                | (
                    refine AW_seq ?_
                    refine AW_all good tabB tabB_ok rfl rfl ?_ ?_
                    · repeat' (first | exact trivial | apply And.intro | intro _)
                      all_goals (first | omega | (change (_ : Bool) = true; simp_all; done) | (simp_all; done))
                    refine AW_ret (bodyQ_ret rfl ?_ (Ends.intro rfl ?_ ?_))
                    · repeat' (first | exact trivial | apply And.intro | intro _)
                      all_goals (first | omega | (change (_ : Bool) = true; simp_all; done) | (simp_all; done))
                    · repeat' (first | exact trivial | apply And.intro | intro _)
                      all_goals (first | omega | (change (_ : Bool) = true; simp_all; done) | (simp_all; done))
                    exact ret_bool (by simp only [readsB]; generalize rightB b k x y = r at *; simp_all)
                )
              · first
                | (exfalso; simp_all; done)
                | (
                    refine AW_seq ?_
                    refine AW_seq ?_
                    refine AW_all good tabB tabB_ok rfl rfl ?_ ?_
                    · repeat' (first | exact trivial | apply And.intro | intro _)
                      all_goals (first | omega | (change (_ : Bool) = true; simp_all; done) | (simp_all; done))
                    refine AW_cond rfl (fun h4 => ?_) (fun h4 => ?_)
                    · first
                      | (exfalso; simp_all; done)
                      | (
                          refine AW_skip ?_
                          refine AW_cond rfl (fun h5 => ?_) (fun h5 => ?_)
                          · first
                            | (exfalso; simp_all; done)
                            | (
                                refine AW_seq ?_
                                refine AW_all good tabB tabB_ok rfl rfl ?_ ?_
                                · repeat' (first | exact trivial | apply And.intro | intro _)
                                  all_goals (first | omega | (change (_ : Bool) = true; simp_all; done) | (simp_all; done))
                                refine AW_ret (bodyQ_ret rfl ?_ (Ends.intro rfl ?_ ?_))
                                · repeat' (first | exact trivial | apply And.intro | intro _)
                                  all_goals (first | omega | (change (_ : Bool) = true; simp_all; done) | (simp_all; done))
                                · repeat' (first | exact trivial | apply And.intro | intro _)
                                  all_goals (first | omega | (change (_ : Bool) = true; simp_all; done) | (simp_all; done))
                                exact ret_bool (by simp only [readsB]; generalize rightB b k x y = r at *; simp_all)
                            )
                          · first
                            | (exfalso; simp_all; done)
                            | (
                                refine AW_skip ?_
                                refine AW_seq ?_
                                refine AW_all good tabB tabB_ok rfl rfl ?_ ?_
                                · repeat' (first | exact trivial | apply And.intro | intro _)
                                  all_goals (first | omega | (change (_ : Bool) = true; simp_all; done) | (simp_all; done))
                                refine AW_ret (bodyQ_ret rfl ?_ (Ends.intro rfl ?_ ?_))
                                · repeat' (first | exact trivial | apply And.intro | intro _)
                                  all_goals (first | omega | (change (_ : Bool) = true; simp_all; done) | (simp_all; done))
                                · repeat' (first | exact trivial | apply And.intro | intro _)
                                  all_goals (first | omega | (change (_ : Bool) = true; simp_all; done) | (simp_all; done))
                                exact ret_bool (by simp only [readsB]; generalize rightB b k x y = r at *; simp_all)
                            )
                      )
                    · first
                      | (exfalso; simp_all; done)
                      | (
                          refine AW_all good tabB tabB_ok rfl rfl ?_ ?_
                          · repeat' (first | exact trivial | apply And.intro | intro _)
                            all_goals (first | omega | (change (_ : Bool) = true; simp_all; done) | (simp_all; done))
                          refine AW_cond rfl (fun h6 => ?_) (fun h6 => ?_)
                          · first
                            | (exfalso; simp_all; done)
                            | (
                                refine AW_seq ?_
                                refine AW_all good tabB tabB_ok rfl rfl ?_ ?_
                                · repeat' (first | exact trivial | apply And.intro | intro _)
                                  all_goals (first | omega | (change (_ : Bool) = true; simp_all; done) | (simp_all; done))
                                refine AW_ret (bodyQ_ret rfl ?_ (Ends.intro rfl ?_ ?_))
                                · repeat' (first | exact trivial | apply And.intro | intro _)
                                  all_goals (first | omega | (change (_ : Bool) = true; simp_all; done) | (simp_all; done))
                                · repeat' (first | exact trivial | apply And.intro | intro _)
                                  all_goals (first | omega | (change (_ : Bool) = true; simp_all; done) | (simp_all; done))
                                exact ret_bool (by simp only [readsB]; generalize rightB b k x y = r at *; simp_all)
                            )
                          · first
                            | (exfalso; simp_all; done)
                            | (
                                refine AW_skip ?_
                                refine AW_seq ?_
                                refine AW_all good tabB tabB_ok rfl rfl ?_ ?_
                                · repeat' (first | exact trivial | apply And.intro | intro _)
                                  all_goals (first | omega | (change (_ : Bool) = true; simp_all; done) | (simp_all; done))
                                refine AW_ret (bodyQ_ret rfl ?_ (Ends.intro rfl ?_ ?_))
                                · repeat' (first | exact trivial | apply And.intro | intro _)
                                  all_goals (first | omega | (change (_ : Bool) = true; simp_all; done) | (simp_all; done))
                                · repeat' (first | exact trivial | apply And.intro | intro _)
                                  all_goals (first | omega | (change (_ : Bool) = true; simp_all; done) | (simp_all; done))
                                exact ret_bool (by simp only [readsB]; generalize rightB b k x y = r at *; simp_all)
                            )
                      )
                )
          )
        · first
          | (exfalso; simp_all; done)
          | (
              refine AW_all good tabB tabB_ok rfl rfl ?_ ?_
              · repeat' (first | exact trivial | apply And.intro | intro _)
                all_goals (first | omega | (change (_ : Bool) = true; simp_all; done) | (simp_all; done))
              refine AW_cond rfl (fun h7 => ?_) (fun h7 => ?_)
              · first
                | (exfalso; simp_all; done)
                | (
                    refine AW_seq ?_
                    refine AW_all good tabB tabB_ok rfl rfl ?_ ?_
                    · repeat' (first | exact trivial | apply And.intro | intro _)
                      all_goals (first | omega | (change (_ : Bool) = true; simp_all; done) | (simp_all; done))
                    refine AW_ret (bodyQ_ret rfl ?_ (Ends.intro rfl ?_ ?_))
                    · repeat' (first | exact trivial | apply And.intro | intro _)
                      all_goals (first | omega | (change (_ : Bool) = true; simp_all; done) | (simp_all; done))
                    · repeat' (first | exact trivial | apply And.intro | intro _)
                      all_goals (first | omega | (change (_ : Bool) = true; simp_all; done) | (simp_all; done))
                    exact ret_bool (by simp only [readsB]; generalize rightB b k x y = r at *; simp_all)
                )
              · first
                | (exfalso; simp_all; done)
                | (
                    refine AW_seq ?_
                    refine AW_seq ?_
                    refine AW_all good tabB tabB_ok rfl rfl ?_ ?_
                    · repeat' (first | exact trivial | apply And.intro | intro _)
                      all_goals (first | omega | (change (_ : Bool) = true; simp_all; done) | (simp_all; done))
                    refine AW_cond rfl (fun h8 => ?_) (fun h8 => ?_)
                    · first
                      | (exfalso; simp_all; done)
                      | (
                          refine AW_skip ?_
                          refine AW_cond rfl (fun h9 => ?_) (fun h9 => ?_)
                          · first
                            | (exfalso; simp_all; done)
                            | (
                                refine AW_seq ?_
                                refine AW_all good tabB tabB_ok rfl rfl ?_ ?_
                                · repeat' (first | exact trivial | apply And.intro | intro _)
                                  all_goals (first | omega | (change (_ : Bool) = true; simp_all; done) | (simp_all; done))
                                refine AW_ret (bodyQ_ret rfl ?_ (Ends.intro rfl ?_ ?_))
                                · repeat' (first | exact trivial | apply And.intro | intro _)
                                  all_goals (first | omega | (change (_ : Bool) = true; simp_all; done) | (simp_all; done))
                                · repeat' (first | exact trivial | apply And.intro | intro _)
                                  all_goals (first | omega | (change (_ : Bool) = true; simp_all; done) | (simp_all; done))
                                exact ret_bool (by simp only [readsB]; generalize rightB b k x y = r at *; simp_all)
                            )
                          · first
                            | (exfalso; simp_all; done)
                            | (
                                refine AW_skip ?_
                                refine AW_seq ?_
                                refine AW_all good tabB tabB_ok rfl rfl ?_ ?_
                                · repeat' (first | exact trivial | apply And.intro | intro _)
                                  all_goals (first | omega | (change (_ : Bool) = true; simp_all; done) | (simp_all; done))
                                refine AW_ret (bodyQ_ret rfl ?_ (Ends.intro rfl ?_ ?_))
                                · repeat' (first | exact trivial | apply And.intro | intro _)
                                  all_goals (first | omega | (change (_ : Bool) = true; simp_all; done) | (simp_all; done))
                                · repeat' (first | exact trivial | apply And.intro | intro _)
                                  all_goals (first | omega | (change (_ : Bool) = true; simp_all; done) | (simp_all; done))
                                exact ret_bool (by simp only [readsB]; generalize rightB b k x y = r at *; simp_all)
                            )
                      )
                    · first
                      | (exfalso; simp_all; done)
                      | (
                          refine AW_all good tabB tabB_ok rfl rfl ?_ ?_
                          · repeat' (first | exact trivial | apply And.intro | intro _)
                            all_goals (first | omega | (change (_ : Bool) = true; simp_all; done) | (simp_all; done))
                          refine AW_cond rfl (fun h10 => ?_) (fun h10 => ?_)
                          · first
                            | (exfalso; simp_all; done)
                            | (
                                refine AW_seq ?_
                                refine AW_all good tabB tabB_ok rfl rfl ?_ ?_
                                · repeat' (first | exact trivial | apply And.intro | intro _)
                                  all_goals (first | omega | (change (_ : Bool) = true; simp_all; done) | (simp_all; done))
                                refine AW_ret (bodyQ_ret rfl ?_ (Ends.intro rfl ?_ ?_))
                                · repeat' (first | exact trivial | apply And.intro | intro _)
                                  all_goals (first | omega | (change (_ : Bool) = true; simp_all; done) | (simp_all; done))
                                · repeat' (first | exact trivial | apply And.intro | intro _)
                                  all_goals (first | omega | (change (_ : Bool) = true; simp_all; done) | (simp_all; done))
                                exact ret_bool (by simp only [readsB]; generalize rightB b k x y = r at *; simp_all)
                            )
                          · first
                            | (exfalso; simp_all; done)
                            | (
                                refine AW_skip ?_
                                refine AW_seq ?_
                                refine AW_all good tabB tabB_ok rfl rfl ?_ ?_
                                · repeat' (first | exact trivial | apply And.intro | intro _)
                                  all_goals (first | omega | (change (_ : Bool) = true; simp_all; done) | (simp_all; done))
                                refine AW_ret (bodyQ_ret rfl ?_ (Ends.intro rfl ?_ ?_))
                                · repeat' (first | exact trivial | apply And.intro | intro _)
                                  all_goals (first | omega | (change (_ : Bool) = true; simp_all; done) | (simp_all; done))
                                · repeat' (first | exact trivial | apply And.intro | intro _)
                                  all_goals (first | omega | (change (_ : Bool) = true; simp_all; done) | (simp_all; done))
                                exact ret_bool (by simp only [readsB]; generalize rightB b k x y = r at *; simp_all)
                            )
                      )
                )
          )
    )

def wordsV (b k x y : Int) : SV := .tup [.one (.imm (.sl 1 (bif rightB b k x y then 3 else 0) false fun i _ => .val (.int .u64 (match i with | 0 => IntKind.u64.wrap (IntKind.i64.wrap (IntKind.i64.wrap (b * 16) + k)) | 1 => IntKind.u64.wrap x | _ => IntKind.u64.wrap y)))), .one (.imm (.val (.int .i64 (bif rightB b k x y then 0 else 1))))]

theorem words_c (b k x y : Int) : PCall Try.prog 5 [opA b k x y] (wordsV b k x y) := by
  refine PCall_of (ACall_body good Try.func5 rfl 21 rfl (by simp) ?_)
  refine AW_seq ?_
  refine AW_all good tabB tabB_ok rfl rfl ?_ ?_
  · repeat' (first | exact trivial | apply And.intro | intro _)
    all_goals (first | omega | (change (_ : Bool) = true; simp_all; done) | (simp_all; done))
  refine AW_seq ?_
  refine AW_seq ?_
  refine AW_all good tabB tabB_ok rfl rfl ?_ ?_
  · repeat' (first | exact trivial | apply And.intro | intro _)
    all_goals (first | omega | (change (_ : Bool) = true; simp_all; done) | (simp_all; done))
  refine AW_cond rfl (fun h1 => ?_) (fun h1 => ?_)
  · first
    | (exfalso; simp_all; done)
    | (
        refine AW_seq ?_
        refine AW_all good tabB tabB_ok rfl rfl ?_ ?_
        · repeat' (first | exact trivial | apply And.intro | intro _)
          all_goals (first | omega | (change (_ : Bool) = true; simp_all; done) | (simp_all; done))
        refine AW_ret (bodyQ_ret rfl ?_ (Ends.le rfl ?_ ?_))
        · repeat' (first | exact trivial | apply And.intro | intro _)
          all_goals (first | omega | (change (_ : Bool) = true; simp_all; done) | (simp_all; done))
        · repeat' (first | exact trivial | apply And.intro | intro _)
          all_goals (first | omega | (change (_ : Bool) = true; simp_all; done) | (simp_all; done))
        exact SLe.pair (CLe.imm (ILe.sl (by simp_all) (by simp) (.inl rfl))) (CLe.of_eq (by simp_all))
    )
  · first
    | (exfalso; simp_all; done)
    | (
        refine AW_skip ?_
        refine AW_seq ?_
        refine AW_all good tabB tabB_ok rfl rfl ?_ ?_
        · repeat' (first | exact trivial | apply And.intro | intro _)
          all_goals (first | omega | (change (_ : Bool) = true; simp_all; done) | (simp_all; done))
        refine AW_ret (bodyQ_ret rfl ?_ (Ends.le rfl ?_ ?_))
        · repeat' (first | exact trivial | apply And.intro | intro _)
          all_goals (first | omega | (change (_ : Bool) = true; simp_all; done) | (simp_all; done))
        · repeat' (first | exact trivial | apply And.intro | intro _)
          all_goals (first | omega | (change (_ : Bool) = true; simp_all; done) | (simp_all; done))
        refine SLe.pair (CLe.imm (ILe.sl (by simp_all) (by simp) (.inr ⟨rfl, fun i j hi hj => ILe.of_eq ?_⟩))) (CLe.of_eq (by simp_all))
        obtain rfl : j = 0 := by simp [lay29] at hj; omega
        match i, hi with
        | 0, _ => rfl
        | 1, _ => rfl
        | 2, _ => rfl
    )

def tabC : Tab := tabAdd 7 (fun args => match args with
  | [.agg [.imm (.val (.int .i64 b)), .imm (.val (.int .i64 k)), .imm (.val (.int .i64 x)), .imm (.val (.int .i64 y))]] => some (.cv (ibool (readsB b k x y)), True)
  | _ => none) (tabAdd 5 (fun args => match args with
  | [.agg [.imm (.val (.int .i64 b)), .imm (.val (.int .i64 k)), .imm (.val (.int .i64 x)), .imm (.val (.int .i64 y))]] => some (wordsV b k x y, True)
  | _ => none) tabB)
theorem tabC_ok : TabOk Try.prog tabC := by
  refine tabAdd_ok rfl (fun args r p h _ => ?_) (tabAdd_ok rfl (fun args r p h _ => ?_) tabB_ok)
  · split at h
    · simp only [Option.some.injEq, Prod.mk.injEq] at h; obtain ⟨rfl, _⟩ := h; exact reads_c _ _ _ _
    · cases h
  · split at h
    · simp only [Option.some.injEq, Prod.mk.injEq] at h; obtain ⟨rfl, _⟩ := h; exact words_c _ _ _ _
    · cases h

theorem right_alive : rightB 3 2 7 0 = true := by decide

theorem alive_c : PCall Try.prog 6 [] (.cv (ibool true)) := by
  refine PCall_of (ACall_body good Try.func6 rfl 27 rfl (by simp) ?_)
  refine AW_seq ?_
  refine AW_all good tabC tabC_ok rfl rfl ?_ ?_
  · repeat' (first | exact trivial | apply And.intro | intro _)
    all_goals (first | omega | (change (_ : Bool) = true; simp_all [right_alive]; done) | (simp_all [right_alive]; done))
  refine AW_seq ?_
  refine AW_all good tabC tabC_ok rfl rfl ?_ ?_
  · repeat' (first | exact trivial | apply And.intro | intro _)
    all_goals (first | omega | (change (_ : Bool) = true; simp_all [right_alive]; done) | (simp_all [right_alive]; done))
  refine AW_seq ?_
  refine AW_all good tabC tabC_ok rfl rfl ?_ ?_
  · repeat' (first | exact trivial | apply And.intro | intro _)
    all_goals (first | omega | (change (_ : Bool) = true; simp_all [right_alive]; done) | (simp_all [right_alive]; done))
  refine AW_ret (bodyQ_ret rfl ?_ (Ends.intro rfl ?_ ?_))
  · repeat' (first | exact trivial | apply And.intro | intro _)
    all_goals (first | omega | (change (_ : Bool) = true; simp_all [right_alive]; done) | (simp_all [right_alive]; done))
  · repeat' (first | exact trivial | apply And.intro | intro _)
    all_goals (first | omega | (change (_ : Bool) = true; simp_all [right_alive]; done) | (simp_all [right_alive]; done))
  exact ret_bool (by simp [right_alive]; decide)

def tabD : Tab := tabAdd 6 (fun args => match args with
  | [] => some (.cv (ibool true), True)
  | _ => none) tabC
theorem tabD_ok : TabOk Try.prog tabD := by
  refine tabAdd_ok rfl (fun args r p h _ => ?_) tabC_ok
  split at h
  · simp only [Option.some.injEq, Prod.mk.injEq] at h; obtain ⟨rfl, _⟩ := h; exact alive_c
  · cases h

theorem opIs_cases {b k : Int} (h : opIs b k = true) : (1 ≤ b ∧ b ≤ 4) ∧ 1 ≤ k ∧ k ≤ 6 := by
  simp only [opIs, numIns, numKs, List.flatMap_cons, List.flatMap_nil, List.cons_append, List.nil_append, domD, eqI, Bool.true_and, Bool.and_true, Bool.or_eq_true, Bool.and_eq_true, beq_iff_eq, Bool.or_false] at h
  omega

theorem right_cases {b k x y : Int} (h : rightB b k x y = true) : (1 ≤ b ∧ b ≤ 4) ∧ (1 ≤ k ∧ k ≤ 6) ∧ (-1073741824 ≤ x ∧ x ≤ 1073741824) ∧ (-1073741824 ≤ y ∧ y ≤ 1073741824) := by
  simp only [rightB, wi, Bool.and_eq_true, decide_eq_true_eq] at h
  obtain ⟨h1, h2, h3, _⟩ := h
  have := opIs_cases h1
  exact ⟨this.1, this.2, h2, h3⟩

theorem box_cases (box : Int) : let n := IntKind.i64.wrap (1 + (IntKind.i64.wrap (box.tmod 4 + 4)).tmod 4); n = 1 ∨ n = 2 ∨ n = 3 ∨ n = 4 := by
  have h1 : -4 < box.tmod 4 ∧ box.tmod 4 < 4 := by
    have := Int.tmod_lt_of_pos box (show (0 : Int) < 4 by omega)
    have h2 : -4 < box.tmod 4 := by
      have := Int.tmod_lt_of_pos (-box) (show (0 : Int) < 4 by omega)
      rw [Int.neg_tmod] at this
      omega
    exact ⟨h2, this⟩
  have h2 : IntKind.i64.wrap (box.tmod 4 + 4) = box.tmod 4 + 4 := IntWalk.i64_in _ (by omega)
  rw [h2]
  have h3 : (box.tmod 4 + 4).tmod 4 = (box.tmod 4 + 4) % 4 := Int.tmod_eq_emod_of_nonneg (by omega)
  rw [h3]
  have h4 : IntKind.i64.wrap (1 + (box.tmod 4 + 4) % 4) = 1 + (box.tmod 4 + 4) % 4 := IntWalk.i64_in _ (by omega)
  rw [h4]
  show _ ∨ _
  omega

theorem reads_right {b k x y : Int} (h : readsB b k x y = true) : rightB b k x y = true := by
  simp only [readsB, Bool.and_eq_true] at h
  exact h.1

theorem kinds_c (b k x y box : Int) : PCall Try.prog 4 [opA b k x y, iint box] (.cv (ibool true)) := by
  refine PCall_of (ACall_body good Try.func4 rfl 55 rfl (by simp) ?_)
  refine AW_seq ?_
  refine AW_all good tabD tabD_ok rfl rfl ?_ ?_
  · repeat' (first | exact trivial | apply And.intro | intro _)
    all_goals (first | omega | (change (_ : Bool) = true; simp_all; done) | (simp_all; done))
  refine AW_seq ?_
  refine AW_all good tabD tabD_ok rfl rfl ?_ ?_
  · repeat' (first | exact trivial | apply And.intro | intro _)
    all_goals (first | omega | (change (_ : Bool) = true; simp_all; done) | (simp_all; done))
  refine AW_seq ?_
  refine AW_all good tabD tabD_ok rfl rfl ?_ ?_
  · repeat' (first | exact trivial | apply And.intro | intro _)
    all_goals (first | omega | (change (_ : Bool) = true; simp_all; done) | (simp_all; done))
  refine AW_seq ?_
  refine AW_all good tabD tabD_ok rfl rfl ?_ ?_
  · repeat' (first | exact trivial | apply And.intro | intro _)
    all_goals (first | omega | (change (_ : Bool) = true; simp_all; done) | (simp_all; done))
  refine AW_ret (bodyQ_ret rfl ?_ (Ends.intro rfl ?_ ?_))
  · repeat' (first | exact trivial | apply And.intro | intro _)
    all_goals (first | omega | (change (_ : Bool) = true; simp_all; done) | (simp_all; done))
  · repeat' (first | exact trivial | apply And.intro | intro _)
    all_goals (first | omega | (change (_ : Bool) = true; simp_all; done) | (simp_all; done))
  refine ret_bool ?_
  have hb := box_cases box
  simp only at hb
  generalize IntKind.i64.wrap (1 + (IntKind.i64.wrap (box.tmod 4 + 4)).tmod 4) = n at hb ⊢
  have h1 : (bif !readsB b k x y then true else rightB b k x y) = true := by
    cases hr : readsB b k x y with
    | false => rfl
    | true => simpa using reads_right hr
  rw [h1]
  rcases hb with rfl | rfl | rfl | rfl <;> decide

theorem apart_law {b k x y b' k' x' y' : Int} (h1 : rightB b k x y = true) (h2 : rightB b' k' x' y' = true) : ((IntKind.u64.wrap (IntKind.i64.wrap (IntKind.i64.wrap (b * 16) + k)) == IntKind.u64.wrap (IntKind.i64.wrap (IntKind.i64.wrap (b' * 16) + k'))) && (IntKind.u64.wrap x == IntKind.u64.wrap x' && IntKind.u64.wrap y == IntKind.u64.wrap y')) = eqI [b, k, x, y] [b', k', x', y'] := by
  obtain ⟨a1, a2, a3, a4⟩ := right_cases h1
  obtain ⟨c1, c2, c3, c4⟩ := right_cases h2
  rw [IntWalk.i64_in (b * 16) (by omega), IntWalk.i64_in (b' * 16) (by omega), IntWalk.i64_in (b * 16 + k) (by omega), IntWalk.i64_in (b' * 16 + k') (by omega), IntWalk.u64_in (b * 16 + k) (by omega), IntWalk.u64_in (b' * 16 + k') (by omega)]
  simp only [IntKind.wrap_u64, eqI, Bool.and_true]
  rw [Bool.eq_iff_iff]
  simp only [Bool.and_eq_true, beq_iff_eq]
  omega

theorem apart_c (b k x y b' k' x' y' : Int) : PCall Try.prog 3 [opA b k x y, opA b' k' x' y'] (.cv (ibool true)) := by
  refine PCall_of (ACall_body good Try.func3 rfl 70 rfl (by simp) ?_)
  refine AW_seq ?_
  refine AW_all good tabD tabD_ok rfl rfl ?_ ?_
  · repeat' (first | exact trivial | apply And.intro | intro _)
    all_goals (first | omega | (change (_ : Bool) = true; simp_all; done) | (simp_all; done))
  refine AW_seq ?_
  refine AW_all good tabD tabD_ok rfl rfl ?_ ?_
  · repeat' (first | exact trivial | apply And.intro | intro _)
    all_goals (first | omega | (change (_ : Bool) = true; simp_all; done) | (simp_all; done))
  refine AW_seq ?_
  refine AW_all good tabD tabD_ok rfl rfl ?_ ?_
  · repeat' (first | exact trivial | apply And.intro | intro _)
    all_goals (first | omega | (change (_ : Bool) = true; simp_all; done) | (simp_all; done))
  refine AW_seq ?_
  refine AW_seq ?_
  refine AW_all good tabD tabD_ok rfl rfl ?_ ?_
  · repeat' (first | exact trivial | apply And.intro | intro _)
    all_goals (first | omega | (change (_ : Bool) = true; simp_all; done) | (simp_all; done))
  refine AW_cond rfl (fun h1 => ?_) (fun h1 => ?_)
  · first
    | (exfalso; simp_all; done)
    | (
        refine AW_seq ?_
        refine AW_all good tabD tabD_ok rfl rfl ?_ ?_
        · repeat' (first | exact trivial | apply And.intro | intro _)
          all_goals (first | omega | (change (_ : Bool) = true; simp_all; done) | (simp_all; done))
        refine AW_ret (bodyQ_ret rfl ?_ (Ends.intro rfl ?_ ?_))
        · repeat' (first | exact trivial | apply And.intro | intro _)
          all_goals (first | omega | (change (_ : Bool) = true; simp_all; done) | (simp_all; done))
        · repeat' (first | exact trivial | apply And.intro | intro _)
          all_goals (first | omega | (change (_ : Bool) = true; simp_all; done) | (simp_all; done))
        exact ret_bool rfl
    )
  · first
    | (exfalso; simp_all; done)
    | (
        refine AW_skip ?_
        refine AW_seq ?_
        refine AW_drw good rfl tabD tabD_ok rfl rfl rfl ?_ ?_
        · repeat' (first | exact trivial | apply And.intro | intro _)
          all_goals (first | omega | (change (_ : Bool) = true; simp_all; done) | (simp_all; done))
        refine AW_seq ?_
        refine AW_all good tabD tabD_ok rfl rfl ?_ ?_
        · repeat' (first | exact trivial | apply And.intro | intro _)
          all_goals (first | omega | (change (_ : Bool) = true; simp_all; done) | (simp_all; done))
        refine AW_ret (bodyQ_ret rfl ?_ (Ends.intro rfl ?_ ?_))
        · repeat' (first | exact trivial | apply And.intro | intro _)
          all_goals (first | omega | (change (_ : Bool) = true; simp_all; done) | (simp_all; done))
        · repeat' (first | exact trivial | apply And.intro | intro _)
          all_goals (first | omega | (change (_ : Bool) = true; simp_all; done) | (simp_all; done))
        refine ret_bool ?_
        have e1 : rightB b k x y = true := by cases hr : rightB b k x y <;> simp_all
        have e2 : rightB b' k' x' y' = true := by cases hr : rightB b' k' x' y' <;> simp_all
        rw [e1, e2, ← apart_law e1 e2]
        generalize IntKind.u64.wrap (IntKind.i64.wrap (IntKind.i64.wrap (b * 16) + k)) = w0
        generalize IntKind.u64.wrap (IntKind.i64.wrap (IntKind.i64.wrap (b' * 16) + k')) = w0'
        generalize IntKind.u64.wrap x = w1
        generalize IntKind.u64.wrap x' = w1'
        generalize IntKind.u64.wrap y = w2
        generalize IntKind.u64.wrap y' = w2'
        show ((bif (bif (bif true then w0 == w0' else false) then w1 == w1' else false) then w2 == w2' else false) == (w0 == w0' && (w1 == w1' && w2 == w2'))) = true
        cases w0 == w0' <;> cases w1 == w1' <;> cases w2 == w2' <;> rfl
    )
end Go.Proofs.Ytlogldffadeadaa.Abs
