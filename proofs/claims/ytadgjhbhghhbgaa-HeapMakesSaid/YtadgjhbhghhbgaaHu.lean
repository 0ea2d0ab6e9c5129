/-
  HeapSorts: items put in and popped, plainly.
-/
import Derived.Test.YtadgjhbhghhbgaaHr
import Derived.Test.YtadgjhbhghhbgaaHv
namespace Go.Proofs.Ytadgjhbhghhbgaa.Abs
open Go
set_option maxRecDepth 10000

/-- What holds while items are put in. -/
structure PutI (i : Nat) (a : Ar) (r : Int) (row : Sl Item) (half : Int) (bef : Sl Item) : Prop where
  right : RightP a
  rng : RngA a
  heap : ∃ F, HeapAt a r F ∧ F.items.Perm (toL row)
  srt : Sorted row
  n : row.n = i
  half : ∃ G, HeapAt a half G ∧ G.items.Perm (toL bef) ∧ Sorted bef ∧ bef.n ≤ 8
  free : 512 ≤ a.free.n + 3 * i
/-- What holds while they are popped. -/
structure PopI (row : Sl Item) (i : Nat) (a : Ar) (r : Int) (half : Int) (bef : Sl Item) : Prop where
  right : RightP a
  rng : RngA a
  heap : ∃ F, HeapAt a r F ∧ F.items.Perm ((toL row).drop i)
  half : ∃ G, HeapAt a half G ∧ G.items.Perm (toL bef) ∧ Sorted bef ∧ bef.n ≤ 8
  free : 512 ≤ a.free.n + 24 + 18 * i
theorem put_step {i : Nat} {a : Ar} {r half : Int} {row bef : Sl Item} (h : PutI i a r row half bef) (hi : i < 8) (x : Item) : ∃ b t, insA a r x = (b, t, 0) ∧ PutI (i + 1) b t (withI row x) half bef ∧ PutI (i + 1) b t (withI row x) t (withI row x) := by
  obtain ⟨F, hF, pF⟩ := h.heap
  have hs : F.size ≤ 8 := by
    rw [← Fo.items_len, pF.length_eq, toL_len, h.n]
    omega
  have hfr := h.free
  obtain ⟨b, t, H, e, h1, k1, hb, pb, n1, f1, f2, g1⟩ := insA_ok2 h.right h.rng (by omega) hF (by omega) x
  have pW : H.items.Perm (toL (withI row x)) := pb.trans ((List.Perm.append_right [x] pF).trans (with_perm row x).symm)
  have sW := with_sorted (x := x) h.srt
  have hn : (withI row x).n = i + 1 := by
    show row.n + 1 = i + 1
    rw [h.n]
  obtain ⟨G, hG, pG, sG, nG⟩ := h.half
  exact ⟨b, t, e, ⟨h1, g1, ⟨H, hb, pW⟩, sW, hn, ⟨G, hG.keeps k1, pG, sG, nG⟩, by omega⟩, ⟨h1, g1, ⟨H, hb, pW⟩, sW, hn, ⟨H, hb, pW, sW, by omega⟩, by omega⟩⟩
theorem pop_step {row : Sl Item} {i : Nat} {a : Ar} {r half : Int} {bef : Sl Item} (h : PopI row i a r half bef) (sR : Sorted row) (hn : row.n ≤ 8) (hi : i < row.n) : ∃ b t, popC a r = (b, t, 0, row.at_ i) ∧ popX a r = row.at_ i ∧ PopI row (i + 1) b t half bef := by
  obtain ⟨F, hF, pF⟩ := h.heap
  have hfr := h.free
  have hd : (toL row).drop i = row.at_ i :: (toL row).drop (i + 1) := by
    have hi' : i < (toL row).length := by rw [toL_len]; exact hi
    rw [List.drop_eq_getElem_cons hi']
    have := toL_get row hi
    rw [List.getElem?_eq_getElem hi'] at this
    rw [Option.some.inj this]
  have hsd : ((toL row).drop i).Pairwise leI := List.Pairwise.sublist (List.drop_sublist i _) (sorted_toL sR)
  have hlen := pF.length_eq
  rw [List.length_drop, toL_len, Fo.items_len] at hlen
  rcases hF.one with rfl | ⟨p, y, k, rfl, hk⟩
  · have : (0 : Nat) = row.n - i := hlen
    omega
  · have hit : (Fo.node p y k .nil).items = y :: k.items := by simp [Fo.items]
    rw [hit] at pF
    obtain ⟨L', e, pL, sL⟩ := sorted_head pF.symm hsd (heapy_all hk)
    rw [hd] at e
    obtain ⟨e1, e2⟩ := List.cons.inj e
    obtain ⟨b, t, A, e3, ex, c1, k2, hA, pA, nA, f1, f2, g1⟩ := pop_ok h.right h.rng hF (by omega) (by omega)
    obtain ⟨G, hG, pG, sG, nG⟩ := h.half
    rw [← e1] at e3 ex
    refine ⟨b, t, e3, ex, c1, g1, ⟨A, hA, ?_⟩, ⟨G, hG.keeps k2, pG, sG, nG⟩, by omega⟩
    rw [e2]
    exact pA.trans pL.symm
theorem sorts_end {k : Nat} (hk : 202 ≤ k) {row : Sl Item} {a : Ar} {r half : Int} {bef : Sl Item} (h : PopI row row.n a r half bef) : r = 0 ∧ itmsB k a half = true ∧ sameI (itmsL k a half) bef = true := by
  obtain ⟨F, hF, pF⟩ := h.heap
  rw [List.drop_eq_nil_of_le (by rw [toL_len]; exact Nat.le_refl _)] at pF
  obtain ⟨G, hG, pG, sG, nG⟩ := h.half
  have hr : r = 0 := by
    rcases hF.one with rfl | ⟨p, y, k, rfl, _⟩
    · exact hF.rep
    · exact absurd pF.length_eq (by simp [Fo.items])
  have hGs : G.size ≤ 200 := by rw [← Fo.items_len, pG.length_eq, toL_len]; omega
  obtain ⟨i1, i2, i3⟩ := itms_ok hk h.right hG hGs
  exact ⟨hr, i1, same_ok (sorted_eq (i2.trans pG) i3 (sorted_toL sG))⟩
theorem new_512 : RightP (newAr 512) ∧ RngA (newAr 512) := by
  refine ⟨⟨by show 1 ≤ 512; omega, by show 512 ≤ 512; omega, Nat.le_refl _, fun i hi => ?_, fun i j hij hj => ?_, fun q hq => nd0_well, fun q hq => ?_, fun q hq h0 => rfl⟩, fun q _ => nd0_rng⟩
  · have hi : i < 512 := hi
    show 0 ≤ ((512 : Nat) : Int) - 1 - i ∧ ((512 : Nat) : Int) - 1 - i < ((512 : Nat) : Int)
    omega
  · show ((512 : Nat) : Int) - 1 - i ≠ ((512 : Nat) : Int) - 1 - j
    omega
  · have hq : q < 512 := hq
    refine ⟨fun _ => ⟨511 - q, by show 511 - q < 512; omega, ?_⟩, fun _ => rfl⟩
    show ((512 : Nat) : Int) - 1 - ((511 - q : Nat) : Int) = q
    omega
theorem eqx_f (x : Item) (d : Bool) : (bif (bif (0 : Int) != 0 then d else false) then true else bif (0 : Int) == 0 then !eqI [x.k, x.v] [x.k, x.v] else false) = false := by
  show (!(x.k == x.k && (x.v == x.v && true))) = false
  simp
theorem put_start : PutI 0 (newAr 512) 0 ⟨0, fun _ => it0⟩ 0 ⟨0, fun _ => it0⟩ := by
  have h0 : ∃ F, HeapAt (newAr 512) 0 F ∧ F.items.Perm (toL (⟨0, fun _ => it0⟩ : Sl Item)) := ⟨.nil, HeapAt.nil _, List.Perm.refl _⟩
  have hs : Sorted ⟨0, fun _ => it0⟩ := fun i j _ hj => absurd hj (Nat.not_lt_zero j)
  obtain ⟨F, h1, h2⟩ := h0
  exact ⟨new_512.1, new_512.2, ⟨F, h1, h2⟩, hs, rfl, ⟨F, h1, h2, hs, Nat.zero_le _⟩, Nat.le_refl _⟩
noncomputable def tr5 (k : Nat) : Tab := tabC2 23 arA rI (fun a r => .tup [.one (.imm (slI itE (itmsL k a r))), ibool (itmsB k a r)]) (fun _ _ => True) th22
theorem tr5_ok {k : Nat} (hk : 202 ≤ k) : TabOk Try.prog (tr5 k) := tabC2_ok rfl (fun a r _ => ref12Items k hk a r) th22_ok

end Go.Proofs.Ytadgjhbhghhbgaa.Abs

/-
  THE LAW HeapTells, AS IT IS WALKED: true all the way.
-/
namespace Go.Proofs.Ytadgjhbhghhbgaa.Abs
open Go
set_option maxRecDepth 10000

theorem lawFew (a : Ar) : PCall Try.prog 25 [arC a] (.cv (arC (fewA a))) := by
  refine PCall_of (ACall_body good Try.func25 rfl 20 rfl (by simp) ?_)
  refine AW_seq ?_
  refine AW_all good tab0 (tab0_ok _) rfl rfl ?_ ?_
  · repeat' (first | exact trivial | exact rfl | exact (fun _ _ => rfl) | refine And.intro ?_ ?_ | intro _)
  refine AW_seq ?_
  refine AW_drwG good rfl tab0 (tab0_ok _) et0 (et0_ok _) [] [0, 1, 0, 4, 12, 28, 63, 0, 128, 0, 512, 1536, 3584, 8064, 2047, 18431, 65535, 131071] [false, false, false, false, false, false, false, false, false, false, false, false, false, false, false, true, false, true] (by rfl) (by rfl) rfl (by rfl) (by rfl) ?_ ?_ ?_
  · repeat' (first | exact trivial | exact rfl | exact (fun _ _ => rfl) | refine And.intro ?_ ?_ | intro _)
    all_goals omega
  · repeat' (first | refine And.intro ?_ ?_ | exact trivial | exact rfl | intro _)
    all_goals omega
  refine AW_seq ?_
  refine AW_all good tab0 (tab0_ok _) rfl rfl ?_ ?_
  · repeat' (first | exact trivial | exact rfl | exact (fun _ _ => rfl) | refine And.intro ?_ ?_ | intro _)
  refine AW_ret (bodyQ_ret rfl ?_ (Ends.le rfl ?_ ?_))
  · repeat' (first | exact trivial | exact rfl | exact (fun _ _ => rfl) | refine And.intro ?_ ?_ | intro _)
  · repeat' (first | exact trivial | exact rfl | exact (fun _ _ => rfl) | refine And.intro ?_ ?_ | intro _)
  refine SLe.cv (CLe.aggL ⟨CLe.imm (ILe.sl ?_ (by simp) (.inr ⟨rfl, fun i j _ _ => ILe.refl _⟩)), CLe.imm (ILe.sl ?_ (by simp) (.inr ⟨rfl, fun i j _ _ => ILe.refl _⟩)), trivial⟩)
  · show min a.nodes.n 60 = _
    split <;> omega
  · show min a.free.n 62 = _
    split <;> omega

noncomputable def tr6 (k : Nat) : Tab := tabC3 28 arA rI rI (fun a x y => .tup [arC (meldA a x y).1, u64 (meldA a x y).2.1, iint (meldA a x y).2.2]) (fun _ _ _ => True) (tabC1 25 arA (fun a => .cv (arC (fewA a))) (fun _ => True) (tr5 k))
theorem tr6_ok {k : Nat} (hk : 202 ≤ k) : TabOk Try.prog (tr6 k) := tabC3_ok rfl (fun a x y _ => heapMeld a x y) (tabC1_ok rfl (fun a _ => lawFew a) (tr5_ok hk))

set_option maxHeartbeats 2000000 in
theorem lawTells (k : Nat) (hk : 202 ≤ k) (a0 : Ar) (r : Int) (hr : RngK r) : PCall Try.prog 10 [arC a0, u64 r] (.cv (ibool true)) := by
  refine PCall_of (ACall_body good Try.func10 rfl 162 rfl (by simp) ?_)
  refine AW_seq ?_
  refine AW_all good (tr6 k) (tr6_ok hk) rfl rfl ?_ ?_
  · repeat' (first | exact trivial | exact rfl | exact (fun _ _ => rfl) | refine And.intro ?_ ?_ | intro _)
  refine AW_seq ?_
  refine AW_all good (tr6 k) (tr6_ok hk) rfl rfl ?_ ?_
  · repeat' (first | exact trivial | exact rfl | exact (fun _ _ => rfl) | refine And.intro ?_ ?_ | intro _)
    all_goals exact slOk_lit
  skip
  obtain ⟨a, ha⟩ : ∃ a, fewA a0 = a := ⟨_, rfl⟩
  refine AW_blk 0 rfl (B := bkV 50 arE a) (BLe.of_eq (by rw [← ha]; rfl)) ?_
  have hT := tells_ok hk (a := a) hr
  refine AW_seq ?_
  refine AW_all good (tr6 k) (tr6_ok hk) rfl rfl ?_ ?_
  · repeat' (first | exact trivial | exact rfl | exact (fun _ _ => rfl) | refine And.intro ?_ ?_ | intro _)
    all_goals exact slOk_lit
  skip
  obtain ⟨L, hL⟩ : ∃ L, itemsL a r = L := ⟨_, rfl⟩
  obtain ⟨e, he⟩ : ∃ e, itemsE a r = e := ⟨_, rfl⟩
  rw [hL, he] at hT
  refine AW_slot 5 (y := .cv (.one (.imm (slI itE L)))) rfl (SLe.of_eq (by rw [← hL]; rfl)) ?_
  refine AW_slot 6 (y := .cv (iint e)) rfl (SLe.of_eq (by rw [← he]; rfl)) ?_
  refine AW_seq ?_
  refine AW_all good (tr6 k) (tr6_ok hk) rfl rfl ?_ ?_
  · repeat' (first | exact trivial | exact rfl | exact (fun _ _ => rfl) | refine And.intro ?_ ?_ | intro _)
    all_goals exact slOk_lit
  skip
  refine AW_slot 7 (y := .cv (iint L.n)) rfl (SLe.of_eq (by rw [← hL]; rfl)) ?_
  refine AW_slot 8 (y := .cv (iint e)) rfl (SLe.of_eq (by rw [← he]; rfl)) ?_
  refine AW_seq ?_
  refine AW_all good (tr6 k) (tr6_ok hk) rfl rfl ?_ ?_
  · repeat' (first | exact trivial | exact rfl | exact (fun _ _ => rfl) | refine And.intro ?_ ?_ | intro _)
    all_goals exact slOk_lit
  skip
  obtain ⟨x, hx⟩ : ∃ x, minX a r = x := ⟨_, rfl⟩
  obtain ⟨g, hg⟩ : ∃ g, minE a r = g := ⟨_, rfl⟩
  rw [hx, hg] at hT
  refine AW_blk 2 rfl (B := bkV 54 itE x) (BLe.of_eq (by rw [← hx]; rfl)) ?_
  refine AW_slot 10 (y := .cv (iint g)) rfl (SLe.of_eq (by rw [← hg]; rfl)) ?_
  refine AW_seq ?_
  refine AW_all good (tr6 k) (tr6_ok hk) rfl rfl ?_ ?_
  · repeat' (first | exact trivial | exact rfl | exact (fun _ _ => rfl) | refine And.intro ?_ ?_ | intro _)
    all_goals exact slOk_lit
  skip
  obtain ⟨W, hW⟩ : ∃ W, itmsL k a r = W := ⟨_, rfl⟩
  obtain ⟨ok, hok⟩ : ∃ ok, itmsB k a r = ok := ⟨_, rfl⟩
  rw [hW, hok] at hT
  refine AW_slot 11 (y := .cv (.one (.imm (slI itE W)))) rfl (SLe.of_eq (by rw [← hW]; rfl)) ?_
  refine AW_slot 12 (y := .cv (ibool ok)) rfl (SLe.of_eq (by rw [← hok]; rfl)) ?_
  refine AW_seq ?_
  refine AW_seq ?_
  refine AW_all good (tr6 k) (tr6_ok hk) rfl rfl ?_ ?_
  · repeat' (first | exact trivial | exact rfl | exact (fun _ _ => rfl) | refine And.intro ?_ ?_ | intro _)
    all_goals (first | exact slOk_lit | assumption | (rename_i hg; exact eqf hg))
  skip
  refine AW_slot 58 (y := .cv (ibool false)) rfl (SLe.of_eq ?_) ?_
  · show SV.cv (ibool (bif (hpOk a r != ok) then true else !aliveB)) = _
    rw [hT.right, alive_true]
    simp
  refine AW_cond rfl (fun h1 => ?_) (fun h1 => ?_)
  · first
    | (exfalso; simp_all; done)
    | (
        refine AW_seq ?_
        refine AW_all good (tr6 k) (tr6_ok hk) rfl rfl ?_ ?_
        · repeat' (first | exact trivial | exact rfl | exact (fun _ _ => rfl) | refine And.intro ?_ ?_ | intro _)
        refine AW_ret (bodyQ_ret rfl ?_ (Ends.le rfl ?_ ?_))
        · repeat' (first | exact trivial | exact rfl | exact (fun _ _ => rfl) | refine And.intro ?_ ?_ | intro _)
        · repeat' (first | exact trivial | exact rfl | exact (fun _ _ => rfl) | refine And.intro ?_ ?_ | intro _)
        exact SLe.of_eq rfl
    )
  · first
    | (exfalso; simp_all; done)
    | (
        refine AW_skip ?_
        refine AW_seq ?_
        refine AW_seq ?_
        refine AW_all good (tr6 k) (tr6_ok hk) rfl rfl ?_ ?_
        · repeat' (first | exact trivial | exact rfl | exact (fun _ _ => rfl) | refine And.intro ?_ ?_ | intro _)
        refine AW_cond rfl (fun h2 => ?_) (fun h2 => ?_)
        · first
          | (exfalso; simp_all; done)
          | (
              refine AW_seq ?_
              have hk0 : ok = false := by simpa using h2
              obtain ⟨rfl, hL0, rfl, rfl, hI, hM, hP⟩ := hT.no hk0
              subst hk0
              refine AW_all good (tr6 k) (tr6_ok hk) rfl rfl ?_ ?_
              · repeat' (first | exact trivial | exact rfl | exact (fun _ _ => rfl) | refine And.intro ?_ ?_ | intro _)
                all_goals exact slOk_lit
              skip
              refine AW_slot 15 (y := .cv (iint 1)) rfl (SLe.of_eq (by rw [← hI it0]; rfl)) ?_
              refine AW_seq ?_
              refine AW_all good (tr6 k) (tr6_ok hk) rfl rfl ?_ ?_
              · repeat' (first | exact trivial | exact rfl | exact (fun _ _ => rfl) | refine And.intro ?_ ?_ | intro _)
                all_goals exact slOk_lit
              skip
              refine AW_slot 18 (y := .cv (iint 1)) rfl (SLe.of_eq (by rw [← hM]; rfl)) ?_
              refine AW_seq ?_
              refine AW_all good (tr6 k) (tr6_ok hk) rfl rfl ?_ ?_
              · repeat' (first | exact trivial | exact rfl | exact (fun _ _ => rfl) | refine And.intro ?_ ?_ | intro _)
                all_goals exact slOk_lit
              skip
              refine AW_slot 22 (y := .cv (iint 1)) rfl (SLe.of_eq (by rw [← hP]; rfl)) ?_
              refine AW_seq ?_
              refine AW_all good (tr6 k) (tr6_ok hk) rfl rfl ?_ ?_
              · repeat' (first | exact trivial | exact rfl | exact (fun _ _ => rfl) | refine And.intro ?_ ?_ | intro _)
              refine AW_seq ?_
              refine AW_all good (tr6 k) (tr6_ok hk) rfl rfl ?_ ?_
              · repeat' (first | exact trivial | exact rfl | exact (fun _ _ => rfl) | refine And.intro ?_ ?_ | intro _)
                all_goals (first | assumption | (rename_i hg; exact eqt hg))
              skip
              refine AW_slot 4 (y := .cv (ibool true)) rfl (SLe.of_eq ?_) ?_
              · show SV.cv (ibool (bif (bif ((L.n : Int) == 0) then ((L.n : Int) == 0) else false) then true else false)) = _
                rw [hL0]
                rfl
              refine AW_ret (bodyQ_ret rfl ?_ (Ends.le rfl ?_ ?_))
              · repeat' (first | exact trivial | exact rfl | exact (fun _ _ => rfl) | refine And.intro ?_ ?_ | intro _)
              · repeat' (first | exact trivial | exact rfl | exact (fun _ _ => rfl) | refine And.intro ?_ ?_ | intro _)
              exact SLe.of_eq rfl
          )
        · first
          | (exfalso; simp_all; done)
          | (
              refine AW_skip ?_
              refine AW_seq ?_
              refine AW_seq ?_
              have hk1 : ok = true := by simpa using h2
              obtain ⟨rfl, hS, hn, hz, hp⟩ := hT.yes hk1
              refine AW_all good (tr6 k) (tr6_ok hk) rfl rfl ?_ ?_
              · repeat' (first | exact trivial | exact rfl | exact (fun _ _ => rfl) | refine And.intro ?_ ?_ | intro _)
                all_goals (first | exact slOk_lit | assumption | (rename_i hg; exact eqf hg))
              skip
              refine AW_slot 143 (y := .cv (ibool false)) rfl (SLe.of_eq ?_) ?_
              · show SV.cv (ibool (bif (!sameI L W) then true else ((L.n : Int) != W.n))) = _
                rw [hS, hn]
                simp
              refine AW_cond rfl (fun h3 => ?_) (fun h3 => ?_)
              · first
                | (exfalso; simp_all; done)
                | (
                    refine AW_seq ?_
                    refine AW_all good (tr6 k) (tr6_ok hk) rfl rfl ?_ ?_
                    · repeat' (first | exact trivial | exact rfl | exact (fun _ _ => rfl) | refine And.intro ?_ ?_ | intro _)
                    refine AW_ret (bodyQ_ret rfl ?_ (Ends.le rfl ?_ ?_))
                    · repeat' (first | exact trivial | exact rfl | exact (fun _ _ => rfl) | refine And.intro ?_ ?_ | intro _)
                    · repeat' (first | exact trivial | exact rfl | exact (fun _ _ => rfl) | refine And.intro ?_ ?_ | intro _)
                    exact SLe.of_eq rfl
                )
              · first
                | (exfalso; simp_all; done)
                | (
                    refine AW_skip ?_
                    refine AW_seq ?_
                    refine AW_seq ?_
                    refine AW_all good (tr6 k) (tr6_ok hk) rfl rfl ?_ ?_
                    · repeat' (first | exact trivial | exact rfl | exact (fun _ _ => rfl) | refine And.intro ?_ ?_ | intro _)
                    refine AW_cond rfl (fun h4 => ?_) (fun h4 => ?_)
                    · first
                      | (exfalso; simp_all; done)
                      | (
                          refine AW_seq ?_
                          have hL0 : L.n = 0 := by
                            have : ((L.n : Int) == 0) = true := by assumption
                            have : (L.n : Int) = 0 := by simpa using this
                            omega
                          obtain ⟨rfl, rfl⟩ := hz hL0
                          refine AW_all good (tr6 k) (tr6_ok hk) rfl rfl ?_ ?_
                          · repeat' (first | exact trivial | exact rfl | exact (fun _ _ => rfl) | refine And.intro ?_ ?_ | intro _)
                          refine AW_ret (bodyQ_ret rfl ?_ (Ends.le rfl ?_ ?_))
                          · repeat' (first | exact trivial | exact rfl | exact (fun _ _ => rfl) | refine And.intro ?_ ?_ | intro _)
                          · repeat' (first | exact trivial | exact rfl | exact (fun _ _ => rfl) | refine And.intro ?_ ?_ | intro _)
                          exact SLe.of_eq rfl
                      )
                    · first
                      | (exfalso; simp_all; done)
                      | (
                          refine AW_skip ?_
                          refine AW_seq ?_
                          have hL0 : 0 < L.n := by
                            have : ((L.n : Int) == 0) = false := by assumption
                            have : ¬ (L.n : Int) = 0 := by simpa using this
                            omega
                          obtain ⟨rfl, rfl⟩ := hp hL0
                          have hW0 : 0 < W.n := by omega
                          refine AW_drwG good rfl (tr6 k) (tr6_ok hk) et0 (et0_ok _) [] [0, 1, 3, 7, 7, 23, 55, 127, 255, 511] [false, false, false, false, false, false, false, false, false, false] (by rfl) (by rfl) rfl (by rfl) (by rfl) ?_ ?_ ?_
                          · repeat' (first | exact trivial | exact rfl | exact (fun _ _ => rfl) | refine And.intro ?_ ?_ | intro _)
                            all_goals omega
                          · repeat' (first | refine And.intro ?_ ?_ | exact trivial | exact rfl | intro _)
                          skip
                          refine AW_slot 4 (y := .cv (ibool true)) rfl (SLe.of_eq ?_) ?_
                          · show SV.cv (ibool (itEq (W.at_ 0) (W.at_ 0))) = _
                            rw [itEq_iff.2 rfl]
                          refine AW_ret (bodyQ_ret rfl ?_ (Ends.le rfl ?_ ?_))
                          · repeat' (first | exact trivial | exact rfl | exact (fun _ _ => rfl) | refine And.intro ?_ ?_ | intro _)
                          · repeat' (first | exact trivial | exact rfl | exact (fun _ _ => rfl) | refine And.intro ?_ ?_ | intro _)
                          exact SLe.of_eq rfl
                      )
                )
          )
    )

end Go.Proofs.Ytadgjhbhghhbgaa.Abs
