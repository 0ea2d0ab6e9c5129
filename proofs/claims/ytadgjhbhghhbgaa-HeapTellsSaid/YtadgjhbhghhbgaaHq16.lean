/-
  HeapSorts: items put in and popped, plainly.
-/
import Derived.Test.YtadgjhbhghhbgaaHr
import Derived.Test.YtadgjhbhghhbgaaHp17
namespace Go.Proofs.Ytadgjhbhghhbgaa.Abs
open Go
set_option maxRecDepth 10000

/-- What holds while items are put in. -/
structure PutI (i : Nat) (a : Ar) (r : Int) (row : Sl Item) (half : Int) (bef : Sl Item) : Prop where
  right : RightP a
  rng : RngA a
  heap : ∃ F, HeapAt a r F ∧ F.items.Perm (toL row)
  srt : Sorted row
  n : row.n = i
  half : ∃ G, HeapAt a half G ∧ G.items.Perm (toL bef) ∧ Sorted bef ∧ bef.n ≤ 8
  free : 512 ≤ a.free.n + 3 * i
/-- What holds while they are popped. -/
structure PopI (row : Sl Item) (i : Nat) (a : Ar) (r : Int) (half : Int) (bef : Sl Item) : Prop where
  right : RightP a
  rng : RngA a
  heap : ∃ F, HeapAt a r F ∧ F.items.Perm ((toL row).drop i)
  half : ∃ G, HeapAt a half G ∧ G.items.Perm (toL bef) ∧ Sorted bef ∧ bef.n ≤ 8
  free : 512 ≤ a.free.n + 24 + 18 * i
theorem put_step {i : Nat} {a : Ar} {r half : Int} {row bef : Sl Item} (h : PutI i a r row half bef) (hi : i < 8) (x : Item) : ∃ b t, insA a r x = (b, t, 0) ∧ PutI (i + 1) b t (withI row x) half bef ∧ PutI (i + 1) b t (withI row x) t (withI row x) := by
  obtain ⟨F, hF, pF⟩ := h.heap
  have hs : F.size ≤ 8 := by
    rw [← Fo.items_len, pF.length_eq, toL_len, h.n]
    omega
  have hfr := h.free
  obtain ⟨b, t, H, e, h1, k1, hb, pb, n1, f1, f2, g1⟩ := insA_ok2 h.right h.rng (by omega) hF (by omega) x
  have pW : H.items.Perm (toL (withI row x)) := pb.trans ((List.Perm.append_right [x] pF).trans (with_perm row x).symm)
  have sW := with_sorted (x := x) h.srt
  have hn : (withI row x).n = i + 1 := by
    show row.n + 1 = i + 1
    rw [h.n]
  obtain ⟨G, hG, pG, sG, nG⟩ := h.half
  exact ⟨b, t, e, ⟨h1, g1, ⟨H, hb, pW⟩, sW, hn, ⟨G, hG.keeps k1, pG, sG, nG⟩, by omega⟩, ⟨h1, g1, ⟨H, hb, pW⟩, sW, hn, ⟨H, hb, pW, sW, by omega⟩, by omega⟩⟩
theorem pop_step {row : Sl Item} {i : Nat} {a : Ar} {r half : Int} {bef : Sl Item} (h : PopI row i a r half bef) (sR : Sorted row) (hn : row.n ≤ 8) (hi : i < row.n) : ∃ b t, popC a r = (b, t, 0, row.at_ i) ∧ popX a r = row.at_ i ∧ PopI row (i + 1) b t half bef := by
  obtain ⟨F, hF, pF⟩ := h.heap
  have hfr := h.free
  have hd : (toL row).drop i = row.at_ i :: (toL row).drop (i + 1) := by
    have hi' : i < (toL row).length := by rw [toL_len]; exact hi
    rw [List.drop_eq_getElem_cons hi']
    have := toL_get row hi
    rw [List.getElem?_eq_getElem hi'] at this
    rw [Option.some.inj this]
  have hsd : ((toL row).drop i).Pairwise leI := List.Pairwise.sublist (List.drop_sublist i _) (sorted_toL sR)
  have hlen := pF.length_eq
  rw [List.length_drop, toL_len, Fo.items_len] at hlen
  rcases hF.one with rfl | ⟨p, y, k, rfl, hk⟩
  · have : (0 : Nat) = row.n - i := hlen
    omega
  · have hit : (Fo.node p y k .nil).items = y :: k.items := by simp [Fo.items]
    rw [hit] at pF
    obtain ⟨L', e, pL, sL⟩ := sorted_head pF.symm hsd (heapy_all hk)
    rw [hd] at e
    obtain ⟨e1, e2⟩ := List.cons.inj e
    obtain ⟨b, t, A, e3, ex, c1, k2, hA, pA, nA, f1, f2, g1⟩ := pop_ok h.right h.rng hF (by omega) (by omega)
    obtain ⟨G, hG, pG, sG, nG⟩ := h.half
    rw [← e1] at e3 ex
    refine ⟨b, t, e3, ex, c1, g1, ⟨A, hA, ?_⟩, ⟨G, hG.keeps k2, pG, sG, nG⟩, by omega⟩
    rw [e2]
    exact pA.trans pL.symm
theorem sorts_end {k : Nat} (hk : 202 ≤ k) {row : Sl Item} {a : Ar} {r half : Int} {bef : Sl Item} (h : PopI row row.n a r half bef) : r = 0 ∧ itmsB k a half = true ∧ sameI (itmsL k a half) bef = true := by
  obtain ⟨F, hF, pF⟩ := h.heap
  rw [List.drop_eq_nil_of_le (by rw [toL_len]; exact Nat.le_refl _)] at pF
  obtain ⟨G, hG, pG, sG, nG⟩ := h.half
  have hr : r = 0 := by
    rcases hF.one with rfl | ⟨p, y, k, rfl, _⟩
    · exact hF.rep
    · exact absurd pF.length_eq (by simp [Fo.items])
  have hGs : G.size ≤ 200 := by rw [← Fo.items_len, pG.length_eq, toL_len]; omega
  obtain ⟨i1, i2, i3⟩ := itms_ok hk h.right hG hGs
  exact ⟨hr, i1, same_ok (sorted_eq (i2.trans pG) i3 (sorted_toL sG))⟩
theorem new_512 : RightP (newAr 512) ∧ RngA (newAr 512) := by
  refine ⟨⟨by show 1 ≤ 512; omega, by show 512 ≤ 512; omega, Nat.le_refl _, fun i hi => ?_, fun i j hij hj => ?_, fun q hq => nd0_well, fun q hq => ?_, fun q hq h0 => rfl⟩, fun q _ => nd0_rng⟩
  · have hi : i < 512 := hi
    show 0 ≤ ((512 : Nat) : Int) - 1 - i ∧ ((512 : Nat) : Int) - 1 - i < ((512 : Nat) : Int)
    omega
  · show ((512 : Nat) : Int) - 1 - i ≠ ((512 : Nat) : Int) - 1 - j
    omega
  · have hq : q < 512 := hq
    refine ⟨fun _ => ⟨511 - q, by show 511 - q < 512; omega, ?_⟩, fun _ => rfl⟩
    show ((512 : Nat) : Int) - 1 - ((511 - q : Nat) : Int) = q
    omega
theorem eqx_f (x : Item) (d : Bool) : (bif (bif (0 : Int) != 0 then d else false) then true else bif (0 : Int) == 0 then !eqI [x.k, x.v] [x.k, x.v] else false) = false := by
  show (!(x.k == x.k && (x.v == x.v && true))) = false
  simp
theorem put_start : PutI 0 (newAr 512) 0 ⟨0, fun _ => it0⟩ 0 ⟨0, fun _ => it0⟩ := by
  have h0 : ∃ F, HeapAt (newAr 512) 0 F ∧ F.items.Perm (toL (⟨0, fun _ => it0⟩ : Sl Item)) := ⟨.nil, HeapAt.nil _, List.Perm.refl _⟩
  have hs : Sorted ⟨0, fun _ => it0⟩ := fun i j _ hj => absurd hj (Nat.not_lt_zero j)
  obtain ⟨F, h1, h2⟩ := h0
  exact ⟨new_512.1, new_512.2, ⟨F, h1, h2⟩, hs, rfl, ⟨F, h1, h2, hs, Nat.zero_le _⟩, Nat.le_refl _⟩
noncomputable def tr5 (k : Nat) : Tab := tabC2 23 arA rI (fun a r => .tup [.one (.imm (slI itE (itmsL k a r))), ibool (itmsB k a r)]) (fun _ _ => True) th22
theorem tr5_ok {k : Nat} (hk : 202 ≤ k) : TabOk Try.prog (tr5 k) := tabC2_ok rfl (fun a r _ => ref12Items k hk a r) th22_ok

end Go.Proofs.Ytadgjhbhghhbgaa.Abs
