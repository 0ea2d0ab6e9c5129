/-
  PLAIN LAW: what Reach makes of a forest; the items that are met, in order.
-/
import Derived.Test.YtadgjhbhghhbgaaHq3
namespace Go.Proofs.Ytadgjhbhghhbgaa.Abs
open Go

/-- A slice's elements. -/
def toL {α : Type} (s : Sl α) : List α := (List.range s.n).map s.at_
theorem toL_len {α : Type} (s : Sl α) : (toL s).length = s.n := by simp [toL]
theorem toL_get {α : Type} (s : Sl α) {i : Nat} (hi : i < s.n) : (toL s)[i]? = some (s.at_ i) := by simp [toL, hi]
theorem toL_snoc (l : Sl Int) (x : Int) : toL (snoc l x) = toL l ++ [x] := by
  unfold toL
  show (List.range (l.n + 1)).map (fun i => bif Nat.blt i l.n then l.at_ i else x) = _
  rw [List.range_succ, List.map_append]
  congr 1
  · refine List.map_congr_left fun i hi => ?_
    rw [blt_t (List.mem_range.1 hi)]
    rfl
  · simp [blt_f (Nat.le_refl l.n)]
def addV (st : VS) (p : Nat) : VS := (setB st.1 p, snoc st.2 p)
theorem addV_fst (ps : List Nat) : ∀ st : VS, (ps.foldl addV st).1 = ps.foldl setB st.1 := by
  induction ps with
  | nil => exact fun _ => rfl
  | cons p ps ih => exact fun st => ih _
theorem addV_snd (ps : List Nat) : ∀ st : VS, toL (ps.foldl addV st).2 = toL st.2 ++ ps.map fun p : Nat => (p : Int) := by
  induction ps with
  | nil => exact fun st => by simp
  | cons p ps ih =>
    intro st
    rw [List.foldl_cons, ih, List.map_cons]
    show toL (snoc st.2 p) ++ _ = _
    rw [toL_snoc, List.append_assoc]
    rfl

section
variable {a : Ar}
theorem vis_zero (s : Nat → Bool) : visBad a 0 s = true := by
  unfold visBad
  rw [getE_zero]
  rfl
theorem reF_zero (k : Nat) (st : VS) : reF a k 0 st = st := reF_no (vis_zero _) k
theorem reach_rep : ∀ (F : Fo) (k : Nat) (r : Int) (st : VS), Rep a r F → (∀ p ∈ F.places, st.1 p = false) → F.places.Nodup → cntB st.1 a.nodes.n < k → reF a k r st = F.places.foldl addV st
  | .nil, k, r, st, hr, _, _, _ => by
    have hr : r = 0 := hr
    subst hr
    exact reF_zero k st
  | .node p x kd nx, k, r, st, hr, hs, hn, hk => by
    obtain ⟨hat, hnd, hrk, hrn⟩ := hr
    obtain ⟨k, rfl⟩ : ∃ q, k = q + 1 := ⟨k - 1, by omega⟩
    have hpl : (Fo.node p x kd nx).places = p :: (kd.places ++ nx.places) := rfl
    rw [hpl] at hs hn ⊢
    obtain ⟨hp1, hp2⟩ := List.nodup_cons.1 hn
    obtain ⟨hnk, hnn, hdis⟩ := List.nodup_append.1 hp2
    have hps : st.1 p = false := hs p (by simp)
    have hcnt := cntB_set (n := a.nodes.n) hat.lt hps
    obtain ⟨g1, g2⟩ := hat.get
    have hplr : (plOf r).toNat = p := by
      rw [hat.pl]
      rfl
    have hv : visBad a r st.1 = false := by
      unfold visBad
      rw [g1, hplr, hps]
      rfl
    have hset : ∀ q, q ≠ p → st.1 q = false → setB st.1 p q = false := fun q h1 h2 => by
      show (bif Nat.beq q p then true else st.1 q) = false
      rw [beq_f h1]
      exact h2
    have hkid := reach_rep kd k (a.nodes.at_ p).k0 (addV st p) hrk (fun q hq => hset q (fun e => hp1 (by rw [← e]; simp [hq])) (hs q (by simp [hq]))) hnk (by
      show cntB (setB st.1 p) a.nodes.n < k
      omega)
    have hnext := reach_rep nx k (a.nodes.at_ p).k1 (kd.places.foldl addV (addV st p)) hrn (fun q hq => by
      rw [addV_fst]
      exact seen_not _ _ _ (hset q (fun e => hp1 (by rw [← e]; simp [hq])) (hs q (by simp [hq]))) fun hm => hdis q hm q hq rfl) hnn (by
      rw [addV_fst]
      have := cnt_foldl kd.places (addV st p).1 a.nodes.n
      have h2 : cntB (addV st p).1 a.nodes.n < k := by
        show cntB (setB st.1 p) a.nodes.n < k
        omega
      omega)
    have hz : kidA (getN a r) = [(a.nodes.at_ p).k0, (a.nodes.at_ p).k1, 0, 0, 0, 0, 0, 0, 0] := by
      rw [g2]
      unfold kidA
      rw [hnd]
      rfl
    have hst : ((setB st.1 (plOf r).toNat, snoc st.2 (plOf r)) : VS) = addV st p := by
      rw [hplr, hat.pl]
      rfl
    rw [reF, hv]
    simp only [cond_false]
    rw [hz, hst]
    simp only [List.foldl_cons, List.foldl_nil, reF_zero]
    rw [hkid, hnext, ← List.foldl_append]
/-- Visits from some references, one behind the other. -/
theorem roots_one {F : Fo} {r : Int} (hR : rightB a = true) (hr : Rep a r F) (hn : F.places.Nodup) : toL (reachL a (lst [r])) = F.places.map fun p : Nat => (p : Int) := by
  rw [reachL_eq]
  unfold reachR
  rw [hR]
  show toL (reF a (a.nodes.n + 1) r (fun _ => false, ⟨0, fun _ => 0⟩)).2 = _
  rw [reach_rep F _ r _ hr (fun _ _ => rfl) hn (cntB_lt _ _), addV_snd]
  rfl
theorem roots_two {F G : Fo} {r s : Int} (hR : rightB a = true) (hr : Rep a r F) (hs : Rep a s G) (hn : (F.places ++ G.places).Nodup) : toL (reachL a (lst [r, s])) = (F.places ++ G.places).map fun p : Nat => (p : Int) := by
  obtain ⟨hnk, hnn, hdis⟩ := List.nodup_append.1 hn
  rw [reachL_eq]
  unfold reachR
  rw [hR]
  show toL (reF a (a.nodes.n + 1) s (reF a (a.nodes.n + 1) r (fun _ => false, ⟨0, fun _ => 0⟩))).2 = _
  rw [reach_rep F _ r _ hr (fun _ _ => rfl) hnk (cntB_lt _ _), reach_rep G _ s _ hs (fun q hq => by
    rw [addV_fst]
    exact seen_not _ _ _ rfl fun hm => hdis q hm q hq rfl) hnn (by
    rw [addV_fst]
    exact cntB_lt _ _), addV_snd, addV_snd, List.map_append]
  rfl
/-- The items of the places that are met. -/
theorem rep_items : ∀ (F : Fo) (r : Int), Rep a r F → F.places.map (fun p => itmOf (a.nodes.at_ p)) = F.items
  | .nil, _, _ => rfl
  | .node p x kd nx, r, hr => by
    obtain ⟨hat, hnd, hrk, hrn⟩ := hr
    show itmOf (a.nodes.at_ p) :: (kd.places ++ nx.places).map _ = x :: (kd.items ++ nx.items)
    rw [List.map_append, rep_items kd _ hrk, rep_items nx _ hrn, hnd]
    rfl
theorem rowI_toL (l : Sl Int) : toL (rowI a l) = (toL l).map fun p => itmOf (a.nodes.at_ p.toNat) := by
  unfold toL rowI
  rw [List.map_map]
  rfl
theorem row_items {F : Fo} {r : Int} (hR : rightB a = true) (hr : Rep a r F) (hn : F.places.Nodup) : toL (rowI a (reachL a (lst [r]))) = F.items := by
  rw [rowI_toL, roots_one hR hr hn, List.map_map, ← rep_items F r hr]
  rfl
end

/-- Sorted by heap's order. -/
def leI (x y : Item) : Prop := lessI y x = false
theorem sort_perm (s : Sl Item) : (toL (sortS s)).Perm (toL s) := by
  have h := (sortA_facts s).1.2.2
  have h2 : ∀ d : Array Item, d.size = s.n → (d.extract 0 s.n).toList = d.toList := fun d hd => by
    rw [← hd]
    simp
  rw [h2 _ (sortA_size s), h2 _ (arrI_size s)] at h
  have e1 : toL (sortS s) = (sortA s).toList := by
    apply List.ext_getElem?
    intro i
    rcases Nat.lt_or_ge i s.n with hi | hi
    · rw [toL_get (sortS s) hi]
      show some ((sortA s)[i]!) = _
      have hi2 : i < (sortA s).size := by rw [sortA_size]; exact hi
      rw [Array.getElem?_toList, Array.getElem?_eq_getElem hi2, getElem!_pos (sortA s) i hi2]
    · rw [List.getElem?_eq_none (by rw [toL_len]; exact hi), List.getElem?_eq_none (by rw [Array.length_toList, sortA_size]; exact hi)]
  have e2 : toL s = (arrI s).toList := by
    unfold toL arrI
    simp [Array.toList_range]
  rw [e1, e2]
  exact h
theorem sort_pairwise (s : Sl Item) : (toL (sortS s)).Pairwise leI := by
  rw [List.pairwise_iff_getElem]
  intro i j hi hj hij
  rw [toL_len] at hi hj
  have h := (sortA_facts s).2 i j (Nat.zero_le i) hij hj
  have g1 : (toL (sortS s))[i]'(by rw [toL_len]; exact hi) = (sortA s)[i]! := Option.some.inj ((List.getElem?_eq_getElem _).symm.trans (toL_get (sortS s) hi))
  have g2 : (toL (sortS s))[j]'(by rw [toL_len]; exact hj) = (sortA s)[j]! := Option.some.inj ((List.getElem?_eq_getElem _).symm.trans (toL_get (sortS s) hj))
  rw [g1, g2]
  exact h
theorem leI_anti {x y : Item} (h1 : leI x y) (h2 : leI y x) : x = y := by
  cases x
  cases y
  simp [leI, lessI] at h1 h2
  simp
  omega
theorem leI_trans {x y z : Item} (h1 : leI x y) (h2 : leI y z) : leI x z := by
  simp [leI, lessI] at h1 h2 ⊢
  omega
theorem leI_refl (x : Item) : leI x x := by simp [leI, lessI]
/-- Two rows with the same items, in order, are one. -/
theorem sorted_eq : ∀ {l m : List Item}, l.Perm m → l.Pairwise leI → m.Pairwise leI → l = m
  | [], m, hp, _, _ => (List.nil_perm.1 hp).symm
  | x :: l, [], hp, _, _ => by simp at hp
  | x :: l, y :: m, hp, hl, hm => by
    obtain ⟨hx, hl2⟩ := List.pairwise_cons.1 hl
    obtain ⟨hy, hm2⟩ := List.pairwise_cons.1 hm
    have e : x = y := by
      have h1 : x ∈ y :: m := hp.mem_iff.1 (by simp)
      have h2 : y ∈ x :: l := hp.mem_iff.2 (by simp)
      rcases List.mem_cons.1 h1 with h1 | h1
      · exact h1
      · rcases List.mem_cons.1 h2 with h2 | h2
        · exact h2.symm
        · exact leI_anti (hx y h2) (hy x h1)
    subst e
    rw [sorted_eq ((List.perm_cons x).1 hp) hl2 hm2]
end Go.Proofs.Ytadgjhbhghhbgaa.Abs
