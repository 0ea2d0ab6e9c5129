/-
  PLAIN LAW: Meld and Items of heaps.
-/
import Derived.Test.YtadgjhbhghhbgaaHq5
namespace Go.Proofs.Ytadgjhbhghhbgaa.Abs
open Go

theorem less_asymm {x y : Item} (h : lessI x y = true) : lessI y x = false := by
  simp [lessI] at h ⊢
  omega
theorem Melded.perm {a b : Ar} {t : Int} {l m : List Item} (h : Melded a b t l) (hp : l.Perm m) : Melded a b t m := by
  obtain ⟨H, h1, h2⟩ := h.heap
  exact ⟨h.right, h.keeps, ⟨H, h1, h2.trans hp⟩, h.n, h.free⟩
theorem Melded.same {a : Ar} {t : Int} {F : Fo} (h : RightP a) (ht : HeapAt a t F) : Melded a a t F.items := ⟨h, Keeps.refl a, ⟨F, ht, List.Perm.refl _⟩, rfl, by omega⟩

theorem hpMeld_ok {a : Ar} (h : RightP a) (hf : 2 ≤ a.free.n) {r s : Int} {F G : Fo} (hr : HeapAt a r F) (hs : HeapAt a s G) (hn : (F.places ++ G.places).Nodup) (hsz : F.size + G.size ≤ 1000) :
    ∃ b t, hpMeld ⟨a, 0⟩ r s = (⟨b, 0⟩, t) ∧ Melded a b t (F.items ++ G.items) := by
  rw [hpMeld_eq]
  unfold hpMeldR
  rcases hr.one with rfl | ⟨p, x, k, rfl, hk⟩
  · have h0 : r = 0 := hr.rep
    subst h0
    refine ⟨a, s, ?_, Melded.same h hs⟩
    show ((⟨a, 0⟩, orR 0 s) : Pile × Int) = _
    rw [(orR_zero hs.rng).1]
  · rcases hs.one with rfl | ⟨q, y, m, rfl, hm⟩
    · have h0 : s = 0 := hs.rep
      subst h0
      have hr0 : (r == 0) = false := by simpa using hr.rep.1.ok.2
      refine ⟨a, r, ?_, by rw [show Fo.nil.items = [] from rfl, List.append_nil]; exact Melded.same h hr⟩
      rw [hr0]
      show ((⟨a, 0⟩, orR r 0) : Pile × Int) = _
      rw [(orR_zero hr.rng).2]
    · have hr0 : (r == 0) = false := by simpa using hr.rep.1.ok.2
      have hs0 : (s == 0) = false := by simpa using hs.rep.1.ok.2
      have hx : itmOf (getN a r) = x := by
        rw [hr.rep.1.get.2, hr.rep.2.1]
        rfl
      have hy : itmOf (getN a s) = y := by
        rw [hs.rep.1.get.2, hs.rep.2.1]
        rfl
      have hsz2 : k.size + 1 + 0 + (m.size + 1 + 0) ≤ 1000 := hsz
      have hpn : (k.places ++ m.places).Nodup := by
        have : ((p :: (k.places ++ [])) ++ (q :: (m.places ++ []))).Nodup := hn
        rw [List.append_nil, List.append_nil, List.cons_append, List.nodup_cons] at this
        have h2 := this.2
        obtain ⟨n1, n2, n3⟩ := List.nodup_append.1 h2
        exact List.nodup_append.2 ⟨n1, (List.nodup_cons.1 n2).2, fun u hu v hv => n3 u hu v (by simp [hv])⟩
      have hi1 : (Fo.node p x k .nil).items = x :: k.items := by simp [Fo.items]
      have hi2 : (Fo.node q y m .nil).items = y :: m.items := by simp [Fo.items]
      rw [hr0, hs0, hx, hy, ord_less, hi1, hi2]
      cases hl : lessI y x with
      | false =>
        obtain ⟨b, t, e, hM⟩ := two_ok' h hf hr.rep hs.rep hk hm hpn hl (by omega)
        refine ⟨b, t, e, hM.perm ?_⟩
        rw [List.cons_append]
        exact List.Perm.cons x (((List.perm_append_comm).cons y).trans (List.perm_middle).symm)
      | true =>
        obtain ⟨b, t, e, hM⟩ := two_ok' h hf hs.rep hr.rep hm hk (by
          obtain ⟨n1, n2, n3⟩ := List.nodup_append.1 hpn
          exact List.nodup_append.2 ⟨n2, n1, fun u hu v hv e => n3 v hv u hu e.symm⟩) (less_asymm hl) (by omega)
        refine ⟨b, t, e, hM.perm ?_⟩
        rw [List.cons_append]
        exact (List.Perm.swap x y _).trans (List.Perm.cons x (List.perm_middle).symm)

theorem items_ok {a : Ar} (h : RightP a) {r : Int} {F : Fo} (hr : HeapAt a r F) (hs : F.size ≤ 200) : itemsE a r = 0 ∧ (toL (itemsL a r)).Perm F.items ∧ (toL (itemsL a r)).Pairwise leI ∧ (itemsL a r).n = F.size := by
  have hR := rightB_iff.2 h
  have h1 : (bif (reachE a != 0) then true else !hpOk a r) = false := by
    unfold reachE hpOk
    rw [hR, hpNo_ok hr hs]
    rfl
  have hl : itemsL a r = sortS (rowI a (reachL a (lst [r]))) := by
    unfold itemsL
    rw [h1]
    rfl
  have hp : (toL (itemsL a r)).Perm F.items := by
    rw [hl]
    refine (sort_perm _).trans ?_
    rw [row_items hR hr.rep hr.nd]
  refine ⟨?_, hp, hl ▸ sort_pairwise _, ?_⟩
  · unfold itemsE
    rw [h1]
    rfl
  · rw [← toL_len, hp.length_eq, F.items_len]

theorem meldA_ok {a : Ar} (h : RightP a) (hf : 2 ≤ a.free.n) {r s : Int} {F G : Fo} (hr : HeapAt a r F) (hs : HeapAt a s G) (hn : (F.places ++ G.places).Nodup) (hsz : F.size + G.size ≤ 200) :
    ∃ b t, meldA a r s = (b, t, 0) ∧ Melded a b t (F.items ++ G.items) := by
  obtain ⟨b, t, e, hM⟩ := hpMeld_ok h hf hr hs hn (by omega)
  refine ⟨b, t, ?_, hM⟩
  have hR := rightB_iff.2 h
  have e1 : hpRight a (lst [r, s]) = true := by
    unfold hpRight
    rw [hR]
    have : anyB (fun i => hpNo a ((lst [r, s]).at_ i)) (lst [r, s]).n = false := anyB_false.2 fun i hi => by
      have hi : i < 2 := hi
      match i, hi with
      | 0, _ => exact hpNo_ok hr (by omega)
      | 1, _ => exact hpNo_ok hs (by omega)
    rw [this]
    rfl
  have l1 : (reachL a (lst [r])).n = F.size := by
    rw [← toL_len, roots_one hR hr.rep hr.nd, List.length_map, F.places_len]
  have l2 : (reachL a (lst [s])).n = G.size := by
    rw [← toL_len, roots_one hR hs.rep hs.nd, List.length_map, G.places_len]
  have l3 : (reachL a (lst [r, s])).n = F.size + G.size := by
    rw [← toL_len, roots_two hR hr.rep hs.rep hn, List.length_map, List.length_append, F.places_len, G.places_len]
  have e2 : meldNo (reachL a (lst [r])) (reachL a (lst [s])) (reachL a (lst [r, s])) = false := by
    unfold meldNo
    rw [l1, l2, l3, i64_small (by omega) (by omega), decide_eq_false (by omega : ¬ ((F.size + G.size : Nat) : Int) > 200)]
    have : (((F.size + G.size : Nat) : Int) != (F.size : Int) + G.size) = false := by simp
    rw [this]
    rfl
  unfold meldA callMel meldF
  rw [e1, e2, e]
  rfl
end Go.Proofs.Ytadgjhbhghhbgaa.Abs
