/-
  PLAIN LAW: heaps put together, with the places; a row put together by two, then from its end on; the least item taken off.
-/
import Derived.Test.YtadgjhbhghhbgaaHp16
namespace Go.Proofs.Ytadgjhbhghhbgaa.Abs
open Go

/-- What it is to put heaps together, with the places. -/
structure Meld2 (a b : Ar) (t : Int) (H : Fo) (ps : List Nat) (l : List Item) : Prop where
  right : RightP b
  keeps : Keeps a b
  heap : HeapAt b t H
  items : H.items.Perm l
  places : ∀ z ∈ H.places, z ∈ ps ∨ (a.nodes.at_ z).kind = 0
  n : b.nodes.n = a.nodes.n
  free : a.free.n ≤ b.free.n + 2 ∧ b.free.n ≤ a.free.n
  rng : RngA a → RngA b

theorem perm_two {x y : Item} {k m : List Item} : (x :: y :: (m ++ k)).Perm (x :: (k ++ y :: m)) := List.Perm.cons x (((List.perm_append_comm).cons y).trans (List.perm_middle).symm)
theorem perm_two' {x y : Item} {k m : List Item} : (y :: x :: (k ++ m)).Perm (x :: (k ++ y :: m)) := (List.Perm.swap x y _).trans (List.Perm.cons x (List.perm_middle).symm)
theorem meld_top {a : Ar} (h : RightP a) (hf : 2 ≤ a.free.n) {r s : Int} {p q : Nat} {x y : Item} {k m n1 n2 : Fo} (hr : Rep a r (.node p x k n1)) (hs : Rep a s (.node q y m n2)) (hk : Heapy x k) (hm : Heapy y m) (hn : (k.places ++ m.places).Nodup) (hsz : k.size + m.size ≤ 100000) :
    ∃ b t H, hpMeld ⟨a, 0⟩ r s = (⟨b, 0⟩, t) ∧ Meld2 a b t H (k.places ++ m.places) (x :: (k.items ++ y :: m.items)) ∧ b.free.n + 2 = a.free.n := by
  rw [hpMeld_eq]
  unfold hpMeldR
  have hr0 : (r == 0) = false := by simpa using hr.1.ok.2
  have hs0 : (s == 0) = false := by simpa using hs.1.ok.2
  have hx : itmOf (getN a r) = x := by
    rw [hr.1.get.2, hr.2.1]
    rfl
  have hy : itmOf (getN a s) = y := by
    rw [hs.1.get.2, hs.2.1]
    rfl
  rw [hr0, hs0, hx, hy, ord_less]
  cases hl : lessI y x with
  | false =>
    obtain ⟨b, t, z1, z2, e, h1, h2, h3, h4, h5, h6, h7, h8⟩ := two_top h hf hr hs hk hm hn hl hsz
    refine ⟨b, t, _, e, ⟨h1, h2, h3, ?_, fun z hz => ?_, h4, by omega, h8⟩, h5⟩
    · show (x :: ((y :: (m.items ++ k.items)) ++ [])).Perm _
      rw [List.append_nil]
      exact perm_two
    · simp only [Fo.places, List.mem_cons, List.mem_append, List.append_nil] at hz ⊢
      rcases hz with rfl | rfl | hz | hz
      · exact .inr h7
      · exact .inr h6
      · exact .inl (.inr hz)
      · exact .inl (.inl hz)
  | true =>
    obtain ⟨b, t, z1, z2, e, h1, h2, h3, h4, h5, h6, h7, h8⟩ := two_top h hf hs hr hm hk (by
      obtain ⟨n1, n2, n3⟩ := List.nodup_append.1 hn
      exact List.nodup_append.2 ⟨n2, n1, fun u hu v hv e => n3 v hv u hu e.symm⟩) (less_asymm hl) (by omega)
    refine ⟨b, t, _, e, ⟨h1, h2, h3, ?_, fun z hz => ?_, h4, by omega, h8⟩, h5⟩
    · show (y :: ((x :: (k.items ++ m.items)) ++ [])).Perm _
      rw [List.append_nil]
      exact perm_two'
    · simp only [Fo.places, List.mem_cons, List.mem_append, List.append_nil] at hz ⊢
      rcases hz with rfl | rfl | hz | hz
      · exact .inr h7
      · exact .inr h6
      · exact .inl (.inl hz)
      · exact .inl (.inr hz)
theorem Meld2.same {a : Ar} {t : Int} {F : Fo} {ps : List Nat} {l : List Item} (h : RightP a) (ht : HeapAt a t F) (hp : ∀ z ∈ F.places, z ∈ ps) (hl : F.items.Perm l) : Meld2 a a t F ps l := ⟨h, Keeps.refl a, ht, hl, fun z hz => .inl (hp z hz), rfl, by omega, id⟩
theorem meld_heap {a : Ar} (h : RightP a) {r s : Int} {F G : Fo} (hf : F ≠ .nil → G ≠ .nil → 2 ≤ a.free.n) (hr : HeapAt a r F) (hs : HeapAt a s G) (hn : (F.places ++ G.places).Nodup) (hsz : F.size + G.size ≤ 1000) :
    ∃ b t H, hpMeld ⟨a, 0⟩ r s = (⟨b, 0⟩, t) ∧ Meld2 a b t H (F.places ++ G.places) (F.items ++ G.items) ∧ (F = .nil ∨ G = .nil → b.free.n = a.free.n) := by
  rcases hr.one with rfl | ⟨p, x, k, rfl, hk⟩
  · have h0 : r = 0 := hr.rep
    subst h0
    refine ⟨a, s, G, ?_, Meld2.same h hs (fun z hz => by simpa [Fo.places] using hz) (List.Perm.refl _), fun _ => rfl⟩
    rw [hpMeld_eq]
    show ((⟨a, 0⟩, orR 0 s) : Pile × Int) = _
    rw [(orR_zero hs.rng).1]
  · rcases hs.one with rfl | ⟨q, y, m, rfl, hm⟩
    · have h0 : s = 0 := hs.rep
      subst h0
      have hr0 : (r == 0) = false := by simpa using hr.rep.1.ok.2
      refine ⟨a, r, _, ?_, Meld2.same h hr (fun z hz => by simp [hz]) (by rw [show Fo.nil.items = [] from rfl, List.append_nil]), fun _ => rfl⟩
      rw [hpMeld_eq]
      unfold hpMeldR
      rw [hr0]
      show ((⟨a, 0⟩, orR r 0) : Pile × Int) = _
      rw [(orR_zero hr.rng).2]
    · have hsz2 : k.size + 1 + 0 + (m.size + 1 + 0) ≤ 1000 := hsz
      have hpn : (k.places ++ m.places).Nodup := by
        have : ((p :: (k.places ++ [])) ++ (q :: (m.places ++ []))).Nodup := hn
        rw [List.append_nil, List.append_nil, List.cons_append, List.nodup_cons] at this
        have h2 := this.2
        obtain ⟨n1, n2, n3⟩ := List.nodup_append.1 h2
        exact List.nodup_append.2 ⟨n1, (List.nodup_cons.1 n2).2, fun u hu v hv => n3 u hu v (by simp [hv])⟩
      obtain ⟨b, t, H, e, hM, _⟩ := meld_top h (hf (by simp) (by simp)) hr.rep hs.rep hk hm hpn (by omega)
      refine ⟨b, t, H, e, ⟨hM.right, hM.keeps, hM.heap, ?_, fun z hz => ?_, hM.n, hM.free, hM.rng⟩, fun h => by simp at h⟩
      · have hi1 : (Fo.node p x k .nil).items = x :: k.items := by simp [Fo.items]
        have hi2 : (Fo.node q y m .nil).items = y :: m.items := by simp [Fo.items]
        rw [hi1, hi2]
        exact hM.items
      · refine (hM.places z hz).imp (fun hz => ?_) id
        simp only [Fo.places, List.mem_cons, List.mem_append, List.append_nil] at hz ⊢
        rcases hz with hz | hz
        · exact .inl (.inr hz)
        · exact .inr (.inr hz)

/-! Nodes next to each other, some of the first left out. -/
def Fo.drop : Fo → Nat → Fo
  | F, 0 => F
  | .nil, _ + 1 => .nil
  | .node _ _ _ n, j + 1 => n.drop j
theorem Fo.drop_nil : ∀ j, Fo.nil.drop j = .nil
  | 0 => rfl
  | _ + 1 => rfl
theorem Fo.drop_node : ∀ (F : Fo) (j : Nat), j < F.chain → ∃ p x k, F.drop j = .node p x k (F.drop (j + 1))
  | .nil, j, h => absurd h (Nat.not_lt_zero j)
  | .node p x k n, 0, _ => ⟨p, x, k, by cases n <;> rfl⟩
  | .node p x k n, j + 1, h => by
    obtain ⟨p', x', k', e⟩ := n.drop_node j (by have : j + 1 < n.chain + 1 := h; omega)
    exact ⟨p', x', k', e⟩
theorem Fo.drop_end : ∀ (F : Fo) (j : Nat), F.chain ≤ j → F.drop j = .nil
  | .nil, j, _ => Fo.drop_nil j
  | .node _ _ _ n, 0, h => by simp [Fo.chain] at h
  | .node _ _ _ n, j + 1, h => n.drop_end j (by have : n.chain + 1 ≤ j + 1 := h; omega)
theorem Rep.drop {a : Ar} : ∀ (F : Fo) (r : Int), Rep a r F → ∀ j, j ≤ F.chain → Rep a (kidAt a r j) (F.drop j)
  | .nil, r, h, j, hj => by
    obtain rfl : j = 0 := by simpa [Fo.chain] using hj
    exact h
  | .node p x k n, r, h, 0, _ => h
  | .node p x k n, r, h, j + 1, hj => by
    obtain ⟨h1, h2, h3, h4⟩ := h
    have hn : (getN a r).k1 = (a.nodes.at_ p).k1 := by rw [h1.get.2]
    rw [kidAt_succ, hn]
    exact Rep.drop n _ h4 j (by have : j + 1 ≤ n.chain + 1 := hj; omega)
theorem Heapy.drop {least : Item} : ∀ (F : Fo) (j : Nat), Heapy least F → Heapy least (F.drop j)
  | F, 0, h => by cases F <;> exact h
  | .nil, _ + 1, _ => trivial
  | .node _ _ _ n, j + 1, h => Heapy.drop n j h.2.2
theorem kid_rng {a : Ar} (hg : RngA a) : ∀ (F : Fo) (r : Int), RngK r → Rep a r F → ∀ j, j ≤ F.chain → RngK (kidAt a r j)
  | F, r, hr, _, 0, _ => hr
  | .nil, r, _, _, j + 1, hj => by simp [Fo.chain] at hj
  | .node p x k n, r, _, h, j + 1, hj => by
    obtain ⟨h1, h2, h3, h4⟩ := h
    have hn : (getN a r).k1 = (a.nodes.at_ p).k1 := by rw [h1.get.2]
    rw [kidAt_succ, hn]
    exact kid_rng hg n _ (hg p h1.lt).2 h4 j (by have : j + 1 ≤ n.chain + 1 := hj; omega)

/-! By two from the first one on. -/
structure PairI (a : Ar) (r0 : Int) (F : Fo) (i : Nat) (b : Ar) (Gs : List Fo) : Prop where
  pile : pairQ ⟨F.chain, kidAt a r0⟩ ⟨a, 0⟩ i = ⟨b, 0⟩
  right : RightP b
  keeps : Keeps a b
  len : Gs.length = i
  heaps : ∀ j G, Gs[j]? = some G → HeapAt b (pairV ⟨F.chain, kidAt a r0⟩ ⟨a, 0⟩ j) G
  nd : (Gs.flatMap Fo.places ++ (F.drop (2 * i)).places).Nodup
  items : (Gs.flatMap Fo.items ++ (F.drop (2 * i)).items).Perm F.items
  n : b.nodes.n = a.nodes.n
  free : a.free.n ≤ b.free.n + 2 * i ∧ b.free.n ≤ a.free.n
  rng : RngA b
theorem flat_kind {b : Ar} {v : Nat → Int} {Gs : List Fo} (h : ∀ j G, Gs[j]? = some G → HeapAt b (v j) G) : ∀ z ∈ Gs.flatMap Fo.places, (b.nodes.at_ z).kind ≠ 0 := fun z hz => by
  obtain ⟨G, hG, hz⟩ := List.mem_flatMap.1 hz
  obtain ⟨j, hj, rfl⟩ := List.mem_iff_getElem.1 hG
  exact ((h j _ (List.getElem?_eq_getElem hj)).rep.kind _ _ z hz).2
theorem snoc_heaps {b b' : Ar} {v : Nat → Int} {Gs : List Fo} {G : Fo} (h : ∀ j G, Gs[j]? = some G → HeapAt b (v j) G) (hk : Keeps b b') (hG : HeapAt b' (v Gs.length) G) : ∀ j G', (Gs ++ [G])[j]? = some G' → HeapAt b' (v j) G' := fun j G' hj => by
  rw [List.getElem?_append] at hj
  split at hj
  · exact (h j G' hj).keeps hk
  · rename_i hlt
    have : j - Gs.length = 0 := by
      have := (List.getElem?_eq_some_iff.1 hj).1
      simp at this
      omega
    rw [this] at hj
    simp at hj
    subst hj
    obtain rfl : j = Gs.length := by omega
    exact hG
theorem flat_snoc {α : Type} (f : Fo → List α) (Gs : List Fo) (G : Fo) : (Gs ++ [G]).flatMap f = Gs.flatMap f ++ f G := by simp
theorem pair_step {a : Ar} {r0 : Int} {F : Fo} {x : Item} {i : Nat} {b : Ar} {Gs : List Fo} (hI : PairI a r0 F i b Gs) (hF : Rep a r0 F) (hr0 : RngK r0) (hga : RngA a) (hx : Heapy x F) (hs : F.size ≤ 1000) (hi : 2 * i < F.chain) (hf : 2 * i + 1 < F.chain → 2 ≤ b.free.n) :
    ∃ b' Gs', PairI a r0 F (i + 1) b' Gs' := by
  obtain ⟨p, y, k, e1⟩ := F.drop_node (2 * i) hi
  have hR1 := (hF.drop F r0 (2 * i) (by omega)).keeps hI.keeps
  have hy1 := Heapy.drop F (2 * i) hx
  have hnd := hI.nd
  have hit := hI.items
  rw [e1] at hR1 hy1 hnd hit
  by_cases h2 : 2 * i + 1 < F.chain
  · obtain ⟨q, z, m, e2⟩ := F.drop_node (2 * i + 1) h2
    have hR2 := (hF.drop F r0 (2 * i + 1) (by omega)).keeps hI.keeps
    have hy2 := Heapy.drop F (2 * i + 1) hx
    rw [e2] at hR2 hy2 hnd hit
    obtain ⟨R, hRe⟩ : ∃ R, F.drop (2 * i + 1 + 1) = R := ⟨_, rfl⟩
    rw [hRe] at hnd hit e2 hR2 hy2
    have hRep := (hF.drop F r0 (2 * i + 1 + 1) (by omega)).keeps hI.keeps
    rw [hRe] at hRep
    simp only [Fo.places] at hnd
    simp only [Fo.items] at hit
    obtain ⟨d1, d2, d3⟩ := List.nodup_append.1 hnd
    obtain ⟨d4, d5⟩ := List.nodup_cons.1 d2
    obtain ⟨d6, d7, d8⟩ := List.nodup_append.1 d5
    obtain ⟨d9, d10⟩ := List.nodup_cons.1 d7
    obtain ⟨d11, d12, d13⟩ := List.nodup_append.1 d10
    have hkm : (k.places ++ m.places).Nodup := List.nodup_append.2 ⟨d6, d11, fun u hu v hv => d8 u hu v (by simp [hv])⟩
    have hsz : k.size + m.size ≤ 100000 := by
      have := hit.length_eq
      simp only [List.length_append, List.length_cons, Fo.items_len] at this
      omega
    obtain ⟨b', t, H, eM, hM, _⟩ := meld_top hI.right (hf h2) hR1 hR2 hy1.2.1 hy2.2.1 hkm hsz
    have hc : stepP ⟨b, 0⟩ (chunkS ⟨F.chain, kidAt a r0⟩ i) = (⟨b', 0⟩, t) := by
      unfold stepP chunkS
      have hmin : min 2 (F.chain - 2 * i) = 2 := by omega
      show (bif (((min 2 (F.chain - 2 * i) : Nat) : Int) == 2) then hpMeld ⟨b, 0⟩ (kidAt a r0 (2 * i + 0)) (kidAt a r0 (2 * i + 1)) else _) = _
      rw [hmin]
      exact eM
    have hv : pairV ⟨F.chain, kidAt a r0⟩ ⟨a, 0⟩ i = t := by
      unfold pairV
      rw [hI.pile, hc]
    have hA := flat_kind hI.heaps
    have hRk := fun u hu => (hRep.kind R _ u hu).2
    have hnew : ∀ u ∈ H.places, u ∉ Gs.flatMap Fo.places ∧ u ∉ R.places := fun u hu => by
      rcases hM.places u hu with h | h
      · rcases List.mem_append.1 h with h | h
        · exact ⟨fun h' => d3 u h' u (by simp [h]) rfl, fun h' => d8 u h u (by simp [h']) rfl⟩
        · exact ⟨fun h' => d3 u h' u (by simp [h]) rfl, fun h' => d13 u h u h' rfl⟩
      · exact ⟨fun h' => hA u h' h, fun h' => hRk u h' h⟩
    refine ⟨b', Gs ++ [H], ⟨?_, hM.right, hI.keeps.trans hM.keeps, by rw [List.length_append, hI.len]; rfl, snoc_heaps hI.heaps hM.keeps (by rw [hI.len, hv]; exact hM.heap), ?_, ?_, hM.n.trans hI.n, ?_, hM.rng hI.rng⟩⟩
    · show (stepP (pairQ ⟨F.chain, kidAt a r0⟩ ⟨a, 0⟩ i) (chunkS ⟨F.chain, kidAt a r0⟩ i)).1 = _
      rw [hI.pile, hc]
    · rw [flat_snoc, show 2 * (i + 1) = 2 * i + 1 + 1 from by omega, hRe, List.append_assoc]
      refine List.nodup_append.2 ⟨d1, List.nodup_append.2 ⟨hM.heap.nd, d12, fun u hu v hv e => (hnew u hu).2 (by rw [e]; exact hv)⟩, fun u hu v hv e => ?_⟩
      subst e
      rcases List.mem_append.1 hv with hv | hv
      · exact (hnew u hv).1 hu
      · exact d3 u hu u (by simp [hv]) rfl
    · rw [flat_snoc, show 2 * (i + 1) = 2 * i + 1 + 1 from by omega, hRe, List.append_assoc]
      refine List.Perm.trans ?_ hit
      refine List.Perm.append_left _ ?_
      refine (List.Perm.append_right R.items hM.items).trans ?_
      simp [List.append_assoc]
    · have := hI.free
      have := hM.free
      omega
  · have h3 : F.drop (2 * i + 1) = .nil := F.drop_end _ (by omega)
    rw [h3] at e1 hR1 hy1 hnd hit
    have hc : stepP ⟨b, 0⟩ (chunkS ⟨F.chain, kidAt a r0⟩ i) = (⟨b, 0⟩, kidAt a r0 (2 * i)) := by
      unfold stepP chunkS
      have hmin : min 2 (F.chain - 2 * i) = 1 := by omega
      show (bif (((min 2 (F.chain - 2 * i) : Nat) : Int) == 2) then _ else ((⟨b, 0⟩ : Pile), kidAt a r0 (2 * i + 0))) = _
      rw [hmin]
      rfl
    have hv : pairV ⟨F.chain, kidAt a r0⟩ ⟨a, 0⟩ i = kidAt a r0 (2 * i) := by
      unfold pairV
      rw [hI.pile, hc]
    have hH : HeapAt b (kidAt a r0 (2 * i)) (.node p y k .nil) := ⟨hR1, .inr ⟨_, _, _, rfl, hy1.2.1⟩, (List.nodup_append.1 hnd).2.1, kid_rng hga F r0 hr0 hF _ (by omega)⟩
    refine ⟨b, Gs ++ [.node p y k .nil], ⟨?_, hI.right, hI.keeps, by rw [List.length_append, hI.len]; rfl, snoc_heaps hI.heaps (Keeps.refl b) (by rw [hI.len, hv]; exact hH), ?_, ?_, hI.n, ?_, hI.rng⟩⟩
    · show (stepP (pairQ ⟨F.chain, kidAt a r0⟩ ⟨a, 0⟩ i) (chunkS ⟨F.chain, kidAt a r0⟩ i)).1 = _
      rw [hI.pile, hc]
    · rw [flat_snoc, F.drop_end (2 * (i + 1)) (by omega), show Fo.nil.places = [] from rfl, List.append_nil]
      exact hnd
    · rw [flat_snoc, F.drop_end (2 * (i + 1)) (by omega), show Fo.nil.items = [] from rfl, List.append_nil]
      exact hit
    · have := hI.free
      omega
theorem pairs_ok {a : Ar} {r0 : Int} {F : Fo} {x : Item} (h : RightP a) (hF : Rep a r0 F) (hr0 : RngK r0) (hga : RngA a) (hx : Heapy x F) (hn : F.places.Nodup) (hs : F.size ≤ 1000) (hf : F.chain ≤ a.free.n) :
    ∀ i, 2 * i ≤ F.chain + 1 → ∃ b Gs, PairI a r0 F i b Gs
  | 0, _ => ⟨a, [], ⟨rfl, h, Keeps.refl a, rfl, fun j G hj => by simp at hj, by cases F <;> simpa [Fo.drop] using hn, by cases F <;> simp [Fo.drop], rfl, by omega, hga⟩⟩
  | i + 1, hi => by
    obtain ⟨b, Gs, hI⟩ := pairs_ok h hF hr0 hga hx hn hs hf i (by omega)
    exact pair_step hI hF hr0 hga hx hs (by omega) (fun _ => by have := hI.free; omega)

/-! From the last one on. -/
structure BackI (b0 : Ar) (s : Sl Int) (Gs : List Fo) (j : Nat) (c : Ar) (t : Int) (A : Fo) : Prop where
  pile : bkQ s ⟨b0, 0⟩ j = (⟨c, 0⟩, t)
  right : RightP c
  keeps : Keeps b0 c
  heap : HeapAt c t A
  nd : ((Gs.take (s.n - j)).flatMap Fo.places ++ A.places).Nodup
  items : ((Gs.take (s.n - j)).flatMap Fo.items ++ A.items).Perm (Gs.flatMap Fo.items)
  n : c.nodes.n = b0.nodes.n
  free : b0.free.n ≤ c.free.n + 2 * (j - 1) ∧ c.free.n ≤ b0.free.n
  rng : RngA c
  zero : j = 0 → A = .nil
theorem back_step {b0 : Ar} {s : Sl Int} {Gs : List Fo} {j : Nat} {c : Ar} {t : Int} {A : Fo} (hI : BackI b0 s Gs j c t A) (hl : Gs.length = s.n) (hh : ∀ i G, Gs[i]? = some G → HeapAt b0 (s.at_ i) G) (hsz : (Gs.flatMap Fo.items).length ≤ 1000) (hj : j < s.n) (hf : ∀ G, Gs[s.n - 1 - j]? = some G → G ≠ .nil → A ≠ .nil → 2 ≤ c.free.n) : ∃ c' t' A', BackI b0 s Gs (j + 1) c' t' A' := by
  have hi : s.n - 1 - j < Gs.length := by omega
  obtain ⟨G, hG⟩ : ∃ G, Gs[s.n - 1 - j]? = some G := ⟨_, List.getElem?_eq_getElem hi⟩
  have htk : Gs.take (s.n - j) = Gs.take (s.n - (j + 1)) ++ [G] := by
    rw [show s.n - j = (s.n - 1 - j) + 1 by omega, show s.n - (j + 1) = s.n - 1 - j by omega, List.take_add_one, hG]
    rfl
  have hnd := hI.nd
  have hit := hI.items
  rw [htk, flat_snoc, List.append_assoc] at hnd hit
  obtain ⟨d1, d2, d3⟩ := List.nodup_append.1 hnd
  have hGc := (hh _ G hG).keeps hI.keeps
  have hlen := hit.length_eq
  simp only [List.length_append, Fo.items_len] at hlen
  obtain ⟨c', t', H, e, hM, hz⟩ := meld_heap hI.right (hf G hG) hGc hI.heap d2 (by omega)
  have hlow : ∀ z ∈ (Gs.take (s.n - (j + 1))).flatMap Fo.places, (c.nodes.at_ z).kind ≠ 0 := fun z hz => by
    obtain ⟨G', hG', hz⟩ := List.mem_flatMap.1 hz
    have hG'' : G' ∈ Gs := List.mem_of_mem_take hG'
    obtain ⟨q, hq, rfl⟩ := List.mem_iff_getElem.1 hG''
    exact (((hh q _ (List.getElem?_eq_getElem hq)).keeps hI.keeps).rep.kind _ _ z hz).2
  refine ⟨c', t', H, ⟨?_, hM.right, hI.keeps.trans hM.keeps, hM.heap, ?_, ?_, hM.n.trans hI.n, ?_, hM.rng hI.rng, fun h => by omega⟩⟩
  · show hpMeld (bkQ s ⟨b0, 0⟩ j).1 (s.at_ (s.n - 1 - j)) (bkQ s ⟨b0, 0⟩ j).2 = _
    rw [hI.pile]
    exact e
  · refine List.nodup_append.2 ⟨d1, hM.heap.nd, fun u hu v hv e => ?_⟩
    subst e
    rcases hM.places u hv with h | h
    · exact d3 u hu u h rfl
    · exact hlow u hu h
  · exact (List.Perm.append_left _ hM.items).trans hit
  · have := hI.free
    have := hM.free
    rcases Nat.eq_zero_or_pos j with h | h
    · have := hz (.inr (hI.zero h))
      subst h
      omega
    · omega
theorem back_ok {b0 : Ar} {s : Sl Int} {Gs : List Fo} (h : RightP b0) (hg : RngA b0) (hl : Gs.length = s.n) (hh : ∀ i G, Gs[i]? = some G → HeapAt b0 (s.at_ i) G) (hn : (Gs.flatMap Fo.places).Nodup) (hsz : (Gs.flatMap Fo.items).length ≤ 1000) (hf : 2 * (s.n - 1) ≤ b0.free.n) :
    ∀ j, j ≤ s.n → ∃ c t A, BackI b0 s Gs j c t A
  | 0, _ => ⟨b0, 0, .nil, ⟨rfl, h, Keeps.refl b0, HeapAt.nil b0, by rw [Nat.sub_zero, ← hl, List.take_length]; simpa [Fo.places] using hn, by rw [Nat.sub_zero, ← hl, List.take_length]; simp [Fo.items], rfl, by omega, hg, fun _ => rfl⟩⟩
  | j + 1, hj => by
    obtain ⟨c, t, A, hI⟩ := back_ok h hg hl hh hn hsz hf j (by omega)
    exact back_step hI hl hh hsz (by omega) (fun _ _ _ hA => by
      rcases Nat.eq_zero_or_pos j with h | h
      · exact absurd (hI.zero h) hA
      · have := hI.free
        omega)

/-- A row of children is put together. -/
theorem foldF_ok {a : Ar} {r0 : Int} {F : Fo} {x : Item} (h : RightP a) (hF : Rep a r0 F) (hr0 : RngK r0) (hga : RngA a) (hx : Heapy x F) (hn : F.places.Nodup) (hs : F.size ≤ 1000) (hf : 2 * F.chain ≤ a.free.n) :
    ∃ b t A, foldF ⟨a, 0⟩ ⟨F.chain, kidAt a r0⟩ = (⟨b, 0⟩, t) ∧ RightP b ∧ Keeps a b ∧ HeapAt b t A ∧ A.items.Perm F.items ∧ b.nodes.n = a.nodes.n ∧ a.free.n ≤ b.free.n + (2 * F.chain + 2) ∧ b.free.n ≤ a.free.n ∧ RngA b := by
  obtain ⟨b, Gs, hI⟩ := pairs_ok h hF hr0 hga hx hn hs (by omega) ((F.chain + 1) / 2) (by omega)
  have hdr : F.drop (2 * ((F.chain + 1) / 2)) = .nil := F.drop_end _ (by omega)
  have hnd := hI.nd
  have hit := hI.items
  rw [hdr, show Fo.nil.places = [] from rfl, List.append_nil] at hnd
  rw [hdr, show Fo.nil.items = [] from rfl, List.append_nil] at hit
  have hfr := hI.free
  obtain ⟨c, t, A, hB⟩ := back_ok (s := pairS ⟨F.chain, kidAt a r0⟩ ⟨a, 0⟩) hI.right hI.rng hI.len hI.heaps hnd (by rw [hit.length_eq, F.items_len]; omega) (by
    show 2 * ((F.chain + 1) / 2 - 1) ≤ b.free.n
    omega) ((F.chain + 1) / 2) (Nat.le_refl _)
  have hit2 := hB.items
  rw [show (pairS ⟨F.chain, kidAt a r0⟩ ⟨a, 0⟩).n - (F.chain + 1) / 2 = 0 from Nat.sub_self _] at hit2
  have hfr2 := hB.free
  refine ⟨c, t, A, ?_, hB.right, hI.keeps.trans hB.keeps, hB.heap, (by simpa using hit2 : A.items.Perm (Gs.flatMap Fo.items)).trans hit, hB.n.trans hI.n, by omega, by omega, hB.rng⟩
  unfold foldF
  show bkQ (pairS ⟨F.chain, kidAt a r0⟩ ⟨a, 0⟩) (pairQ ⟨F.chain, kidAt a r0⟩ ⟨a, 0⟩ ((F.chain + 1) / 2)) ((F.chain + 1) / 2) = _
  rw [hI.pile]
  exact hB.pile
/-- The least item is taken off. -/
theorem pop_ok {a : Ar} (h : RightP a) (hg : RngA a) {r : Int} {p : Nat} {x : Item} {k : Fo} (hr : HeapAt a r (.node p x k .nil)) (hs : (Fo.node p x k .nil).size ≤ 200) (hf : 2 * (Fo.node p x k .nil).size ≤ a.free.n) :
    ∃ b t A, popC a r = (b, t, 0, x) ∧ popX a r = x ∧ RightP b ∧ Keeps a b ∧ HeapAt b t A ∧ A.items.Perm k.items ∧ b.nodes.n = a.nodes.n ∧ a.free.n ≤ b.free.n + 2 * (Fo.node p x k .nil).size ∧ b.free.n ≤ a.free.n ∧ RngA b := by
  have hsz : (Fo.node p x k .nil).size = k.size + 1 + 0 := rfl
  obtain ⟨h1, h2, h3, h4⟩ := hr.rep
  have hhy : Heapy x k := by
    rcases hr.one with e | ⟨p', x', k', e, hk⟩
    · cases e
    · cases e
      exact hk
  have hkn : k.places.Nodup := by
    have := hr.nd
    simp only [Fo.places, List.append_nil] at this
    exact (List.nodup_cons.1 this).2
  have hN := h1.get.2
  have hk0 : (getN a r).k0 = (a.nodes.at_ p).k0 := by rw [hN]
  have hch := h3.chain k _
  have hle := k.chain_le
  obtain ⟨b, t, A, e, q1, q2, q3, q4, q5, q6, q7, q8⟩ := foldF_ok h h3 (hg p h1.lt).1 hg hhy hkn (by omega) (by omega)
  have hok : hpOk a r = true := by
    unfold hpOk
    rw [rightB_iff.2 h, hpNo_ok hr hs]
    rfl
  have hr0 : (r == 0) = false := by simpa using h1.ok.2
  have hpc : popC a r = (b, t, 0, x) := by
    unfold popC popF
    rw [hok, hr0, hk0, kidsS_eq hch, e, hN, h2]
    rfl
  refine ⟨b, t, A, hpc, ?_, q1, q2, q3, q4, q5, by omega, q7, q8⟩
  unfold popX
  rw [hpc]
  rfl
end Go.Proofs.Ytadgjhbhghhbgaa.Abs
