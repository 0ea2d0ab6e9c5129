/-
  PLAIN LAW: heaps that are made where nodes may be lacking.
-/
import Derived.Test.YtadgjhbhghhbgaaHr
import Derived.Test.YtadgjhbhghhbgaaHv
namespace Go.Proofs.Ytadgjhbhghhbgaa.Abs
open Go

theorem mkBad_hp {a : Ar} (h : RightP a) {n : Nd} {c x s : Int} (hc : refOk c = true) (hx : refOk x = true) : mkBad a (hpN n c x s) = false := by
  have hw : wellB (gen0 (hpN n c x s) 0) = true := well_mk ⟨by show (0 : Int) ≤ 0; decide, by show (0 : Int) ≤ 1048576; decide⟩ ⟨by show (0 : Int) ≤ 0; decide, by show (0 : Int) ≤ 9; decide⟩ ⟨by show (0 : Int) ≤ 0; decide, by show (0 : Int) ≤ 9; decide⟩ fun i hi => by
    match i, hi with
    | 0, _ => exact hc
    | 1, _ => exact hx
    | 2, _ => rfl
    | 3, _ => rfl
    | 4, _ => rfl
    | 5, _ => rfl
    | 6, _ => rfl
    | 7, _ => rfl
    | 8, _ => rfl
    | q + 9, h => exact absurd h (by omega)
  unfold mkBad
  rw [rightB_iff.2 h, hw]
  rfl
theorem hpMake_two (a : Ar) (n : Nd) (c x s : Int) : hpMake ⟨a, 2⟩ n c x s = (⟨a, 2⟩, 0) := by
  rw [hpMake_eq]
  rfl
theorem hpMake_none {a : Ar} (h : RightP a) (hf : a.free.n = 0) {n : Nd} {c x s : Int} (hc : refOk c = true) (hx : refOk x = true) : hpMake ⟨a, 0⟩ n c x s = (⟨a, 2⟩, 0) := by
  have he : mkE a (hpN n c x s) = 2 := by
    unfold mkE
    rw [mkBad_hp h hc hx, hf]
    rfl
  rw [hpMake_eq]
  unfold hpMakeR
  simp only [he]
  rfl
theorem hpTwo_bad {p : Pile} (h : p.bad = 2) (X Y : Nd) : (hpTwo p X Y).1.bad = 2 := by
  obtain ⟨a, b⟩ := p
  have h : b = 2 := h
  subst h
  unfold hpTwo
  rw [hpMake_two, hpMake_two]
theorem hpMeld_bad {p : Pile} (h : p.bad = 2) (r s : Int) : (hpMeld p r s).1.bad = 2 := by
  rw [hpMeld_eq]
  unfold hpMeldR
  cases (bif r == 0 then true else s == 0) with
  | true => exact h
  | false => cases decide (ordI (itmOf (getN p.a s)) (itmOf (getN p.a r)) < 0) <;> exact hpTwo_bad h _ _
theorem hpTwo_full {a : Ar} (h : RightP a) (hf : a.free.n < 2) {X Y : Nd} (hX : refOk X.k0 = true) (hY : refOk Y.k0 = true) : (hpTwo ⟨a, 0⟩ X Y).1.bad = 2 := by
  unfold hpTwo
  rcases Nat.eq_zero_or_pos a.free.n with h0 | h0
  · rw [hpMake_none h h0 hY hX, hpMake_two]
  · rw [hpMake_ok h h0 hY hX]
    have hl := h.last h0
    have hg := h.gen hl.1
    have hb := mkBad_hp h (n := Y) (s := Y.s) hY hX
    have hw : wellB (gen0 (hpN Y Y.k0 X.k0 Y.s) 0) = true := by
      have hb2 := hb
      unfold mkBad at hb2
      have := (bor_f hb2).2
      simpa using this
    have h1 := h.make h0 (x := hpN Y Y.k0 X.k0 Y.s) (by show (6 : Int) ≠ 0; decide) hw
    rw [hpMake_none h1 (by show a.free.n - 1 = 0; omega) (refI_ok (by have := h.max; omega) hg.1 hg.2).1 refOk_zero]
/-- Nodes are lacking. -/
theorem meld_full {a : Ar} (h : RightP a) (hf : a.free.n < 2) {r s : Int} {p q : Nat} {x y : Item} {k m n1 n2 : Fo} (hr : Rep a r (.node p x k n1)) (hs : Rep a s (.node q y m n2)) : (hpMeld ⟨a, 0⟩ r s).1.bad = 2 := by
  have hr0 : (r == 0) = false := by simpa using hr.1.ok.2
  have hs0 : (s == 0) = false := by simpa using hs.1.ok.2
  have h1 : refOk (getN a r).k0 = true := by
    rw [hr.1.get.2]
    exact hr.2.2.1.ok k _
  have h2 : refOk (getN a s).k0 = true := by
    rw [hs.1.get.2]
    exact hs.2.2.1.ok m _
  rw [hpMeld_eq]
  unfold hpMeldR
  rw [hr0, hs0]
  cases decide (ordI (itmOf (getN a s)) (itmOf (getN a r)) < 0)
  · exact hpTwo_full h hf h1 h2
  · exact hpTwo_full h hf h2 h1
theorem meld_all {a : Ar} (h : RightP a) {r s : Int} {F G : Fo} (hr : HeapAt a r F) (hs : HeapAt a s G) (hn : (F.places ++ G.places).Nodup) (hsz : F.size + G.size ≤ 1000) :
    (∃ b t H, hpMeld ⟨a, 0⟩ r s = (⟨b, 0⟩, t) ∧ Meld2 a b t H (F.places ++ G.places) (F.items ++ G.items)) ∨ ((hpMeld ⟨a, 0⟩ r s).1.bad = 2 ∧ a.free.n < 2 ∧ F ≠ .nil ∧ G ≠ .nil) := by
  by_cases hf : F ≠ .nil → G ≠ .nil → 2 ≤ a.free.n
  · obtain ⟨b, t, H, e, hM, _⟩ := meld_heap h hf hr hs hn hsz
    exact .inl ⟨b, t, H, e, hM⟩
  · have hF : F ≠ .nil := fun e => hf fun h1 => absurd e h1
    have hG : G ≠ .nil := fun e => hf fun _ h1 => absurd e h1
    have hlt : a.free.n < 2 := by
      refine Classical.byContradiction fun h1 => hf fun _ _ => ?_
      omega
    refine .inr ⟨?_, hlt, hF, hG⟩
    cases F with
    | nil => exact absurd rfl hF
    | node p x k n =>
      cases G with
      | nil => exact absurd rfl hG
      | node q y m n' => exact meld_full h hlt hr.rep hs.rep
/-- What a heap that was made is. -/
structure Made (a b : Ar) (t : Int) (l : List Item) : Prop where
  right : RightP b
  keeps : Keeps a b
  heap : ∃ H, HeapAt b t H ∧ H.items.Perm l
  n : b.nodes.n = a.nodes.n
theorem callEnd_bad {p : Pile} {t : Int} (h : p.bad = 2) : (callEnd (p, t, 0)).2.2 = 2 := by
  unfold callEnd
  simp only [h]
  rfl
theorem getS {a : Ar} {r : Int} {F : Fo} (hr : HeapAt a r F) : (getN a r).s = F.size := by
  rcases hr.one with rfl | ⟨p, y, k, rfl, _⟩
  · have h0 : r = 0 := hr.rep
    rw [h0, getN_zero]
    rfl
  · have hN := hr.rep.1.get.2.trans hr.rep.2.1
    rw [hN]
    show (k.size : Int) + 1 = ((k.size + 1 + 0 : Nat) : Int)
    omega
/-- Insert, where nodes may be lacking. -/
theorem ins_all {a : Ar} (h : RightP a) {r : Int} {F : Fo} (hr : HeapAt a r F) (hs : F.size ≤ 200) (x : Item) :
    (F.size = 200 → (insA a r x).2.2 = 5) ∧ (F.size < 200 → (∃ b t, insA a r x = (b, t, 0) ∧ Made a b t (F.items ++ [x])) ∨ ((insA a r x).2.2 = 2 ∧ a.free.n < 3)) := by
  have hok : hpOk a r = true := by
    unfold hpOk
    rw [rightB_iff.2 h, hpNo_ok hr hs]
    rfl
  refine ⟨fun h2 => ?_, fun h2 => ?_⟩
  · unfold insA insF
    rw [hok, getS hr, h2]
    rfl
  · have hsz : decide ((getN a r).s ≥ 200) = false := decide_eq_false (by rw [getS hr]; omega)
    have key : ∀ (p : Pile) (t : Int), hpMake ⟨a, 0⟩ (itNd x) 0 0 1 = (p, t) → insA a r x = callEnd ((hpMeld p r t).1, (hpMeld p r t).2, 0) := fun p t e => by
      unfold insA insF
      rw [hok]
      show callEnd (bif decide ((getN a r).s ≥ 200) then _ else _) = _
      rw [hsz, e]
      rfl
    rcases Nat.eq_zero_or_pos a.free.n with h0 | h0
    · refine .inr ⟨?_, by omega⟩
      rw [key _ _ (hpMake_none h h0 refOk_zero refOk_zero)]
      exact callEnd_bad (hpMeld_bad rfl _ _)
    · obtain ⟨b1, t1, e1, h1, k1, i1, f1, n1⟩ := make_one h h0 x
      have hdis : (F.places ++ (Fo.node (lastF a) x .nil .nil).places).Nodup := List.nodup_append.2 ⟨hr.nd, i1.nd, fun u hu v hv e => by
        have hv : v = lastF a := by simpa [Fo.places] using hv
        have := (hr.rep.kind F r u hu).2
        rw [e, hv] at this
        exact this (h.last h0).2.2⟩
      rw [key _ _ e1]
      rcases meld_all h1 (hr.keeps k1) i1 hdis (by
        show F.size + (0 + 1 + 0) ≤ 1000
        omega) with ⟨b, t, H, e2, hM⟩ | ⟨e2, h3, _, _⟩
      · refine .inl ⟨b, t, ?_, hM.right, k1.trans hM.keeps, ⟨H, hM.heap, hM.items⟩, hM.n.trans n1⟩
        rw [e2]
        rfl
      · exact .inr ⟨callEnd_bad e2, by omega⟩

/-! Pop. -/
theorem stepP_bad {p : Pile} (h : p.bad = 2) (c : Sl Int) : (stepP p c).1.bad = 2 := by
  unfold stepP
  cases (c.n : Int) == 2
  · exact h
  · exact hpMeld_bad h _ _
theorem bkQ_bad {s : Sl Int} {q : Pile} (h : q.bad = 2) : ∀ j, (bkQ s q j).1.bad = 2
  | 0 => h
  | j + 1 => hpMeld_bad (bkQ_bad h j) _ _
theorem pairs_all {a : Ar} {r0 : Int} {F : Fo} {x : Item} (h : RightP a) (hF : Rep a r0 F) (hr0 : RngK r0) (hga : RngA a) (hx : Heapy x F) (hn : F.places.Nodup) (hs : F.size ≤ 1000) :
    ∀ i, 2 * i ≤ F.chain + 1 → (∃ b Gs, PairI a r0 F i b Gs) ∨ (pairQ ⟨F.chain, kidAt a r0⟩ ⟨a, 0⟩ i).bad = 2
  | 0, _ => .inl ⟨a, [], ⟨rfl, h, Keeps.refl a, rfl, fun j G hj => by simp at hj, by cases F <;> simpa [Fo.drop] using hn, by cases F <;> simp [Fo.drop], rfl, by omega, hga⟩⟩
  | i + 1, hi => by
    rcases pairs_all h hF hr0 hga hx hn hs i (by omega) with ⟨b, Gs, hI⟩ | hb
    · by_cases hf : 2 * i + 1 < F.chain → 2 ≤ b.free.n
      · exact .inl (pair_step hI hF hr0 hga hx hs (by omega) hf)
      · refine .inr ?_
        have h2 : 2 * i + 1 < F.chain := Classical.byContradiction fun h1 => hf fun h2 => absurd h2 h1
        have hlt : b.free.n < 2 := Classical.byContradiction fun h1 => hf fun _ => by omega
        obtain ⟨p, y, k, e1⟩ := F.drop_node (2 * i) (by omega)
        obtain ⟨q, z, m, e2⟩ := F.drop_node (2 * i + 1) h2
        have hR1 := (hF.drop F r0 (2 * i) (by omega)).keeps hI.keeps
        have hR2 := (hF.drop F r0 (2 * i + 1) (by omega)).keeps hI.keeps
        rw [e1] at hR1
        rw [e2] at hR2
        show (stepP (pairQ ⟨F.chain, kidAt a r0⟩ ⟨a, 0⟩ i) (chunkS ⟨F.chain, kidAt a r0⟩ i)).1.bad = 2
        rw [hI.pile]
        unfold stepP chunkS
        have hmin : min 2 (F.chain - 2 * i) = 2 := by omega
        show (bif (((min 2 (F.chain - 2 * i) : Nat) : Int) == 2) then hpMeld ⟨b, 0⟩ (kidAt a r0 (2 * i + 0)) (kidAt a r0 (2 * i + 1)) else _).1.bad = 2
        rw [hmin]
        exact meld_full hI.right hlt hR1 hR2
    · exact .inr (stepP_bad hb _)
theorem back_all {b0 : Ar} {s : Sl Int} {Gs : List Fo} (h : RightP b0) (hg : RngA b0) (hl : Gs.length = s.n) (hh : ∀ i G, Gs[i]? = some G → HeapAt b0 (s.at_ i) G) (hn : (Gs.flatMap Fo.places).Nodup) (hsz : (Gs.flatMap Fo.items).length ≤ 1000) :
    ∀ j, j ≤ s.n → (∃ c t A, BackI b0 s Gs j c t A) ∨ (bkQ s ⟨b0, 0⟩ j).1.bad = 2
  | 0, _ => .inl ⟨b0, 0, .nil, ⟨rfl, h, Keeps.refl b0, HeapAt.nil b0, by rw [Nat.sub_zero, ← hl, List.take_length]; simpa [Fo.places] using hn, by rw [Nat.sub_zero, ← hl, List.take_length]; simp [Fo.items], rfl, by omega, hg, fun _ => rfl⟩⟩
  | j + 1, hj => by
    rcases back_all h hg hl hh hn hsz j (by omega) with ⟨c, t, A, hI⟩ | hb
    · by_cases hf : ∀ G, Gs[s.n - 1 - j]? = some G → G ≠ .nil → A ≠ .nil → 2 ≤ c.free.n
      · exact .inl (back_step hI hl hh hsz (by omega) hf)
      · refine .inr ?_
        have hf : ∃ G, Gs[s.n - 1 - j]? = some G ∧ G ≠ .nil ∧ A ≠ .nil ∧ ¬ 2 ≤ c.free.n := Classical.byContradiction fun hno => hf fun G h1 h2 h3 => Classical.byContradiction fun h4 => hno ⟨G, h1, h2, h3, h4⟩
        obtain ⟨G, hG, h1, h2, h3⟩ := hf
        have hGc := (hh _ G hG).keeps hI.keeps
        have hA := hI.heap
        show (hpMeld (bkQ s ⟨b0, 0⟩ j).1 (s.at_ (s.n - 1 - j)) (bkQ s ⟨b0, 0⟩ j).2).1.bad = 2
        rw [hI.pile]
        cases G with
        | nil => exact absurd rfl h1
        | node p x k n =>
          cases A with
          | nil => exact absurd rfl h2
          | node q y m n' => exact meld_full hI.right (by omega) hGc.rep hA.rep
    · exact .inr (hpMeld_bad hb _ _)
theorem fold_all {a : Ar} {r0 : Int} {F : Fo} {x : Item} (h : RightP a) (hF : Rep a r0 F) (hr0 : RngK r0) (hga : RngA a) (hx : Heapy x F) (hn : F.places.Nodup) (hs : F.size ≤ 1000) :
    (∃ b t, foldF ⟨a, 0⟩ ⟨F.chain, kidAt a r0⟩ = (⟨b, 0⟩, t) ∧ Made a b t F.items) ∨ ((foldF ⟨a, 0⟩ ⟨F.chain, kidAt a r0⟩).1.bad = 2 ∧ a.free.n < 2 * F.chain) := by
  by_cases hf : 2 * F.chain ≤ a.free.n
  · obtain ⟨b, t, A, e, q1, q2, q3, q4, q5, _⟩ := foldF_ok h hF hr0 hga hx hn hs hf
    exact .inl ⟨b, t, e, q1, q2, ⟨A, q3, q4⟩, q5⟩
  · rcases pairs_all h hF hr0 hga hx hn hs ((F.chain + 1) / 2) (by omega) with ⟨b, Gs, hI⟩ | hb
    · have hdr : F.drop (2 * ((F.chain + 1) / 2)) = .nil := F.drop_end _ (by omega)
      have hnd := hI.nd
      have hit := hI.items
      rw [hdr, show Fo.nil.places = [] from rfl, List.append_nil] at hnd
      rw [hdr, show Fo.nil.items = [] from rfl, List.append_nil] at hit
      rcases back_all (s := pairS ⟨F.chain, kidAt a r0⟩ ⟨a, 0⟩) hI.right hI.rng hI.len hI.heaps hnd (by rw [hit.length_eq, F.items_len]; omega) ((F.chain + 1) / 2) (Nat.le_refl _) with ⟨c, t, A, hB⟩ | hb
      · have hit2 := hB.items
        rw [show (pairS ⟨F.chain, kidAt a r0⟩ ⟨a, 0⟩).n - (F.chain + 1) / 2 = 0 from Nat.sub_self _] at hit2
        refine .inl ⟨c, t, ?_, hB.right, hI.keeps.trans hB.keeps, ⟨A, hB.heap, (by simpa using hit2 : A.items.Perm (Gs.flatMap Fo.items)).trans hit⟩, hB.n.trans hI.n⟩
        unfold foldF
        show bkQ (pairS ⟨F.chain, kidAt a r0⟩ ⟨a, 0⟩) (pairQ ⟨F.chain, kidAt a r0⟩ ⟨a, 0⟩ ((F.chain + 1) / 2)) ((F.chain + 1) / 2) = _
        rw [hI.pile]
        exact hB.pile
      · refine .inr ⟨?_, by omega⟩
        unfold foldF
        show (bkQ (pairS ⟨F.chain, kidAt a r0⟩ ⟨a, 0⟩) (pairQ ⟨F.chain, kidAt a r0⟩ ⟨a, 0⟩ ((F.chain + 1) / 2)) ((F.chain + 1) / 2)).1.bad = _
        rw [hI.pile]
        exact hb
    · exact .inr ⟨bkQ_bad hb _, by omega⟩
/-- Pop, where nodes may be lacking. -/
theorem pop_all {a : Ar} (h : RightP a) (hg : RngA a) {r : Int} {p : Nat} {x : Item} {k : Fo} (hr : HeapAt a r (.node p x k .nil)) (hs : (Fo.node p x k .nil).size ≤ 200) :
    (∃ b t, popC a r = (b, t, 0, x) ∧ popX a r = x ∧ Made a b t k.items) ∨ ((popC a r).2.2.1 = 2 ∧ popX a r = it0 ∧ a.free.n < 2 * k.size) := by
  have hsz : (Fo.node p x k .nil).size = k.size + 1 + 0 := rfl
  obtain ⟨h1, h2, h3, h4⟩ := hr.rep
  have hhy : Heapy x k := by
    rcases hr.one with e | ⟨p', x', k', e, hk⟩
    · cases e
    · cases e
      exact hk
  have hkn : k.places.Nodup := by
    have := hr.nd
    simp only [Fo.places, List.append_nil] at this
    exact (List.nodup_cons.1 this).2
  have hN := h1.get.2
  have hk0 : (getN a r).k0 = (a.nodes.at_ p).k0 := by rw [hN]
  have hch := h3.chain k _
  have hle := k.chain_le
  have hok : hpOk a r = true := by
    unfold hpOk
    rw [rightB_iff.2 h, hpNo_ok hr hs]
    rfl
  have hr0 : (r == 0) = false := by simpa using h1.ok.2
  have key : popC a r = popEnd ((foldF ⟨a, 0⟩ ⟨k.chain, kidAt a (a.nodes.at_ p).k0⟩).1, (foldF ⟨a, 0⟩ ⟨k.chain, kidAt a (a.nodes.at_ p).k0⟩).2, 0, x) := by
    unfold popC popF
    rw [hok, hr0, hk0, kidsS_eq hch, hN, h2]
    rfl
  rcases fold_all h h3 (hg p h1.lt).1 hg hhy hkn (by omega) with ⟨b, t, e, hM⟩ | ⟨e, hlt⟩
  · have hpc : popC a r = (b, t, 0, x) := by
      rw [key, e]
      rfl
    refine .inl ⟨b, t, hpc, ?_, hM⟩
    unfold popX
    rw [hpc]
    rfl
  · have hpc : (popC a r).2.2.1 = 2 := by
      rw [key]
      unfold popEnd
      simp only [e]
      rfl
    refine .inr ⟨hpc, ?_, by omega⟩
    unfold popX
    rw [hpc]
    rfl
theorem pop_nil {a : Ar} (h : RightP a) : (popC a 0).2.2.1 = 3 ∧ popX a 0 = it0 := by
  have hok : hpOk a 0 = true := by
    unfold hpOk
    rw [rightB_iff.2 h, hpNo_ok (HeapAt.nil a) (Nat.zero_le _)]
    rfl
  have hpc : (popC a 0).2.2.1 = 3 := by
    unfold popC popF
    rw [hok]
    rfl
  refine ⟨hpc, ?_⟩
  unfold popX
  rw [hpc]
  rfl
end Go.Proofs.Ytadgjhbhghhbgaa.Abs

/-
  PLAIN LAW: Meld of any two heaps; heaps apart; what is made, as the law asks.
-/
namespace Go.Proofs.Ytadgjhbhghhbgaa.Abs
open Go

theorem nodup_len : ∀ (ps L : List Nat), ps.Nodup → (∀ p ∈ ps, p ∈ L) → ps.length ≤ L.length
  | [], _, _, _ => Nat.zero_le _
  | p :: ps, L, hn, hs => by
    obtain ⟨h1, h2⟩ := List.nodup_cons.1 hn
    have hp := hs p (by simp)
    have := nodup_len ps (L.erase p) h2 fun q hq => (List.mem_erase_of_ne (fun e => h1 (by rw [← e]; exact hq))).2 (hs q (by simp [hq]))
    rw [List.length_erase_of_mem hp] at this
    have hl : 0 < L.length := List.length_pos_of_mem hp
    rw [List.length_cons]
    omega
/-- A visit meets some of a forest's places, none twice, none that was met. -/
theorem reach_sub {a : Ar} : ∀ (F : Fo) (k : Nat) (r : Int) (st : VS), Rep a r F → F.places.Nodup → ∃ ps : List Nat, reF a k r st = ps.foldl addV st ∧ ps.Nodup ∧ ∀ p ∈ ps, p ∈ F.places ∧ st.1 p = false
  | .nil, k, r, st, hr, _ => by
    have hr : r = 0 := hr
    subst hr
    exact ⟨[], reF_zero k st, by simp, fun p hp => by simp at hp⟩
  | .node p x kd nx, 0, r, st, hr, hn => ⟨[], rfl, by simp, fun p hp => by simp at hp⟩
  | .node p x kd nx, k + 1, r, st, hr, hn => by
    cases hv : visBad a r st.1 with
    | true => exact ⟨[], reF_no hv _, by simp, fun p hp => by simp at hp⟩
    | false =>
      obtain ⟨hat, hnd, hrk, hrn⟩ := hr
      have hpl : (Fo.node p x kd nx).places = p :: (kd.places ++ nx.places) := rfl
      rw [hpl] at hn ⊢
      obtain ⟨hp1, hp2⟩ := List.nodup_cons.1 hn
      obtain ⟨hnk, hnn, hdis⟩ := List.nodup_append.1 hp2
      obtain ⟨g1, g2⟩ := hat.get
      have hplr : (plOf r).toNat = p := by
        rw [hat.pl]
        rfl
      have hps : st.1 p = false := by
        unfold visBad at hv
        have := (bor_f hv).2
        rw [hplr] at this
        exact this
      have hset : ∀ q, setB st.1 p q = false → q ≠ p ∧ st.1 q = false := fun q hq => by
        have hq : (bif Nat.beq q p then true else st.1 q) = false := hq
        refine ⟨fun e => ?_, ?_⟩
        · rw [e, beq_t rfl] at hq
          cases hq
        · exact (bor_f hq).2
      obtain ⟨p1, e1, n1, m1⟩ := reach_sub kd k (a.nodes.at_ p).k0 (addV st p) hrk hnk
      obtain ⟨p2, e2, n2, m2⟩ := reach_sub nx k (a.nodes.at_ p).k1 (p1.foldl addV (addV st p)) hrn hnn
      have hz : kidA (getN a r) = [(a.nodes.at_ p).k0, (a.nodes.at_ p).k1, 0, 0, 0, 0, 0, 0, 0] := by
        rw [g2]
        unfold kidA
        rw [hnd]
        rfl
      have hst : ((setB st.1 (plOf r).toNat, snoc st.2 (plOf r)) : VS) = addV st p := by
        rw [hplr, hat.pl]
        rfl
      have hm2 : ∀ q ∈ p2, q ∈ nx.places ∧ q ≠ p ∧ st.1 q = false := fun q hq => by
        obtain ⟨h1, h2⟩ := m2 q hq
        rw [addV_fst] at h2
        have h3 : setB st.1 p q = false := by
          cases hb : setB st.1 p q with
          | false => rfl
          | true =>
            rw [seen_le p1 (addV st p).1 q hb] at h2
            cases h2
        exact ⟨h1, hset q h3⟩
      refine ⟨p :: (p1 ++ p2), ?_, ?_, fun q hq => ?_⟩
      · rw [reF, hv]
        simp only [cond_false]
        rw [hz, hst]
        simp only [List.foldl_cons, List.foldl_nil, reF_zero]
        rw [e1, e2, ← List.foldl_append]
      · refine List.nodup_cons.2 ⟨fun hm => ?_, List.nodup_append.2 ⟨n1, n2, fun u hu v hv e => ?_⟩⟩
        · rcases List.mem_append.1 hm with hm | hm
          · exact hp1 (by simp [(m1 p hm).1])
          · exact (hm2 p hm).2.1 rfl
        · exact hdis u (m1 u hu).1 v (hm2 v hv).1 e
      · rcases List.mem_cons.1 hq with rfl | hq
        · exact ⟨by simp, hps⟩
        · rcases List.mem_append.1 hq with hq | hq
          · exact ⟨by simp [(m1 q hq).1], (hset q (m1 q hq).2).2⟩
          · exact ⟨by simp [(hm2 q hq).1], (hm2 q hq).2.2⟩
section
variable {a : Ar}
theorem two_reach {F G : Fo} {r s : Int} (hR : rightB a = true) (hr : Rep a r F) (hs : Rep a s G) (hn : F.places.Nodup) (hm : G.places.Nodup) {z : Nat} (h1 : z ∈ F.places) (h2 : z ∈ G.places) : (reachL a (lst [r, s])).n < F.size + G.size := by
  obtain ⟨ps, e, np, mp⟩ := reach_sub G (a.nodes.n + 1) s (F.places.foldl addV (fun _ => false, ⟨0, fun _ => 0⟩)) hs hm
  have hlen : ps.length ≤ (G.places.erase z).length := nodup_len ps _ np fun q hq => by
    obtain ⟨q1, q2⟩ := mp q hq
    refine (List.mem_erase_of_ne fun e => ?_).2 q1
    rw [addV_fst, e, seen_mem F.places _ z h1] at q2
    cases q2
  rw [List.length_erase_of_mem h2] at hlen
  have hpos : 0 < G.places.length := List.length_pos_of_mem h2
  rw [Fo.places_len] at hlen hpos
  have key : (toL (reachL a (lst [r, s]))).length = F.size + ps.length := by
    rw [reachL_eq]
    unfold reachR
    rw [hR]
    show (toL (reF a (a.nodes.n + 1) s (reF a (a.nodes.n + 1) r (fun _ => false, ⟨0, fun _ => 0⟩))).2).length = _
    rw [reach_rep F _ r _ hr (fun _ _ => rfl) hn (cntB_lt _ _), e, addV_snd, addV_snd, List.length_append, List.length_append, List.length_map, List.length_map, Fo.places_len]
    show 0 + F.size + ps.length = _
    omega
  rw [← toL_len, key]
  omega
/-- Meld of any two heaps. -/
theorem meldA_all (h : RightP a) {r s : Int} {F G : Fo} (hr : HeapAt a r F) (hs : HeapAt a s G) (hF : F.size ≤ 200) (hG : G.size ≤ 200) :
    ((F.places ++ G.places).Nodup → F.size + G.size ≤ 200 → (∃ b t, meldA a r s = (b, t, 0) ∧ Made a b t (F.items ++ G.items)) ∨ ((meldA a r s).2.2 = 2 ∧ a.free.n < 2 ∧ F ≠ .nil)) ∧
    (¬ (F.places ++ G.places).Nodup ∨ 200 < F.size + G.size → (meldA a r s).2.2 = 5) := by
  have hR := rightB_iff.2 h
  have e1 : hpRight a (lst [r, s]) = true := by
    unfold hpRight
    rw [hR, anyB_all (g := fun i => hpNo a ((lst [r, s]).at_ i)) (n := (lst [r, s]).n) fun i hi => ?_]
    · rfl
    · have hi : i < 2 := hi
      match i, hi with
      | 0, _ => exact hpNo_ok hr hF
      | 1, _ => exact hpNo_ok hs hG
  have l1 : (reachL a (lst [r])).n = F.size := by
    rw [← toL_len, roots_one hR hr.rep hr.nd, List.length_map, Fo.places_len]
  have l2 : (reachL a (lst [s])).n = G.size := by
    rw [← toL_len, roots_one hR hs.rep hs.nd, List.length_map, Fo.places_len]
  have hdis : ¬ (F.places ++ G.places).Nodup → ∃ z, z ∈ F.places ∧ z ∈ G.places := fun hno => Classical.byContradiction fun h1 => hno (List.nodup_append.2 ⟨hr.nd, hs.nd, fun u hu v hv e => h1 ⟨u, hu, by rw [e]; exact hv⟩⟩)
  have l3 : (F.places ++ G.places).Nodup → (reachL a (lst [r, s])).n = F.size + G.size := fun hn => by
    rw [← toL_len, roots_two hR hr.rep hs.rep hn, List.length_map, List.length_append, Fo.places_len, Fo.places_len]
  refine ⟨fun hn hsz => ?_, fun hno => ?_⟩
  · have e2 : meldNo (reachL a (lst [r])) (reachL a (lst [s])) (reachL a (lst [r, s])) = false := by
      unfold meldNo
      rw [l1, l2, l3 hn, i64_small (by omega) (by omega), decide_eq_false (by omega : ¬ ((F.size + G.size : Nat) : Int) > 200)]
      simp
    have key : meldA a r s = callEnd ((hpMeld ⟨a, 0⟩ r s).1, (hpMeld ⟨a, 0⟩ r s).2, 0) := by
      unfold meldA callMel meldF
      rw [e1, e2]
      rfl
    rw [key]
    rcases meld_all h hr hs hn (by omega) with ⟨b, t, H, e3, hM⟩ | ⟨e3, h3, h4, _⟩
    · refine .inl ⟨b, t, ?_, hM.right, hM.keeps, ⟨H, hM.heap, hM.items⟩, hM.n⟩
      rw [e3]
      rfl
    · exact .inr ⟨callEnd_bad e3, h3, h4⟩
  · have e2 : meldNo (reachL a (lst [r])) (reachL a (lst [s])) (reachL a (lst [r, s])) = true := by
      unfold meldNo
      rw [l1, l2, i64_small (by omega) (by omega)]
      by_cases hn : (F.places ++ G.places).Nodup
      · have hsz : 200 < F.size + G.size := hno.resolve_left (fun h => h hn)
        rw [l3 hn, decide_eq_true (by omega : ((F.size + G.size : Nat) : Int) > 200)]
        simp
      · obtain ⟨z, h1, h2⟩ := hdis hn
        have := two_reach hR hr.rep hs.rep hr.nd hs.nd h1 h2
        have hne : (((reachL a (lst [r, s])).n : Int) != (F.size : Int) + G.size) = true := by
          simp
          omega
        rw [hne]
        rfl
    unfold meldA callMel meldF
    rw [e1, e2]
    rfl
/-! Apart. -/
theorem ndOf_inj {g s c d g' s' c' d' : Int} {x y : Item} (h : ndOf g x s c d = ndOf g' y s' c' d') : x = y := by
  have h1 : x.k = y.k := congrArg Nd.n h
  have h2 : x.v = y.v := congrArg Nd.v h
  cases x
  cases y
  simp_all
theorem Rep.uniq : ∀ (F G : Fo) (r : Int), Rep a r F → Rep a r G → F = G
  | .nil, .nil, _, _, _ => rfl
  | .nil, .node _ _ _ _, r, h1, h2 => by
    have h1 : r = 0 := h1
    exact absurd h1 h2.1.ok.2
  | .node _ _ _ _, .nil, r, h1, h2 => by
    have h2 : r = 0 := h2
    exact absurd h2 h1.1.ok.2
  | .node p x k n, .node q y m l, r, h1, h2 => by
    obtain ⟨a1, a2, a3, a4⟩ := h1
    obtain ⟨b1, b2, b3, b4⟩ := h2
    have hpq : p = q := by
      have := a1.pl
      rw [b1.pl] at this
      omega
    subst hpq
    have hxy : x = y := ndOf_inj (a2.symm.trans b2)
    subst hxy
    rw [Rep.uniq k m _ a3 b3, Rep.uniq n l _ a4 b4]
theorem top_rep {k : Nat} (hk : 202 ≤ k) {t : T3} {r : Int} {F : Fo} (hr : HeapAt a r F) (hok : t.ok = true) (hm : ∀ p ∈ F.places, ∀ i, i < t.met.n → t.met.at_ i ≠ (p : Int)) (hs : t.met.n + F.size ≤ 200) :
    (topF k a t r).ok = true ∧ toL (topF k a t r).met = toL t.met ++ F.places.map (fun p : Nat => (p : Int)) := by
  rcases hr.one with rfl | ⟨p, x, kd, rfl, hkd⟩
  · have h0 : r = 0 := hr.rep
    subst h0
    exact ⟨hok, by simp [topF, Fo.places]⟩
  · have hrep := hr.rep
    obtain ⟨h1, h2, h3, h5⟩ := hr.rep
    have hr0 : (r == 0) = false := by simpa using h1.ok.2
    have htb : topB a p = false := by
      unfold topB
      rw [decide_eq_false (by omega : ¬ (p : Int) < 0), Int.toNat_natCast]
      have : (a.nodes.at_ p).k1 = 0 := h5
      rw [this]
      rfl
    have hit : itmOf (a.nodes.at_ p) = x := by rw [h2]; rfl
    obtain ⟨t', e, ok, m, _, _⟩ := read_rep (.node p x kd .nil) k t r x hrep ⟨less_self x, hkd, trivial⟩ hok hm hr.nd (by omega) (by omega)
    have : topF k a t r = t' := by
      unfold topF
      rw [hr0, at_4 h1, htb, Int.toNat_natCast, hit]
      exact e
    rw [this]
    exact ⟨ok, m⟩
def apartB (k : Nat) (a : Ar) (r s : Int) : Bool := (topF k a (topF k a t30 r) s).ok
theorem apart_ok {k : Nat} (hk : 202 ≤ k) {r s : Int} {F G : Fo} (hr : HeapAt a r F) (hs : HeapAt a s G) (hF : F.size ≤ 200) (hsz : F.size + G.size ≤ 200) : apartB k a r s = true ↔ (F.places ++ G.places).Nodup := by
  obtain ⟨o1, m1⟩ := top_rep hk hr (t := t30) rfl (fun _ _ i hi => absurd hi (Nat.not_lt_zero i)) (by show 0 + F.size ≤ 200; omega)
  have hr1 := topF_ok k a t30 r t30_ok
  obtain ⟨t, ht⟩ : ∃ t, topF k a t30 r = t := ⟨_, rfl⟩
  unfold apartB
  rw [ht] at o1 m1 hr1 ⊢
  have m1 : toL t.met = F.places.map fun p : Nat => (p : Int) := m1
  have hn : t.met.n = F.size := by rw [← toL_len, m1, List.length_map, Fo.places_len]
  constructor
  · intro h
    refine List.nodup_append.2 ⟨hr.nd, hs.nd, fun u hu v hv e => ?_⟩
    subst e
    rcases hs.one with rfl | ⟨p, x, kd, rfl, hkd⟩
    · simp [Fo.places] at hv
    · have h1 := hs.rep.1
      have hs0 : (s == 0) = false := by simpa using h1.ok.2
      unfold topF at h
      rw [hs0] at h
      cases hb : topB a (at4 a s) with
      | true => rw [hb] at h; cases h
      | false =>
        rw [hb] at h
        obtain ⟨F', f1, _, _, f4, _⟩ := read_fo k t s _ hr1 (by omega) h
        have := Rep.uniq _ _ s hs.rep f1
        subst this
        refine f4 u hv ?_
        rw [m1]
        exact List.mem_map.2 ⟨u, hu, rfl⟩
  · intro h
    obtain ⟨_, _, hd⟩ := List.nodup_append.1 h
    refine (top_rep hk hs o1 (fun p hp i hi e => ?_) (by omega)).1
    have h1 : t.met.at_ i ∈ toL t.met := mem_toL.2 ⟨i, hi, rfl⟩
    rw [m1, e] at h1
    obtain ⟨u, hu, he⟩ := List.mem_map.1 h1
    exact hd u hu p hp (by omega)
/-! What the law asks of a heap that was made. -/
def isBad (a b : Ar) (i : Nat) : Bool := bif ((a.nodes.at_ i).kind != 0) then !nodeEq (b.nodes.at_ i) (a.nodes.at_ i) else false
def isB (k : Nat) (a b : Ar) (r : Int) (want : Sl Item) : Bool := bif ((a.nodes.n : Int) != b.nodes.n) then false else bif anyB (isBad a b) a.nodes.n then false else (bif itmsB k b r then sameI (itmsL k b r) want else false)
theorem nodeEq_self (x : Nd) : nodeEq x x = true := by simp [nodeEq]
theorem is_ok {k : Nat} (hk : 202 ≤ k) {b : Ar} (h : RightP a) {t : Int} {l : List Item} {want : Sl Item} (hM : Made a b t l) (hl : l.Perm (toL want)) (hs : Sorted want) (hn : want.n ≤ 200) : isB k a b t want = true := by
  obtain ⟨H, hH, hp⟩ := hM.heap
  have hHs : H.size ≤ 200 := by rw [← Fo.items_len, hp.length_eq, hl.length_eq, toL_len]; exact hn
  obtain ⟨i1, i2, i3⟩ := itms_ok hk hM.right hH hHs
  have e1 : ((a.nodes.n : Int) != b.nodes.n) = false := by
    rw [hM.n]
    simp
  have e2 : anyB (isBad a b) a.nodes.n = false := anyB_all fun i hi => by
    unfold isBad
    by_cases h0 : (a.nodes.at_ i).kind = 0
    · rw [h0]
      rfl
    · obtain ⟨q1, q2, q3⟩ := refI_ok (p := i) (by have := h.max; omega) (h.gen hi).1 (h.gen hi).2
      obtain ⟨_, e⟩ := hM.keeps _ i ⟨hi, q2, q3, h0⟩
      rw [e, nodeEq_self]
      cases ((a.nodes.at_ i).kind != 0) <;> rfl
  unfold isB
  rw [e1, e2, i1]
  exact same_ok (sorted_eq (i2.trans (hp.trans hl)) i3 (sorted_toL hs))
end
end Go.Proofs.Ytadgjhbhghhbgaa.Abs

/-
  HeapMakes, PLAINLY.
-/
namespace Go.Proofs.Ytadgjhbhghhbgaa.Abs
open Go

theorem sorted_of {s : Sl Item} (h : (toL s).Pairwise leI) : Sorted s := fun i j hij hj => by
  rw [List.pairwise_iff_getElem] at h
  have hi' : i < (toL s).length := by rw [toL_len]; omega
  have hj' : j < (toL s).length := by rw [toL_len]; exact hj
  have := h i j hi' hj' hij
  have g1 : (toL s)[i] = s.at_ i := Option.some.inj ((List.getElem?_eq_getElem hi').symm.trans (toL_get s (by omega)))
  have g2 : (toL s)[j] = s.at_ j := Option.some.inj ((List.getElem?_eq_getElem hj').symm.trans (toL_get s hj))
  rw [g1, g2] at this
  exact this
def fewB (a : Ar) (n : Int) : Bool := decide ((a.free.n : Int) < IntKind.i64.wrap (IntKind.i64.wrap (2 * n) + 1))
theorem few_t {a : Ar} {m : Nat} {n : Int} (hn : n = m) (hm : m ≤ 100000) (h : a.free.n < 2 * m + 1) : fewB a n = true := by
  unfold fewB
  rw [hn, i64_small (x := 2 * (m : Int)) (by omega) (by omega), i64_small (by omega) (by omega)]
  exact decide_eq_true (by omega)
def notB (e : Int) (i f : Bool) : Bool := bif (!(bif e == 0 then i else false)) then (!(bif e == 2 then f else false)) else false
theorem notB_ok {e : Int} {i f : Bool} (h : (e = 0 ∧ i = true) ∨ (e = 2 ∧ f = true)) : notB e i f = false := by
  rcases h with ⟨rfl, rfl⟩ | ⟨rfl, rfl⟩
  · rfl
  · cases i <;> rfl
def lastB (e : Int) (y z : Item) (i f : Bool) : Bool := bif (bif (bif e == 0 then itEq y z else false) then i else false) then true else (bif (bif e == 2 then f else false) then itEq y it0 else false)
/-- A row with the items of another, too. -/
def allR (l m : Sl Item) : Nat → Sl Item
  | 0 => l
  | i + 1 => withI (allR l m i) (m.at_ i)
theorem allR_n (l m : Sl Item) : ∀ i, (allR l m i).n = l.n + i
  | 0 => rfl
  | i + 1 => by
    show (allR l m i).n + 1 = _
    rw [allR_n l m i]
    omega
theorem allR_sorted {l m : Sl Item} (h : Sorted l) : ∀ i, Sorted (allR l m i)
  | 0 => h
  | i + 1 => with_sorted (allR_sorted h i)
theorem allR_perm (l m : Sl Item) : ∀ i, i ≤ m.n → (toL (allR l m i)).Perm (toL l ++ (toL m).take i)
  | 0, _ => by simp [allR]
  | i + 1, hi => by
    have hg := toL_get m (i := i) (by omega)
    rw [List.take_add_one, hg]
    refine (with_perm _ _).trans ?_
    rw [← List.append_assoc]
    exact List.Perm.append_right _ (allR_perm l m i (by omega))
structure Makes (k : Nat) (a : Ar) (r s : Int) (x : Item) (L M : Sl Item) : Prop where
  nodes : a.nodes.n ≤ 512
  ln : L.n ≤ 200
  mn : M.n ≤ 200
  ins5 : L.n = 200 → (insA a r x).2.2 = 5
  ins : L.n ≠ 200 → notB (insA a r x).2.2 (isB k a (insA a r x).1 (insA a r x).2.1 (withI L x)) (fewB a (IntKind.i64.wrap ((L.n : Int) + 1))) = false
  meld5 : (bif decide (((allR L M M.n).n : Int) > 200) then true else !apartB k a r s) = true → (meldA a r s).2.2 = 5
  meld : (bif decide (((allR L M M.n).n : Int) > 200) then true else !apartB k a r s) = false → notB (meldA a r s).2.2 (isB k a (meldA a r s).1 (meldA a r s).2.1 (allR L M M.n)) (fewB a (allR L M M.n).n) = false
  pop0 : L.n = 0 → (popC a r).2.2.1 = 3 ∧ popX a r = it0
  pop : 0 < L.n → lastB (popC a r).2.2.1 (popX a r) (L.at_ 0) (isB k a (popC a r).1 (popC a r).2.1 (tailI L)) (fewB a (IntKind.i64.wrap ((L.n : Int) - 1))) = true
theorem makes_ok {k : Nat} (hk : 202 ≤ k) {a : Ar} (hg : RngA a) {r s : Int} (hr : RngK r) (hs : RngK s) (x : Item) (h1 : itmsB k a r = true) (h2 : itmsB k a s = true) : Makes k a r s x (itmsL k a r) (itmsL k a s) := by
  obtain ⟨hR, F, hF, hFs⟩ := itms_fo hk hr h1
  obtain ⟨_, G, hG, hGs⟩ := itms_fo hk hs h2
  obtain ⟨_, p1, s1⟩ := itms_ok hk hR hF hFs
  obtain ⟨_, p2, s2⟩ := itms_ok hk hR hG hGs
  obtain ⟨L, hL⟩ : ∃ L, itmsL k a r = L := ⟨_, rfl⟩
  obtain ⟨M, hM⟩ : ∃ M, itmsL k a s = M := ⟨_, rfl⟩
  rw [hL] at p1 s1 ⊢
  rw [hM] at p2 s2 ⊢
  have n1 : L.n = F.size := by rw [← toL_len, p1.length_eq, Fo.items_len]
  have n2 : M.n = G.size := by rw [← toL_len, p2.length_eq, Fo.items_len]
  have srt := sorted_of s1
  obtain ⟨i5, iN⟩ := ins_all hR hF hFs x
  obtain ⟨mN, m5⟩ := meldA_all hR hF hG hFs hGs
  have nA := allR_n L M M.n
  have pA : (F.items ++ G.items).Perm (toL (allR L M M.n)) := by
    refine List.Perm.trans ?_ (allR_perm L M M.n (Nat.le_refl _)).symm
    rw [List.take_of_length_le (by rw [toL_len]; exact Nat.le_refl _)]
    exact List.Perm.append p1.symm p2.symm
  have hap := fun h => apart_ok hk hF hG hFs (h : F.size + G.size ≤ 200)
  refine ⟨hR.max, by omega, by omega, fun h => i5 (by omega), fun h => notB_ok ?_, fun h => m5 ?_, fun h => notB_ok ?_, fun h => ?_, fun h => ?_⟩
  · rcases iN (by omega) with ⟨b, t, e, hm⟩ | ⟨e, hlt⟩
    · refine .inl ?_
      rw [e]
      exact ⟨rfl, is_ok hk hR hm ((List.Perm.append_right [x] p1.symm).trans (with_perm L x).symm) (with_sorted srt) (by show L.n + 1 ≤ 200; omega)⟩
    · exact .inr ⟨e, few_t (m := L.n + 1) (by rw [i64_small (by omega) (by omega)]; rfl) (by omega) (by omega)⟩
  · by_cases hn : F.size + G.size ≤ 200
    · refine .inl fun hd => ?_
      rw [decide_eq_false (by omega : ¬ ((allR L M M.n).n : Int) > 200), (hap hn).2 hd] at h
      cases h
    · exact .inr (by omega)
  · have hn : F.size + G.size ≤ 200 := by
      have := of_decide_eq_false (bor_f h).1
      omega
    have hd : (F.places ++ G.places).Nodup := by
      refine (hap hn).1 ?_
      simpa using (bor_f h).2
    rcases mN hd hn with ⟨b, t, e, hm⟩ | ⟨e, hlt, hne⟩
    · refine .inl ?_
      rw [e]
      exact ⟨rfl, is_ok hk hR hm pA (allR_sorted srt _) (by omega)⟩
    · refine .inr ⟨e, few_t (m := L.n + M.n) (by rw [nA]) (by omega) ?_⟩
      have : 0 < F.size := by
        cases F with
        | nil => exact absurd rfl hne
        | node p x k n => show 0 < k.size + 1 + n.size; omega
      omega
  · rcases hF.one with rfl | ⟨p, y, kd, rfl, _⟩
    · have h0 : r = 0 := hF.rep
      rw [h0]
      exact pop_nil hR
    · exact absurd n1 (by rw [h]; show ¬ 0 = kd.size + 1 + 0; omega)
  · rcases hF.one with rfl | ⟨p, y, kd, rfl, hkd⟩
    · exact absurd n1 (by show ¬ L.n = 0; omega)
    · have n1 : L.n = kd.size + 1 + 0 := n1
      have hit : (Fo.node p y kd .nil).items = y :: kd.items := by simp [Fo.items]
      rw [hit] at p1
      obtain ⟨L', e1, pL, sL⟩ := sorted_head p1 s1 (heapy_all hkd)
      have hz : L.at_ 0 = y := by
        have := toL_get L (i := 0) h
        rw [e1] at this
        exact (Option.some.inj this).symm
      have hT : toL (tailI L) = L' := by
        have h1 : toL (tailI L) = (toL L).drop 1 := by
          apply List.ext_getElem?
          intro i
          rw [List.getElem?_drop]
          have htn : (tailI L).n = L.n - 1 := by
            show ((L.n : Int) - 1).toNat = _
            omega
          rcases Nat.lt_or_ge i (L.n - 1) with hi | hi
          · rw [toL_get (tailI L) (by omega), toL_get L (by omega)]
            rfl
          · rw [List.getElem?_eq_none (by rw [toL_len]; omega), List.getElem?_eq_none (by rw [toL_len]; omega)]
        rw [h1, e1]
        rfl
      have hTn : (tailI L).n = L.n - 1 := by
        show ((L.n : Int) - 1).toNat = _
        omega
      rcases pop_all hR hg hF hFs with ⟨b, t, e, ex, hm⟩ | ⟨e, ex, hlt⟩
      · rw [e, ex, hz]
        have := is_ok hk hR hm (want := tailI L) (by rw [hT]; exact pL.symm) (sorted_of (by rw [hT]; exact sL)) (by omega)
        unfold lastB
        rw [itEq_iff.2 rfl]
        show (bif isB k a b t (tailI L) then true else _) = true
        rw [this]
        rfl
      · rw [e, ex]
        unfold lastB
        rw [itEq_iff.2 rfl, few_t (m := L.n - 1) (by rw [i64_small (by omega) (by omega)]; omega) (by omega) (by omega)]
        rfl
end Go.Proofs.Ytadgjhbhghhbgaa.Abs
