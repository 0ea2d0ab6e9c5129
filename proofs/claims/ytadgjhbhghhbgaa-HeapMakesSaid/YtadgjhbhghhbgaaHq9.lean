/-
  PLAIN LAW: the law's alive is true.
-/
import Derived.Test.YtadgjhbhghhbgaaHq8
namespace Go.Proofs.Ytadgjhbhghhbgaa.Abs
open Go

theorem newAr_right : RightP (newAr 500) := by
  refine ⟨by show 1 ≤ 500; omega, by show 500 ≤ 512; omega, Nat.le_refl _, fun i hi => ?_, fun i j hij hj => ?_, fun q hq => nd0_well, fun q hq => ?_, fun q hq h0 => rfl⟩
  · have hi : i < 500 := hi
    show 0 ≤ ((500 : Nat) : Int) - 1 - i ∧ ((500 : Nat) : Int) - 1 - i < ((500 : Nat) : Int)
    omega
  · show ((500 : Nat) : Int) - 1 - i ≠ ((500 : Nat) : Int) - 1 - j
    omega
  · have hq : q < 500 := hq
    refine ⟨fun _ => ⟨499 - q, by show 499 - q < 500; omega, ?_⟩, fun _ => rfl⟩
    show ((500 : Nat) : Int) - 1 - ((499 - q : Nat) : Int) = q
    omega
theorem HeapAt.nil (a : Ar) : HeapAt a 0 .nil := ⟨rfl, .inl rfl, by simp [Fo.places], by decide, by decide⟩
/-- What one makes of an item. -/
theorem make_one {a : Ar} (h : RightP a) (hf : 0 < a.free.n) (x : Item) : ∃ b t, hpMake ⟨a, 0⟩ (itNd x) 0 0 1 = (⟨b, 0⟩, t) ∧ RightP b ∧ Keeps a b ∧ HeapAt b t (.node (lastF a) x .nil .nil) ∧ b.free.n = a.free.n - 1 ∧ b.nodes.n = a.nodes.n := by
  have e := hpMake_ok h hf (n := itNd x) (c := 0) (x := 0) (s := 1) rfl rfl
  generalize hz : hpN (itNd x) 0 0 1 = z at e
  have hk : z.kind ≠ 0 := by rw [← hz]; show (6 : Int) ≠ 0; decide
  have hw : wellB (gen0 z 0) = true := by
    rw [← hz]
    refine well_mk ⟨by show (0 : Int) ≤ 0; decide, by show (0 : Int) ≤ 1048576; decide⟩ ⟨by show (0 : Int) ≤ 0; decide, by show (0 : Int) ≤ 9; decide⟩ ⟨by show (0 : Int) ≤ 0; decide, by show (0 : Int) ≤ 9; decide⟩ fun i hi => ?_
    match i, hi with
    | 0, _ => rfl
    | 1, _ => rfl
    | 2, _ => rfl
    | 3, _ => rfl
    | 4, _ => rfl
    | 5, _ => rfl
    | 6, _ => rfl
    | 7, _ => rfl
    | 8, _ => rfl
    | j + 9, hj => exact absurd hj (by omega)
  have hl := h.last hf
  have hn : (mkAr a z).nodes.at_ (lastF a) = ndOf (a.nodes.at_ (lastF a)).gen x 1 0 0 := by
    rw [mkAr_at, ← hz]
    rfl
  refine ⟨_, _, e, h.make hf hk hw, keeps_make h hf z, ⟨⟨IsAt.new h hf hk, ?_, ?_, ?_⟩, .inr ⟨_, _, _, rfl, trivial⟩, by simp [Fo.places], refI_rng (by have := h.max; omega) (h.gen hl.1)⟩, rfl, rfl⟩
  · rw [hn]
    rfl
  · rw [hn]
    rfl
  · rw [hn]
    rfl
/-- An item is put into a heap. -/
theorem insA_ok {a : Ar} (h : RightP a) (hf : 3 ≤ a.free.n) {r : Int} {F : Fo} (hr : HeapAt a r F) (hs : F.size < 200) (x : Item) : ∃ b t, insA a r x = (b, t, 0) ∧ RightP b ∧ Keeps a b ∧ (∃ H, HeapAt b t H ∧ H.items.Perm (F.items ++ [x])) ∧ b.nodes.n = a.nodes.n ∧ a.free.n ≤ b.free.n + 3 ∧ b.free.n ≤ a.free.n := by
  obtain ⟨b1, t1, e1, h1, k1, i1, f1, n1⟩ := make_one h (by omega) x
  have hdis : (F.places ++ (Fo.node (lastF a) x .nil .nil).places).Nodup := List.nodup_append.2 ⟨hr.nd, i1.nd, fun u hu v hv e => by
    have hv : v = lastF a := by simpa [Fo.places] using hv
    have := (hr.rep.kind F r u hu).2
    rw [e, hv] at this
    exact this (h.last (by omega)).2.2⟩
  obtain ⟨b, t, e2, hM⟩ := hpMeld_ok h1 (by omega) (hr.keeps k1) i1 hdis (by
    show F.size + (0 + 1 + 0) ≤ 1000
    omega)
  obtain ⟨H, hH, pH⟩ := hM.heap
  refine ⟨b, t, ?_, hM.right, k1.trans hM.keeps, ⟨H, hH, pH⟩, hM.n.trans n1, by have := hM.free; omega, by have := hM.free; omega⟩
  have hok : hpOk a r = true := by
    unfold hpOk
    rw [rightB_iff.2 h, hpNo_ok hr (by omega)]
    rfl
  have hsz : decide ((getN a r).s ≥ 200) = false := decide_eq_false (by
    rcases hr.one with rfl | ⟨p, y, k, rfl, _⟩
    · have h0 : r = 0 := hr.rep
      rw [h0, getN_zero]
      decide
    · have hN := hr.rep.1.get.2.trans hr.rep.2.1
      rw [hN]
      have hs : k.size + 1 + 0 < 200 := hs
      show ¬ ((k.size : Int) + 1) ≥ 200
      omega)
  unfold insA insF
  rw [hok]
  show callEnd (bif decide ((getN a r).s ≥ 200) then _ else _) = _
  rw [hsz, e1]
  show callEnd ((hpMeld ⟨b1, 0⟩ r t1).1, (hpMeld ⟨b1, 0⟩ r t1).2, 0) = _
  rw [e2]
  rfl
/-- The least item of a heap. -/
theorem min_ok {a : Ar} (h : RightP a) {r : Int} {p : Nat} {x : Item} {k : Fo} (hr : HeapAt a r (.node p x k .nil)) (hs : (Fo.node p x k .nil).size ≤ 200) : minE a r = 0 ∧ minX a r = x := by
  have hok : hpOk a r = true := by
    unfold hpOk
    rw [rightB_iff.2 h, hpNo_ok hr hs]
    rfl
  have hr0 : (r == 0) = false := by simpa using hr.rep.1.ok.2
  have he : minE a r = 0 := by
    unfold minE
    rw [hok, hr0]
    rfl
  refine ⟨he, ?_⟩
  unfold minX
  rw [he, hr.rep.1.get.2, hr.rep.2.1]
  rfl
theorem alive_true : aliveB = true := by
  rw [aliveB_eq]
  obtain ⟨b, t, e, h1, _, ⟨H, hH, pH⟩, _⟩ := insA_ok newAr_right (by show 3 ≤ 500; omega) (HeapAt.nil _) (by show 0 < 200; omega) ⟨5, 7⟩
  have hn : newA 500 = newAr 500 := rfl
  have hH1 : H.items = [⟨5, 7⟩] := List.perm_singleton.1 pH
  rcases hH.one with rfl | ⟨p, x, k, rfl, _⟩
  · cases hH1
  · have hx : x = ⟨5, 7⟩ := by
      have : x :: (k.items ++ []) = [⟨5, 7⟩] := hH1
      exact (List.cons.inj this).1
    have hsz : (Fo.node p x k .nil).size = 1 := by
      rw [← Fo.items_len, hH1]
      rfl
    obtain ⟨m1, m2⟩ := min_ok h1 hH (by omega)
    unfold aliveR
    rw [hn, e]
    show (bif (bif (bif _ then _ else false) then (minE b t == 0) else false) then itEq (minX b t) ⟨5, 7⟩ else false) = true
    rw [m1, m2, hx]
    rfl
end Go.Proofs.Ytadgjhbhghhbgaa.Abs
