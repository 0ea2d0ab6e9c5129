/-
  PLAIN LAW: heaps put together.
-/
import Derived.Test.YtadgjhbhghhbgaaHq4
namespace Go.Proofs.Ytadgjhbhghhbgaa.Abs
open Go

/-- What lay in an arena lies so in another one. -/
def Keeps (a b : Ar) : Prop := ∀ (r : Int) (p : Nat), IsAt a r p → IsAt b r p ∧ b.nodes.at_ p = a.nodes.at_ p
theorem Keeps.refl (a : Ar) : Keeps a a := fun _ _ h => ⟨h, rfl⟩
theorem Keeps.trans {a b c : Ar} (h : Keeps a b) (h' : Keeps b c) : Keeps a c := fun r p hp => by
  obtain ⟨h1, h2⟩ := h r p hp
  obtain ⟨h3, h4⟩ := h' r p h1
  exact ⟨h3, h4.trans h2⟩
theorem Rep.keeps {a b : Ar} (h : Keeps a b) : ∀ (F : Fo) (r : Int), Rep a r F → Rep b r F
  | .nil, _, hr => hr
  | .node p x k n, r, hr => by
    obtain ⟨h1, h2, h3, h4⟩ := hr
    obtain ⟨h5, h6⟩ := h r p h1
    refine ⟨h5, ?_, ?_, ?_⟩
    · rw [h6]
      exact h2
    · rw [h6]
      exact h3.keeps h k _
    · rw [h6]
      exact h4.keeps h n _
theorem Rep.kind {a : Ar} : ∀ (F : Fo) (r : Int), Rep a r F → ∀ p ∈ F.places, p < a.nodes.n ∧ (a.nodes.at_ p).kind ≠ 0
  | .nil, _, _, p, hp => by simp [Fo.places] at hp
  | .node q x k n, r, hr, p, hp => by
    obtain ⟨h1, h2, h3, h4⟩ := hr
    simp only [Fo.places, List.mem_cons, List.mem_append] at hp
    rcases hp with rfl | hp | hp
    · exact ⟨h1.lt, h1.kd⟩
    · exact h3.kind k _ p hp
    · exact h4.kind n _ p hp
/-- A heap in an arena. -/
structure HeapAt (a : Ar) (r : Int) (F : Fo) : Prop where
  rep : Rep a r F
  one : F = .nil ∨ ∃ p x k, F = .node p x k .nil ∧ Heapy x k
  nd : F.places.Nodup
  rng : 0 ≤ r ∧ r < 18446744073709551616
theorem HeapAt.keeps {a b : Ar} {r : Int} {F : Fo} (h : HeapAt a r F) (hk : Keeps a b) : HeapAt b r F := ⟨h.rep.keeps hk F r, h.one, h.nd, h.rng⟩
theorem less_self (x : Item) : lessI x x = false := by simp [lessI]
/-- Such a heap is taken for one. -/
theorem hpNo_ok {a : Ar} {r : Int} {F : Fo} (h : HeapAt a r F) (hs : F.size ≤ 200) : hpNo a r = false := by
  unfold hpNo
  rcases h.one with rfl | ⟨p, x, k, rfl, hk⟩
  · have hr : r = 0 := h.rep
    subst hr
    rw [getN_zero]
    rfl
  · obtain ⟨h1, h2, h3, h4⟩ := h.rep
    obtain ⟨g1, g2⟩ := h1.get
    have hx : itmOf (getN a r) = x := by
      rw [g2, h2]
      rfl
    have hm := may_rep (.node p x k .nil) (a.nodes.n + 1) r x (fun _ => false) 200 0 h.rep ⟨less_self x, hk, trivial⟩ (fun _ _ => rfl) h.nd (by omega) (by omega) (by omega) (cntB_lt _ _)
    have hk1 : (getN a r).k1 = 0 := by
      rw [g2]
      exact h4
    rw [hx, hm, hk1, decide_eq_false (by omega : ¬ (0 : Int) + ((Fo.node p x k .nil).size : Int) < 0)]
    rfl
theorem orR_zero {s : Int} (h : 0 ≤ s ∧ s < 18446744073709551616) : orR 0 s = s ∧ orR s 0 = s := by
  have e : (BitVec.ofInt 64 s).toNat = s.toNat := by
    rw [BitVec.toNat_ofInt]
    omega
  have e2 : IntKind.u64.wrap ((s.toNat : Nat) : Int) = s := by
    rw [IntKind.wrap_u64]
    omega
  constructor
  · show IntKind.u64.wrap (((BitVec.ofInt 64 0 ||| BitVec.ofInt 64 s).toNat : Nat) : Int) = s
    rw [show BitVec.ofInt 64 0 = 0#64 from rfl, BitVec.zero_or, e, e2]
  · show IntKind.u64.wrap (((BitVec.ofInt 64 s ||| BitVec.ofInt 64 0).toNat : Nat) : Int) = s
    rw [show BitVec.ofInt 64 0 = 0#64 from rfl, BitVec.or_zero, e, e2]
theorem refI_rng {p : Nat} {g : Int} (hp : p < 512) (h : 0 ≤ g ∧ g ≤ 1048576) : 0 ≤ refI p g ∧ refI p g < 18446744073709551616 := by
  unfold refI
  omega
theorem Rep.ok {a : Ar} : ∀ (F : Fo) (r : Int), Rep a r F → refOk r = true
  | .nil, r, h => by
    have h : r = 0 := h
    rw [h]
    rfl
  | .node _ _ _ _, _, h => h.1.ok.1
theorem keeps_make {a : Ar} (h : RightP a) (hf : 0 < a.free.n) (x : Nd) : Keeps a (mkAr a x) := fun _ _ hp => hp.make h hf
/-- What it is to put two heaps together. -/
structure Melded (a : Ar) (b : Ar) (t : Int) (l : List Item) : Prop where
  right : RightP b
  keeps : Keeps a b
  heap : ∃ H, HeapAt b t H ∧ H.items.Perm l
  n : b.nodes.n = a.nodes.n
  free : a.free.n ≤ b.free.n + 2 ∧ b.free.n ≤ a.free.n
/-- References that stand in nodes are numbers of 64 bits. -/
def RngK (c : Int) : Prop := 0 ≤ c ∧ c < 18446744073709551616
def RngA (a : Ar) : Prop := ∀ q, q < a.nodes.n → RngK (a.nodes.at_ q).k0 ∧ RngK (a.nodes.at_ q).k1
theorem RngA.make {a : Ar} (h : RngA a) {z : Nd} (h0 : RngK z.k0) (h1 : RngK z.k1) : RngA (mkAr a z) := fun q hq => by
  by_cases e : q = lastF a
  · subst e
    rw [mkAr_at]
    exact ⟨h0, h1⟩
  · rw [mkAr_other e]
    exact h q hq
theorem two_top {a : Ar} (h : RightP a) (hf : 2 ≤ a.free.n) {r s : Int} {p q : Nat} {x y : Item} {k m n1 n2 : Fo} (hr : Rep a r (.node p x k n1)) (hs : Rep a s (.node q y m n2)) (hk : Heapy x k) (hm : Heapy y m) (hn : (k.places ++ m.places).Nodup) (hle : lessI y x = false) (hsz : k.size + m.size ≤ 100000) :
    ∃ b t z1 z2, hpTwo ⟨a, 0⟩ (getN a r) (getN a s) = (⟨b, 0⟩, t) ∧ RightP b ∧ Keeps a b ∧ HeapAt b t (.node z2 x (.node z1 y m k) .nil) ∧ b.nodes.n = a.nodes.n ∧ b.free.n + 2 = a.free.n ∧ (a.nodes.at_ z1).kind = 0 ∧ (a.nodes.at_ z2).kind = 0 ∧ (RngA a → RngA b) := by
  obtain ⟨hr1, hr2, hr3, hr4⟩ := hr
  obtain ⟨hs1, hs2, hs3, hs4⟩ := hs
  have hX : getN a r = ndOf (a.nodes.at_ p).gen x ((k.size : Int) + 1) (a.nodes.at_ p).k0 (a.nodes.at_ p).k1 := hr1.get.2.trans hr2
  have hY : getN a s = ndOf (a.nodes.at_ q).gen y ((m.size : Int) + 1) (a.nodes.at_ q).k0 (a.nodes.at_ q).k1 := hs1.get.2.trans hs2
  have hf1 : 0 < a.free.n := by omega
  have e1 := hpMake_ok h hf1 (n := getN a s) (c := (getN a s).k0) (x := (getN a r).k0) (s := (getN a s).s) (by rw [hY]; exact hs3.ok m _) (by rw [hX]; exact hr3.ok k _)
  generalize hz1 : hpN (getN a s) (getN a s).k0 (getN a r).k0 (getN a s).s = z1 at e1
  have hz1k : z1.kind ≠ 0 := by rw [← hz1]; show (6 : Int) ≠ 0; decide
  have hz1w : wellB (gen0 z1 0) = true := by
    rw [← hz1, hX, hY]
    refine well_mk ⟨by show (0 : Int) ≤ 0; decide, by show (0 : Int) ≤ 1048576; decide⟩ ⟨by show (0 : Int) ≤ 0; decide, by show (0 : Int) ≤ 9; decide⟩ ⟨by show (0 : Int) ≤ 0; decide, by show (0 : Int) ≤ 9; decide⟩ fun i hi => ?_
    match i, hi with
    | 0, _ => exact hs3.ok m _
    | 1, _ => exact hr3.ok k _
    | 2, _ => rfl
    | 3, _ => rfl
    | 4, _ => rfl
    | 5, _ => rfl
    | 6, _ => rfl
    | 7, _ => rfl
    | 8, _ => rfl
    | j + 9, hj => exact absurd hj (by omega)
  have h1 := h.make hf1 hz1k hz1w
  have k1 := keeps_make h hf1 z1
  have i1 := IsAt.new h hf1 (x := z1) hz1k
  have hf2 : 0 < (mkAr a z1).free.n := by
    show 0 < a.free.n - 1
    omega
  generalize hc1 : refI (lastF a) (a.nodes.at_ (lastF a)).gen = c1 at e1 i1
  have e2 := hpMake_ok h1 hf2 (n := getN a r) (c := c1) (x := 0) (s := IntKind.i64.wrap ((getN a r).s + (getN a s).s)) i1.ok.1 rfl
  have hS : IntKind.i64.wrap ((getN a r).s + (getN a s).s) = ((m.size + 1 + k.size : Nat) : Int) + 1 := by
    rw [hX, hY]
    show IntKind.i64.wrap (((k.size : Int) + 1) + ((m.size : Int) + 1)) = _
    rw [i64_small (by omega) (by omega)]
    omega
  rw [hS] at e2
  generalize hz2 : hpN (getN a r) c1 0 (((m.size + 1 + k.size : Nat) : Int) + 1) = z2 at e2
  have hz2k : z2.kind ≠ 0 := by rw [← hz2]; show (6 : Int) ≠ 0; decide
  have hz2w : wellB (gen0 z2 0) = true := by
    rw [← hz2]
    refine well_mk ⟨by show (0 : Int) ≤ 0; decide, by show (0 : Int) ≤ 1048576; decide⟩ ⟨by show (0 : Int) ≤ 0; decide, by show (0 : Int) ≤ 9; decide⟩ ⟨by show (0 : Int) ≤ 0; decide, by show (0 : Int) ≤ 9; decide⟩ fun i hi => ?_
    match i, hi with
    | 0, _ => exact i1.ok.1
    | 1, _ => rfl
    | 2, _ => rfl
    | 3, _ => rfl
    | 4, _ => rfl
    | 5, _ => rfl
    | 6, _ => rfl
    | 7, _ => rfl
    | 8, _ => rfl
    | j + 9, hj => exact absurd hj (by omega)
  have h2 := h1.make hf2 hz2k hz2w
  have k2 := keeps_make h1 hf2 z2
  have i2 := IsAt.new h1 hf2 (x := z2) hz2k
  have hl1 := h1.last hf2
  have hg2 := h1.gen hl1.1
  have hrng := refI_rng (p := lastF (mkAr a z1)) (g := ((mkAr a z1).nodes.at_ (lastF (mkAr a z1))).gen) (by have := h1.max; omega) hg2
  have i1' := k2 _ _ i1
  have hk2 := k1.trans k2
  have d2 : lastF (mkAr a z1) ≠ lastF a := fun e => by
    have := hl1.2.2
    rw [e, mkAr_at] at this
    exact hz1k this
  refine ⟨mkAr (mkAr a z1) z2, refI (lastF (mkAr a z1)) ((mkAr a z1).nodes.at_ (lastF (mkAr a z1))).gen, lastF a, lastF (mkAr a z1), ?_, h2, hk2, ⟨?_, .inr ⟨_, _, _, rfl, hle, hm, hk⟩, ?_, hrng⟩, rfl, ?_, (h.last hf1).2.2, ?_, fun hg => ?_⟩
  · unfold hpTwo
    rw [e1]
    show hpMake ⟨mkAr a z1, 0⟩ (getN a r) c1 0 (IntKind.i64.wrap ((getN a r).s + (getN a s).s)) = _
    rw [hS]
    exact e2
  · have hn2 : (mkAr (mkAr a z1) z2).nodes.at_ (lastF (mkAr a z1)) = ndOf ((mkAr a z1).nodes.at_ (lastF (mkAr a z1))).gen x (((m.size + 1 + k.size : Nat) : Int) + 1) c1 0 := by
      rw [mkAr_at, ← hz2, hX]
      rfl
    have hn1 : (mkAr (mkAr a z1) z2).nodes.at_ (lastF a) = ndOf (a.nodes.at_ (lastF a)).gen y ((m.size : Int) + 1) (a.nodes.at_ q).k0 (a.nodes.at_ p).k0 := by
      rw [i1'.2, mkAr_at, ← hz1, hX, hY]
      rfl
    refine ⟨i2, ?_, ?_, ?_⟩
    · rw [hn2]
      rfl
    · rw [hn2]
      refine ⟨i1'.1, ?_, ?_, ?_⟩
      · rw [hn1]
        rfl
      · rw [hn1]
        exact hs3.keeps hk2 m _
      · rw [hn1]
        exact hr3.keeps hk2 k _
    · rw [hn2]
      rfl
  · have d1 : ∀ z ∈ k.places ++ m.places, z ≠ lastF a ∧ z ≠ lastF (mkAr a z1) := fun z hz => by
      have hkd : z < a.nodes.n ∧ (a.nodes.at_ z).kind ≠ 0 := by
        rcases List.mem_append.1 hz with hz | hz
        · exact hr3.kind k _ z hz
        · exact hs3.kind m _ z hz
      have c1 : z ≠ lastF a := fun e => hkd.2 (e ▸ (h.last hf1).2.2)
      refine ⟨c1, fun e => ?_⟩
      have := mkAr_other (a := a) (x := z1) c1
      rw [← this, e] at hkd
      exact hkd.2 hl1.2.2
    obtain ⟨n1, n2, n3⟩ := List.nodup_append.1 hn
    show (lastF (mkAr a z1) :: ((lastF a :: (m.places ++ k.places)) ++ [])).Nodup
    rw [List.append_nil, List.nodup_cons, List.nodup_cons, List.nodup_append]
    refine ⟨?_, ?_, n2, n1, fun u hu v hv e => n3 v hv u hu e.symm⟩
    · rw [List.mem_cons, List.mem_append]
      rintro (e | e | e)
      · exact d2 e
      · exact (d1 _ (List.mem_append.2 (.inr e))).2 rfl
      · exact (d1 _ (List.mem_append.2 (.inl e))).2 rfl
    · rw [List.mem_append]
      rintro (e | e)
      · exact (d1 _ (List.mem_append.2 (.inr e))).1 rfl
      · exact (d1 _ (List.mem_append.2 (.inl e))).1 rfl
  · show a.free.n - 1 - 1 + 2 = a.free.n
    omega
  · have := hl1.2.2
    rw [mkAr_other d2] at this
    exact this
  · refine (hg.make ?_ ?_).make ?_ ?_
    · rw [← hz1, hY]
      exact (hg q hs1.lt).1
    · rw [← hz1, hX]
      exact (hg p hr1.lt).1
    · rw [← hz2]
      show RngK c1
      rw [← hc1]
      exact refI_rng (by have := h.max; have := (h.last hf1).1; omega) (h.gen (h.last hf1).1)
    · rw [← hz2]
      exact ⟨by show (0 : Int) ≤ 0; decide, by show (0 : Int) < 18446744073709551616; decide⟩
theorem two_ok' {a : Ar} (h : RightP a) (hf : 2 ≤ a.free.n) {r s : Int} {p q : Nat} {x y : Item} {k m : Fo} (hr : Rep a r (.node p x k .nil)) (hs : Rep a s (.node q y m .nil)) (hk : Heapy x k) (hm : Heapy y m) (hn : (k.places ++ m.places).Nodup) (hle : lessI y x = false) (hsz : k.size + m.size ≤ 100000) :
    ∃ b t, hpTwo ⟨a, 0⟩ (getN a r) (getN a s) = (⟨b, 0⟩, t) ∧ Melded a b t (x :: y :: (m.items ++ k.items)) := by
  obtain ⟨b, t, z1, z2, e, h1, h2, h3, h4, h5, _⟩ := two_top h hf hr hs hk hm hn hle hsz
  refine ⟨b, t, e, h1, h2, ⟨_, h3, ?_⟩, h4, by omega⟩
  show (x :: ((y :: (m.items ++ k.items)) ++ [])).Perm _
  rw [List.append_nil]
end Go.Proofs.Ytadgjhbhghhbgaa.Abs
