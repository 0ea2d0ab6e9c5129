/-
  PLAIN LAW: what may takes for a heap is one; a node's children.
-/
import Derived.Test.YtadgjhbhghhbgaaHq9
import Derived.Test.YtadgjhbhghhbgaaHp15
namespace Go.Proofs.Ytadgjhbhghhbgaa.Abs
open Go

theorem node_two {x : Nd} (h : nodeEq x (two x) = true) (hk : x.kind = 6) : x = ndOf x.gen ⟨x.n, x.v⟩ x.s x.k0 x.k1 := by
  simp only [nodeEq, two, Bool.and_eq_true, beq_iff_eq, Bool.and_true] at h
  obtain ⟨h1, h2, h3, h4, h5, ⟨h6, h7, h8, h9, h10, h11, h12, h13, h14⟩, h15, h16⟩ := h
  cases x
  simp only [ndOf, Nd.mk.injEq] at *
  simp_all

theorem beq_t {i n : Nat} (h : i = n) : Nat.beq i n = true := by subst h; simp
theorem seen_mem : ∀ (ps : List Nat) (s : Nat → Bool) (i : Nat), i ∈ ps → (ps.foldl setB s) i = true
  | [], _, _, h => by simp at h
  | p :: ps, s, i, h => by
    rw [List.foldl_cons]
    rcases List.mem_cons.1 h with rfl | h
    · refine seen_le ps _ i ?_
      show (bif Nat.beq i i then true else s i) = true
      rw [beq_t rfl]
      rfl
    · exact seen_mem ps _ i h
section
variable {a : Ar}
/-- What may takes for heaps next to each other is a forest. -/
theorem may_fo : ∀ (k : Nat) (r : Int) (least : Item) (seen : Nat → Bool) (left sum v : Int) (seen' : Nat → Bool), mayF a k r least seen left sum = (v, seen') → 0 ≤ v → 0 ≤ sum → sum ≤ left → left ≤ 1000000 →
    ∃ F, Rep a r F ∧ Heapy least F ∧ (∀ p ∈ F.places, seen p = false) ∧ F.places.Nodup ∧ v = sum + F.size ∧ seen' = F.places.foldl setB seen ∧ sum + F.size ≤ left
  | 0, r, least, seen, left, sum, v, seen', h, hv, _, _, _ => by
    simp only [mayF, Prod.mk.injEq] at h
    omega
  | k + 1, r, least, seen, left, sum, v, seen', h, hv, h0, hl, hm => by
    rw [mayF] at h
    cases hr : r == 0 with
    | true =>
      rw [hr] at h
      simp only [cond_true, Prod.mk.injEq] at h
      obtain ⟨rfl, rfl⟩ := h
      have hr0 : r = 0 := by simpa using hr
      exact ⟨.nil, hr0, trivial, fun p hp => by simp [Fo.places] at hp, by simp [Fo.places], by simp [Fo.size], rfl, by simpa [Fo.size] using hl⟩
    | false =>
      rw [hr] at h
      cases hb : mayBad a r least seen left sum with
      | true =>
        rw [hb] at h
        simp only [cond_false, cond_true, Prod.mk.injEq] at h
        omega
      | false =>
        rw [hb] at h
        simp only [cond_false] at h
        unfold mayBad at hb
        obtain ⟨hb, b5⟩ := bor_f hb
        obtain ⟨hb, b4⟩ := bor_f hb
        obtain ⟨hb, b3⟩ := bor_f hb
        obtain ⟨b1, b2⟩ := bor_f hb
        have b2 := of_decide_eq_false b2
        have b3 : (getN a r).kind = 6 := by simpa using b3
        have b1 : getE a r = 0 := by simpa using b1
        have hat := IsAt.of_get b1
        obtain ⟨g1, g2⟩ := hat.get
        obtain ⟨p, hp⟩ : ∃ p, (plOf r).toNat = p := ⟨_, rfl⟩
        rw [hp] at hat g2 b4 h
        have hw : IntKind.i64.wrap (IntKind.i64.wrap (left - sum) - 1) = left - sum - 1 := by
          rw [i64_small (x := left - sum) (by omega) (by omega), i64_small (by omega) (by omega)]
        rw [hw] at h
        obtain ⟨q, hq⟩ : ∃ q, mayF a k (getN a r).k0 (itmOf (getN a r)) (setB seen p) (left - sum - 1) 0 = q := ⟨_, rfl⟩
        rw [hq] at h
        obtain ⟨many, seen2⟩ := q
        simp only at h
        cases hb2 : mayBad2 (getN a r) many with
        | true =>
          rw [hb2] at h
          simp only [cond_true, Prod.mk.injEq] at h
          omega
        | false =>
          rw [hb2] at h
          simp only [cond_false] at h
          unfold mayBad2 at hb2
          obtain ⟨hb2, c3⟩ := bor_f hb2
          obtain ⟨c1, c2⟩ := bor_f hb2
          have c1 := of_decide_eq_false c1
          have c2 : nodeEq (getN a r) (two (getN a r)) = true := by simpa using c2
          have c3 : IntKind.i64.wrap (many + 1) = (getN a r).s := by simpa using c3
          obtain ⟨kd, k1, k2, k3, k4, k5, k6, k7⟩ := may_fo k _ _ _ _ _ many seen2 hq (by omega) (by omega) (by omega) (by omega)
          have hms : many = kd.size := by omega
          rw [i64_small (by omega) (by omega)] at c3
          have hw2 : IntKind.i64.wrap (IntKind.i64.wrap (sum + many) + 1) = sum + many + 1 := by
            rw [i64_small (x := sum + many) (by omega) (by omega), i64_small (by omega) (by omega)]
          rw [hw2] at h
          obtain ⟨nx, n1, n2, n3, n4, n5, n6, n7⟩ := may_fo k _ _ _ _ _ v seen' h hv (by omega) (by omega) hm
          have hN := node_two c2 b3
          rw [g2] at hN c3 k1 n1 k2
          have hset : ∀ z, setB seen p z = false → z ≠ p ∧ seen z = false := fun z hz => by
            have hz : (bif Nat.beq z p then true else seen z) = false := hz
            refine ⟨fun e => ?_, ?_⟩
            · rw [e, beq_t rfl] at hz; cases hz
            · cases hzb : Nat.beq z p with
              | true => rw [hzb] at hz; cases hz
              | false => rw [hzb] at hz; exact hz
          have hkn : ∀ z ∈ nx.places, z ≠ p ∧ seen z = false ∧ z ∉ kd.places := fun z hz => by
            have h1 := n3 z hz
            rw [k6] at h1
            have h2 : setB seen p z = false := by
              cases hs : setB seen p z with
              | false => rfl
              | true => rw [seen_le kd.places _ z hs] at h1; cases h1
            refine ⟨(hset z h2).1, (hset z h2).2, fun hmem => ?_⟩
            rw [seen_mem kd.places _ z hmem] at h1
            cases h1
          refine ⟨.node p ⟨(a.nodes.at_ p).n, (a.nodes.at_ p).v⟩ kd nx, ⟨hat, ?_, k1, n1⟩, ⟨?_, k2, n2⟩, fun z hz => ?_, ?_, ?_, ?_, ?_⟩
          · rw [← hms, c3]
            exact hN
          · rw [← ord_less]
            rw [g2] at b5
            exact b5
          · simp only [Fo.places, List.mem_cons, List.mem_append] at hz
            rcases hz with rfl | hz | hz
            · exact b4
            · exact (hset z (k3 z hz)).2
            · exact (hkn z hz).2.1
          · refine List.nodup_cons.2 ⟨fun hz => ?_, List.nodup_append.2 ⟨k4, n4, fun x hx y hy e => ?_⟩⟩
            · rcases List.mem_append.1 hz with hz | hz
              · exact (hset p (k3 p hz)).1 rfl
              · exact (hkn p hz).1 rfl
            · subst e
              exact (hkn x hy).2.2 hx
          · rw [n5, hms]
            simp only [Fo.size]
            push_cast
            omega
          · rw [n6, k6]
            simp only [Fo.places, List.foldl_cons, List.foldl_append]
          · simp only [Fo.size]
            push_cast
            omega
/-- A heap that may be: as it stands. -/
theorem hpOk_fo {r : Int} (hr : 0 ≤ r ∧ r < 18446744073709551616) (h : hpOk a r = true) : RightP a ∧ ∃ F, HeapAt a r F ∧ F.size ≤ 200 := by
  unfold hpOk at h
  cases hb : rightB a with
  | false => rw [hb] at h; cases h
  | true =>
    rw [hb] at h
    simp only [cond_true, Bool.not_eq_true'] at h
    refine ⟨rightB_iff.1 hb, ?_⟩
    unfold hpNo at h
    obtain ⟨h1, h2⟩ := bor_f h
    have h1 := of_decide_eq_false h1
    have h2 : (getN a r).k1 = 0 := by simpa using h2
    obtain ⟨v, hv⟩ : ∃ v, mayF a (a.nodes.n + 1) r (itmOf (getN a r)) (fun _ => false) 200 0 = v := ⟨_, rfl⟩
    rw [hv] at h1
    obtain ⟨v, seen'⟩ := v
    obtain ⟨F, f1, f2, f3, f4, f5, f6, f7⟩ := may_fo _ _ _ _ _ _ v seen' hv (by simpa using h1) (by omega) (by omega) (by omega)
    refine ⟨F, ⟨f1, ?_, f4, hr⟩, by omega⟩
    cases F with
    | nil => exact .inl rfl
    | node p x k n =>
      obtain ⟨g1, g2, g3, g4⟩ := f1
      have hk1 : (a.nodes.at_ p).k1 = 0 := by rw [← g1.get.2]; exact h2
      rw [hk1] at g4
      cases n with
      | nil => exact .inr ⟨p, x, k, rfl, f2.2.1⟩
      | node p' x' k' n' => exact absurd rfl g4.1.ok.2
theorem kidAt_succ (r : Int) : ∀ j, kidAt a r (j + 1) = kidAt a (getN a r).k1 j
  | 0 => rfl
  | j + 1 => by
    rw [kidAt, kidAt_succ r j]
    rfl
def Fo.chain : Fo → Nat
  | .nil => 0
  | .node _ _ _ n => n.chain + 1
theorem Fo.chain_le : ∀ F : Fo, F.chain ≤ F.size
  | .nil => Nat.le_refl _
  | .node _ _ k n => by
    have := n.chain_le
    simp only [Fo.chain, Fo.size]
    omega
theorem Rep.chain : ∀ (F : Fo) (r : Int), Rep a r F → ChainLen a r F.chain
  | .nil, r, h => ⟨h, fun j hj => absurd hj (Nat.not_lt_zero j)⟩
  | .node p x k n, r, h => by
    obtain ⟨h1, h2, h3, h4⟩ := h
    have hn : (getN a r).k1 = (a.nodes.at_ p).k1 := by rw [h1.get.2]
    have ih := Rep.chain n _ h4
    refine ⟨?_, fun j hj => ?_⟩
    · show kidAt a r (n.chain + 1) = 0
      rw [kidAt_succ, hn]
      exact ih.1
    · cases j with
      | zero => exact h1.ok.2
      | succ j =>
        rw [kidAt_succ, hn]
        exact ih.2 j (by have : j + 1 < n.chain + 1 := hj; omega)
theorem popOk_of {r : Int} (h : hpOk a r = true) : PopOk a r := by
  by_cases h0 : r = 0
  · exact .inl h0
  · refine .inr ?_
    unfold hpOk at h
    cases hb : rightB a with
    | false => rw [hb] at h; cases h
    | true =>
      rw [hb] at h
      simp only [cond_true, Bool.not_eq_true'] at h
      unfold hpNo at h
      obtain ⟨h1, _⟩ := bor_f h
      have h1 := of_decide_eq_false h1
      obtain ⟨v, hv⟩ : ∃ v, mayF a (a.nodes.n + 1) r (itmOf (getN a r)) (fun _ => false) 200 0 = v := ⟨_, rfl⟩
      rw [hv] at h1
      obtain ⟨v, seen'⟩ := v
      obtain ⟨F, f1, _, _, _, _, _, f7⟩ := may_fo _ _ _ _ _ _ v seen' hv (by simpa using h1) (by omega) (by omega) (by omega)
      cases F with
      | nil => exact absurd f1 h0
      | node p x k n =>
        obtain ⟨g1, _, g3, _⟩ := f1
        refine ⟨k.chain, ?_, ?_⟩
        · have := k.chain_le
          simp only [Fo.size] at f7
          omega
        · rw [g1.get.2]
          exact g3.chain k _
end
end Go.Proofs.Ytadgjhbhghhbgaa.Abs
