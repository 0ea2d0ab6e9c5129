/-
  PLAIN LAW: heaps in an arena as forests: what may and Reach make of them.
-/
import Derived.Test.YtadgjhbhghhbgaaHq2
namespace Go.Proofs.Ytadgjhbhghhbgaa.Abs
open Go

/-- Nodes next to each other, each with those below. -/
inductive Fo where
  | nil
  | node (p : Nat) (x : Item) (kids next : Fo)
def Fo.size : Fo → Nat
  | .nil => 0
  | .node _ _ k n => k.size + 1 + n.size
def Fo.places : Fo → List Nat
  | .nil => []
  | .node p _ k n => p :: (k.places ++ n.places)
def Fo.items : Fo → List Item
  | .nil => []
  | .node _ x k n => x :: (k.items ++ n.items)
theorem Fo.places_len : ∀ F : Fo, F.places.length = F.size
  | .nil => rfl
  | .node p x k n => by
    simp only [Fo.places, Fo.size, List.length_cons, List.length_append, k.places_len, n.places_len]
    omega
theorem Fo.items_len : ∀ F : Fo, F.items.length = F.size
  | .nil => rfl
  | .node p x k n => by
    simp only [Fo.items, Fo.size, List.length_cons, List.length_append, k.items_len, n.items_len]
    omega
/-- A heap's node. -/
def ndOf (g : Int) (x : Item) (s c d : Int) : Nd := ⟨6, g, x.k, x.v, s, c, d, 0, 0, 0, 0, 0, 0, 0, 0, 0⟩
/-- A reference is that of a forest. -/
def Rep (a : Ar) : Int → Fo → Prop
  | r, .nil => r = 0
  | r, .node p x k n => IsAt a r p ∧ a.nodes.at_ p = ndOf (a.nodes.at_ p).gen x ((k.size : Int) + 1) (a.nodes.at_ p).k0 (a.nodes.at_ p).k1 ∧ Rep a (a.nodes.at_ p).k0 k ∧ Rep a (a.nodes.at_ p).k1 n
/-- None is less than the one above. -/
def Heapy : Item → Fo → Prop
  | _, .nil => True
  | least, .node _ x k n => lessI x least = false ∧ Heapy x k ∧ Heapy least n

theorem ord_less {x y : Item} : decide (ordI x y < 0) = lessI x y := by
  rw [← ltOf_ord]
  rfl
theorem seen_le (ps : List Nat) : ∀ (s : Nat → Bool) (i : Nat), s i = true → (ps.foldl setB s) i = true := by
  induction ps with
  | nil => exact fun _ _ h => h
  | cons p ps ih =>
    intro s i h
    refine ih _ i ?_
    show (bif Nat.beq i p then true else s i) = true
    rw [h]
    cases Nat.beq i p <;> rfl
theorem seen_not (ps : List Nat) : ∀ (s : Nat → Bool) (i : Nat), s i = false → i ∉ ps → (ps.foldl setB s) i = false := by
  induction ps with
  | nil => exact fun _ _ h _ => h
  | cons p ps ih =>
    intro s i h hm
    simp only [List.mem_cons, not_or] at hm
    refine ih _ i ?_ hm.2
    show (bif Nat.beq i p then true else s i) = false
    rw [beq_f hm.1]
    exact h
theorem cnt_foldl (ps : List Nat) (s : Nat → Bool) (n : Nat) : cntB (ps.foldl setB s) n ≤ cntB s n := cntB_le (seen_le ps s)

section
variable {a : Ar}
theorem two_nd {g : Int} {x : Item} {s c d : Int} : nodeEq (ndOf g x s c d) (two (ndOf g x s c d)) = true := by
  simp [nodeEq, two, ndOf]
theorem may_zero {k : Nat} {least : Item} {seen : Nat → Bool} {left sum : Int} : mayF a (k + 1) 0 least seen left sum = (sum, seen) := rfl
/-- What may tells of a forest that is a heap's. -/
theorem may_rep : ∀ (F : Fo) (k : Nat) (r : Int) (least : Item) (seen : Nat → Bool) (left sum : Int), Rep a r F → Heapy least F → (∀ p ∈ F.places, seen p = false) → F.places.Nodup → 0 ≤ sum → sum + F.size ≤ left → left ≤ 1000000 → cntB seen a.nodes.n < k →
    mayF a k r least seen left sum = (sum + F.size, F.places.foldl setB seen)
  | .nil, k, r, least, seen, left, sum, hr, _, _, _, _, _, _, hk => by
    have hr : r = 0 := hr
    subst hr
    obtain ⟨k, rfl⟩ : ∃ q, k = q + 1 := ⟨k - 1, by omega⟩
    rw [may_zero]
    show (sum, seen) = (sum + ((0 : Nat) : Int), seen)
    simp
  | .node p x kd nx, k, r, least, seen, left, sum, hr, hh, hs, hn, h0, hl, hm, hk => by
    obtain ⟨hat, hnd, hrk, hrn⟩ := hr
    obtain ⟨hle, hhk, hhn⟩ := hh
    obtain ⟨k, rfl⟩ : ∃ q, k = q + 1 := ⟨k - 1, by omega⟩
    have hsz : (Fo.node p x kd nx).size = kd.size + 1 + nx.size := rfl
    rw [hsz] at hl ⊢
    have hpl : (Fo.node p x kd nx).places = p :: (kd.places ++ nx.places) := rfl
    rw [hpl] at hs hn ⊢
    obtain ⟨hp1, hp2⟩ := List.nodup_cons.1 hn
    obtain ⟨hnk, hnn, hdis⟩ := List.nodup_append.1 hp2
    have hps : seen p = false := hs p (by simp)
    have hcnt := cntB_set (n := a.nodes.n) hat.lt hps
    obtain ⟨g1, g2⟩ := hat.get
    have hN : getN a r = ndOf (a.nodes.at_ p).gen x ((kd.size : Int) + 1) (a.nodes.at_ p).k0 (a.nodes.at_ p).k1 := g2.trans hnd
    have hplr : (plOf r).toNat = p := by
      rw [hat.pl]
      rfl
    have hr0 : (r == 0) = false := by simpa using hat.ok.2
    have hbad : mayBad a r least seen left sum = false := by
      unfold mayBad
      rw [hN, g1, hplr, hps, ord_less]
      rw [decide_eq_false (by omega : ¬ sum ≥ left)]
      show lessI x least = false
      exact hle
    have hkid := may_rep kd k (a.nodes.at_ p).k0 x (setB seen p) (left - sum - 1) 0 hrk hhk (fun q hq => by
      show (bif Nat.beq q p then true else seen q) = false
      rw [beq_f (fun e => hp1 (by rw [← e]; simp [hq]))]
      exact hs q (by simp [hq])) hnk (by omega) (by omega) (by omega) (by omega)
    have hw : IntKind.i64.wrap (IntKind.i64.wrap (left - sum) - 1) = left - sum - 1 := by
      rw [i64_small (x := left - sum) (by omega) (by omega), i64_small (by omega) (by omega)]
    have hit : itmOf (getN a r) = x := by
      rw [hN]
      rfl
    have hk0 : (getN a r).k0 = (a.nodes.at_ p).k0 := by rw [g2]
    have hk1 : (getN a r).k1 = (a.nodes.at_ p).k1 := by rw [g2]
    have hbad2 : mayBad2 (getN a r) (0 + (kd.size : Int)) = false := by
      unfold mayBad2
      rw [hN, two_nd, decide_eq_false (by omega : ¬ (0 + (kd.size : Int)) < 0), i64_small (by omega) (by omega)]
      show (0 + (kd.size : Int) + 1 != (kd.size : Int) + 1) = false
      simp
    have hnext := may_rep nx k (a.nodes.at_ p).k1 least (kd.places.foldl setB (setB seen p)) left (sum + (kd.size : Int) + 1) hrn hhn (fun q hq => by
      refine seen_not _ _ _ ?_ fun hm => hdis q hm q hq rfl
      show (bif Nat.beq q p then true else seen q) = false
      rw [beq_f (fun e => hp1 (by rw [← e]; simp [hq]))]
      exact hs q (by simp [hq])) hnn (by omega) (by omega) hm (by
      have := cnt_foldl kd.places (setB seen p) a.nodes.n
      omega)
    rw [mayF, hr0, hbad]
    simp only [cond_false]
    rw [hplr, hit, hk0, hk1, hw, hkid]
    simp only [hbad2, cond_false]
    have hw2 : IntKind.i64.wrap (IntKind.i64.wrap (sum + (0 + (kd.size : Int))) + 1) = sum + (kd.size : Int) + 1 := by
      rw [i64_small (x := sum + (0 + (kd.size : Int))) (by omega) (by omega), i64_small (by omega) (by omega)]
      omega
    rw [hw2, hnext, List.foldl_cons, List.foldl_append]
    congr 1
    push_cast
    omega
end
end Go.Proofs.Ytadgjhbhghhbgaa.Abs
