/-
  SMALL CLOSERS FOR BODIES BY RECKONING: ends that are integers, truth values, strings; counters; lengths. No program in sight.
-/
import Derived.Test.YtmpddomgiplnmaaDoorV1
namespace Go.Proofs.YtmpddomgiplnmaaDoor.Abs
open Go

theorem sE {x : SV} : SEnd x x := SEnd.eq rfl
theorem bE {x : ABlk} : BEnd x x := BEnd.eq rfl
/-- What a truth value says. -/
class PB (b : Bool) (p : outParam Prop) : Prop where
  iff : b = true ↔ p
instance (priority := low) PB.any (b : Bool) : PB b (b = true) := ⟨Iff.rfl⟩
instance PB.dec (p : Prop) [Decidable p] : PB (decide p) p := ⟨decide_eq_true_iff⟩
instance PB.nt (a : Bool) (p : Prop) [h : PB a p] : PB (!a) (¬p) := ⟨by rw [← h.iff]; cases a <;> simp⟩
instance PB.eqt (a : Bool) (p : Prop) [h : PB a p] : PB (a == true) p := ⟨by rw [← h.iff]; cases a <;> simp⟩
instance PB.eqf (a : Bool) (p : Prop) [h : PB a p] : PB (a == false) (¬p) := ⟨by rw [← h.iff]; cases a <;> simp⟩
instance PB.eqI (a b : Int) : PB (a == b) (a = b) := ⟨beq_iff_eq⟩
instance PB.neI (a b : Int) : PB (a != b) (a ≠ b) := ⟨bne_iff_ne⟩
instance PB.andc (a b : Bool) (p q : Prop) [h : PB a p] [k : PB b q] : PB (bif a then b else false) (p ∧ q) := ⟨by rw [← h.iff, ← k.iff]; cases a <;> cases b <;> simp⟩
instance PB.orc (a b : Bool) (p q : Prop) [h : PB a p] [k : PB b q] : PB (bif a then true else b) (p ∨ q) := ⟨by rw [← h.iff, ← k.iff]; cases a <;> cases b <;> simp⟩
instance PB.and (a b : Bool) (p q : Prop) [h : PB a p] [k : PB b q] : PB (a && b) (p ∧ q) := ⟨by rw [← h.iff, ← k.iff]; cases a <;> cases b <;> simp⟩
instance PB.or (a b : Bool) (p q : Prop) [h : PB a p] [k : PB b q] : PB (a || b) (p ∨ q) := ⟨by rw [← h.iff, ← k.iff]; cases a <;> cases b <;> simp⟩
theorem sEq_iff {a b : ByteArray} : sEq a b = true ↔ a = b := by
  unfold sEq
  rw [ByteArray.toList_eq, ByteArray.toList_eq, beq_iff_eq]
  exact ⟨fun h => ByteArray.ext (Array.toList_inj.1 h), fun h => by rw [h]⟩
theorem sEq_data (a b : ByteArray) : sEq a b = decide (a.data.toList = b.data.toList) := by
  unfold sEq
  rw [ByteArray.toList_eq, ByteArray.toList_eq, Bool.eq_iff_iff, beq_iff_eq, decide_eq_true_iff]
instance PB.str (a b : ByteArray) : PB (sEq a b) (a = b) := ⟨sEq_iff⟩
theorem iT {b : Bool} {p X : Prop} [h : PB b p] (k : p → b = true → X) : b = true → X := fun e => k (h.iff.1 e) e
theorem iF {b : Bool} {p X : Prop} [h : PB b p] (k : ¬p → b = false → X) : b = false → X := fun e => k (fun hp => by rw [h.iff.2 hp] at e; cases e) e
theorem sI {k : IntKind} {a b : Int} (h : a = b) : SEnd (.cv (.one (.imm (.val (.int k a))))) (.cv (.one (.imm (.val (.int k b))))) := SEnd.eq (by rw [h])
theorem sW {a b : Int} (h : a = b) (h1 : -9223372036854775808 ≤ b) (h2 : b ≤ 9223372036854775807) : SEnd (.cv (.one (.imm (.val (.int .i64 (IntKind.i64.wrap a)))))) (.cv (.one (.imm (.val (.int .i64 b))))) := SEnd.eq (by
  rw [h, IntKind.wrap_i64]
  have : (b + 9223372036854775808) % 18446744073709551616 - 9223372036854775808 = b := by omega
  simp only [this])
theorem sB {a b : Bool} (h : a = b) : SEnd (.cv (.one (.imm (.val (.bool a))))) (.cv (.one (.imm (.val (.bool b))))) := SEnd.eq (by rw [h])
theorem sS {a b : ByteArray} (h : a = b) : SEnd (.cv (.one (.imm (.val (.string a))))) (.cv (.one (.imm (.val (.string b))))) := SEnd.eq (by rw [h])
theorem sP {a b c d : CV} (h1 : SEnd (.cv a) (.cv c)) (h2 : SEnd (.cv b) (.cv d)) : SEnd (.tup [a, b]) (.tup [c, d]) := ⟨SLe.pair (fun w O μ v h => h1.le w O μ v h) fun w O μ v h => h2.le w O μ v h⟩
theorem sT {a b c d e f : CV} (h1 : SEnd (.cv a) (.cv d)) (h2 : SEnd (.cv b) (.cv e)) (h3 : SEnd (.cv c) (.cv f)) : SEnd (.tup [a, b, c]) (.tup [d, e, f]) := ⟨SLe.triple (fun w O μ v h => h1.le w O μ v h) (fun w O μ v h => h2.le w O μ v h) fun w O μ v h => h3.le w O μ v h⟩
theorem sC {α : Type} (e : Enc α) {x y : α} (h : x = y) : SEnd (.cv (.agg (agL e x))) (.cv (.agg (agL e y))) := SEnd.eq (by rw [h])
theorem sF {x : SV} {ρ : Nat → Nat} (h : immSV x = true) : SEnd x (renS ρ x) := ⟨imm_ren h⟩
theorem ILe.mp {ka va : Bool} {kks : List IntKind} {vn : Nat} {dom dom' : List Int → Bool} {val val' : List Int → Nat → IV} (hd : ∀ ks, dom ks = dom' ks) (hv : ∀ ks j, dom ks = true → j < vn → ILe (val ks j) (val' ks j)) : ILe (.mp ka kks va vn dom val) (.mp ka kks va vn dom' val') := by
  rintro w O v ⟨m, es, clock, g1, g2, g3, g4, g5, g6, g7⟩
  refine ⟨m, es, clock, g1, g2, g3, g4, g5, fun e he => ?_, fun ks h => g7 ks ((hd ks).trans h)⟩
  obtain ⟨ks, p1, p2, p3, cs, p4, p5, p6⟩ := g6 e he
  exact ⟨ks, p1, (hd ks).symm.trans p2, p3, cs, p4, p5, fun j u hu => hv ks j p2 (p5 ▸ (List.getElem?_eq_some_iff.1 hu).1) w O u (p6 j u hu)⟩
theorem sM {x y : IV} (h : ILe x y) : SEnd (.cv (.one (.imm x))) (.cv (.one (.imm y))) := ⟨SLe.cv (CLe.imm h)⟩
theorem bR {ty e n n' : Nat} {c c' : Nat → Nat → IV} (hn : n' = n) (hc : ∀ i j, i < n → j < e → c i j = c' i j) : BEnd (.rows ty e n c) (.rows ty e n' c') := ⟨BLe.rows hn fun i j hi hj => ILe.of_eq (hc i j hi hj)⟩
theorem sR {e n n' : Nat} {ex : Bool} {c c' : Nat → Nat → IV} (hn : n' = n) (hc : ∀ i j, i < n → j < e → c i j = c' i j) : SEnd (.cv (.one (.imm (.sl e n ex c)))) (.cv (.one (.imm (.sl e n' false c')))) := sM (ILe.sl hn (fun h => by cases h) (.inr ⟨rfl, fun i j hi hj => ILe.of_eq (hc i j hi hj)⟩))
theorem sL {b e r j n n' : Nat} {app : Bool} (h : n = n') : SEnd (.cv (.one (.osl b e r j n app))) (.cv (.one (.osl b e r j n' app))) := SEnd.eq (by rw [h])
theorem bok {n b : Nat} (hn : n ≤ 100000000) (hb : b ≤ 1000000) : n * b ≤ 140737488355328 := Nat.le_trans (Nat.mul_le_mul hn hb) (by decide)
/-- One row more, behind the others. -/
theorem rowS {f : Nat → IV} {x : IV} {i q : Nat} (hq : q < i + 1) (h : x = f i) : (bif Nat.blt q i then f q else [x].getD ((0 + (q - i)) * 1 + 0) ivDef) = f q := by
  rcases Nat.lt_or_ge q i with h1 | h1
  · rw [blt_t h1]
    rfl
  · obtain rfl : q = i := by omega
    rw [blt_f (Nat.le_refl _), Nat.sub_self]
    exact h
theorem cNil {e e' : Nat} {ex : Bool} {c c' : Nat → Nat → IV} : CLe (.one (.imm (.sl e 0 ex c))) (.one (.imm (.sl e' 0 false c'))) := CLe.imm (ILe.sl rfl (fun h => by cases h) (.inl rfl))
theorem sAg {l m : List AV} (h : LLe l m) : SEnd (.cv (.agg l)) (.cv (.agg m)) := ⟨SLe.cv (CLe.aggL h)⟩
theorem bV {ty : TypeId} {l m : List AV} (h : LLe l m) : BEnd (.var ty l) (.var ty m) := ⟨BLe.var h⟩
theorem cL {b e r j n n' : Nat} {app : Bool} (h : n = n') : CLe (.one (.osl b e r j n app)) (.one (.osl b e r j n' app)) := CLe.of_eq (by rw [h])
theorem blt0 (q : Nat) : Nat.blt q 0 = false := by cases q <;> rfl
theorem slOk_1 {α : Type} {e : Enc α} {ex : Bool} {c : Nat → Nat → IV} (h0 : e.ok (c 0)) : slOk e (.sl e.k 1 ex c) := .inr ⟨rfl, fun i hi => by
  match i, hi with
  | 0, _ => exact h0⟩
theorem slOk_2 {α : Type} {e : Enc α} {ex : Bool} {c : Nat → Nat → IV} (h0 : e.ok (c 0)) (h1 : e.ok (c 1)) : slOk e (.sl e.k 2 ex c) := .inr ⟨rfl, fun i hi => by
  match i, hi with
  | 0, _ => exact h0
  | 1, _ => exact h1⟩
def str (b : ByteArray) : CV := .one (.imm (.val (.string b)))
theorem AW_lenW (t : Nat) {K : Nat} {P : Program} {Q : Exit → St → Prop} {c : Code} {S : St} {e n : Nat} {ex : Bool} {cell : Nat → Nat → IV} (hE : S.env t = .cv (.one (.imm (.sl e n ex cell)))) (h : n ≤ 9223372036854775807 → AW K P c Q S) : AW K P c Q S :=
  AW_lenle t hE fun hm => h hm
end Go.Proofs.YtmpddomgiplnmaaDoor.Abs
