/-
  THE CONTRACTS OF PACKAGE word (4): 'call' with each of the function literals, as a table.
-/
import Derived.Test.YtndfcbcmeeemfaaW3
namespace Go.Proofs.Ytndfcbcmeeemfaa.Abs
open Go
set_option maxRecDepth 10000

/-- Cells that are words. -/
def wordsAt (cell : Nat → Nat → IV) (i : Nat) : Int := ivInt (cell i 0)
def isWords (n : Nat) (cell : Nat → Nat → IV) : Prop := ∀ i, i < n → cell i 0 = .val (.int .u64 (wordsAt cell i))
theorem words_le {n : Nat} {ex : Bool} {cell : Nat → Nat → IV} (h : isWords n cell) : CLe (.one (.imm (.sl 1 n ex cell))) (.one (uS n ex (wordsAt cell))) :=
  CLe.imm (ILe.sl rfl id (.inr ⟨rfl, fun i j hi hj => by
    obtain rfl : j = 0 := by omega
    exact ILe.of_eq (h i hi)⟩))
def capInt (c : Nat → IV) : Int := ivInt (c 0)
def isCap (c : Nat → IV) : Prop := c = fun q => [IV.val (.int .u64 (capInt c))].getD q ivDef

def callG (f nc : Nat) (caps : Nat → AV) : Option ((Int → Int × Int) × Prop) :=
  bif Nat.beq f 40 && Nat.beq nc 0 then some (fun v => (v, v), True)
  else bif Nat.beq f 42 && Nat.beq nc 0 then some (fun v => (v, v), True)
  else bif Nat.beq f 41 && Nat.beq nc 1 then match caps 0 with
    | .vptr 1 c => some (fun _ => (capInt c, 0), isCap c)
    | _ => none
  else bif Nat.beq f 39 && Nat.beq nc 1 then match caps 0 with
    | .vptr 1 c => some (fun v => (IntKind.u64.wrap (v + capInt c), v), isCap c)
    | _ => none
  else bif Nat.beq f 43 && Nat.beq nc 1 then match caps 0 with
    | .vptr 4 c => some (fun _ => (ivInt (c 2), 0), c = fun q => (stepL (ivInt (c 0)) (ivInt (c 1)) (ivInt (c 2)) (ivInt (c 3))).getD q ivDef)
    | _ => none
  else bif Nat.beq f 38 && Nat.beq nc 2 then match caps 0, caps 1 with
    | .vptr 1 c, .vptr 1 d => some (fun v => casG (capInt c) (capInt d) v, isCap c ∧ isCap d)
    | _, _ => none
  else none

def LitOk (f nc : Nat) (first caps : Nat → AV) (g : Int → Int × Int) : Prop :=
  CallOk Try.prog f ∧ immAV (.fn (.func f) 0 first nc caps) = true ∧ ∀ v, PCall Try.prog f (fnList 0 first ++ ([iu v] ++ fnList nc caps)) (.tup [iu (g v).1, iu (g v).2])

theorem cap_vp {c : Nat → IV} (h : isCap c) : AV.vptr 1 c = vp (capInt c) := by
  unfold vp vpl
  rw [AV.vptr.injEq]
  exact ⟨rfl, h⟩

theorem callG_ok {f nc : Nat} {first caps : Nat → AV} {g : Int → Int × Int} {p : Prop} (h : callG f nc caps = some (g, p)) (hp : p) : LitOk f nc first caps g := by
  have c1 : ∀ (c : Nat → AV) (x : AV), c 0 = x → immAV x = true → immAV (.fn (.func f) 0 first 1 c) = true := fun c x h0 hx => by simp [immAV, h0, hx, List.range_succ]
  unfold callG at h
  cases b0 : (Nat.beq f 40 && Nat.beq nc 0) with
  | true =>
    rw [b0] at h
    simp only [cond_true, Option.some.injEq, Prod.mk.injEq] at h
    obtain ⟨rfl, rfl⟩ := h
    rw [Bool.and_eq_true] at b0
    obtain rfl := Nat.eq_of_beq_eq_true b0.1
    obtain rfl := Nat.eq_of_beq_eq_true b0.2
    exact ⟨rfl, by simp [immAV], fun v => lit40 v⟩
  | false =>
  rw [b0] at h
  cases b1 : (Nat.beq f 42 && Nat.beq nc 0) with
  | true =>
    rw [b1] at h
    simp only [cond_true, cond_false, Option.some.injEq, Prod.mk.injEq] at h
    obtain ⟨rfl, rfl⟩ := h
    rw [Bool.and_eq_true] at b1
    obtain rfl := Nat.eq_of_beq_eq_true b1.1
    obtain rfl := Nat.eq_of_beq_eq_true b1.2
    exact ⟨rfl, by simp [immAV], fun v => lit42 v⟩
  | false =>
  rw [b1] at h
  cases b2 : (Nat.beq f 41 && Nat.beq nc 1) with
  | true =>
    rw [b2] at h
    simp only [cond_true, cond_false] at h
    rw [Bool.and_eq_true] at b2
    obtain rfl := Nat.eq_of_beq_eq_true b2.1
    obtain rfl := Nat.eq_of_beq_eq_true b2.2
    split at h
    · rename_i c hc
      simp only [Option.some.injEq, Prod.mk.injEq] at h
      obtain ⟨rfl, rfl⟩ := h
      refine ⟨rfl, c1 caps _ hc rfl, fun v => ?_⟩
      have := lit41 v (capInt c)
      rw [← cap_vp hp, ← hc] at this
      exact this
    · cases h
  | false =>
  rw [b2] at h
  cases b3 : (Nat.beq f 39 && Nat.beq nc 1) with
  | true =>
    rw [b3] at h
    simp only [cond_true, cond_false] at h
    rw [Bool.and_eq_true] at b3
    obtain rfl := Nat.eq_of_beq_eq_true b3.1
    obtain rfl := Nat.eq_of_beq_eq_true b3.2
    split at h
    · rename_i c hc
      simp only [Option.some.injEq, Prod.mk.injEq] at h
      obtain ⟨rfl, rfl⟩ := h
      refine ⟨rfl, c1 caps _ hc rfl, fun v => ?_⟩
      have := lit39 v (capInt c)
      rw [← cap_vp hp, ← hc] at this
      exact this
    · cases h
  | false =>
  rw [b3] at h
  cases b4 : (Nat.beq f 43 && Nat.beq nc 1) with
  | true =>
    rw [b4] at h
    simp only [cond_true, cond_false] at h
    rw [Bool.and_eq_true] at b4
    obtain rfl := Nat.eq_of_beq_eq_true b4.1
    obtain rfl := Nat.eq_of_beq_eq_true b4.2
    split at h
    · rename_i c hc
      simp only [Option.some.injEq, Prod.mk.injEq] at h
      obtain ⟨rfl, rfl⟩ := h
      refine ⟨rfl, c1 caps _ hc rfl, fun v => ?_⟩
      have := lit43 v (ivInt (c 0)) (ivInt (c 1)) (ivInt (c 2)) (ivInt (c 3))
      have e : vpl (stepL (ivInt (c 0)) (ivInt (c 1)) (ivInt (c 2)) (ivInt (c 3))) = caps 0 := by
        rw [hc]
        unfold vpl
        rw [AV.vptr.injEq]
        exact ⟨rfl, hp.symm⟩
      rw [e] at this
      exact this
    · cases h
  | false =>
  rw [b4] at h
  cases b5 : (Nat.beq f 38 && Nat.beq nc 2) with
  | true =>
    rw [b5] at h
    simp only [cond_true, cond_false] at h
    rw [Bool.and_eq_true] at b5
    obtain rfl := Nat.eq_of_beq_eq_true b5.1
    obtain rfl := Nat.eq_of_beq_eq_true b5.2
    split at h
    · rename_i c d hc hd
      simp only [Option.some.injEq, Prod.mk.injEq] at h
      obtain ⟨rfl, rfl⟩ := h
      refine ⟨rfl, by simp [immAV, hc, hd, List.range_succ], fun v => ?_⟩
      have := lit38 v (capInt c) (capInt d)
      rw [← cap_vp hp.1, ← cap_vp hp.2, ← hc, ← hd] at this
      exact this
    · cases h
  | false => rw [b5] at h; simp at h

def tabW : Tab := tabAdd 37 (fun args => match args with
  | [.one (.imm (.sl 1 n _ cell)), .one (.imm (.val (.int .i64 at_))), .one (.fn (.func f) 0 _ nc caps)] => match callG f nc caps with
    | some (g, p) => some (callV n (wordsAt cell) at_ g, isWords n cell ∧ p)
    | none => none
  | _ => none) tabR
theorem tabW_ok : TabOk Try.prog tabW := by
  refine tabAdd_ok rfl (fun args r p h hp => ?_) tabR_ok
  split at h
  · rename_i n ex cell at_ f first nc caps
    split at h
    · rename_i g q hg
      simp only [Option.some.injEq, Prod.mk.injEq] at h
      obtain ⟨rfl, rfl⟩ := h
      obtain ⟨h1, h2, h3⟩ := callG_ok (first := first) hg hp.2
      have := call37 n ex (wordsAt cell) at_ f nc first caps h2 h1 g h3
      exact this.args (TLe.cons (words_le hp.1) (TLe.refl _))
    · cases h
  · cases h
end Go.Proofs.Ytndfcbcmeeemfaa.Abs
