/-
  LOOPS WHOSE HEADS TELL BLOCKS TOO: at a round's end the blocks that are told are named as at the head; slots and blocks may say less.
-/
import Derived.Test.YtndfcbcmeeemfaaR5
namespace Go.Proofs.Ytndfcbcmeeemfaa.Abs
open Go

section
variable {K : Nat} {P : Program} {T : Lays} {S : St} {Q : Exit → St → Prop}

/-- What S is, in the names and words of S': block k of S' is block L[k] of S. -/
structure LeR (K : Nat) (L : List Nat) (S S' : St) : Prop where
  size : S'.size = S.size
  next : S'.next = L.length
  nd : nodupB L = true
  lt : ∀ b ∈ L, b < S.next
  kept : ∀ j, j < K → L[j]? = some j
  env : ∀ t, SLe (S.env t) (renS (rho L S.next) (S'.env t))
  heap : ∀ k B, S'.heap k = some B → k < L.length ∧ ∃ B0, S.heap (rho L S.next k) = some B0 ∧ BLe B0 (renB (rho L S.next) B)

theorem LeR.rel {C : Ctx K} {L : List Nat} {S S' : St} {μ : Nat → Option Nat} {a : Act} {w : World} (h : LeR K L S S') (hR : Rel C μ S a w) : Rel C (fun k => μ (rho L S.next k)) S' a w := by
  obtain ⟨hsz, hnx, hnd, hlt, hkept, henv, hheap⟩ := h
  have hnd := nodupB_iff _ hnd
  generalize hρ : rho L S.next = ρ
  rw [hρ] at henv hheap
  have hinj : ∀ j k, ρ j = ρ k → j = k := by subst hρ; exact fun j k h => rho_inj hnd hlt h
  have hget : ∀ j b, L[j]? = some b → ρ j = b := by subst hρ; exact fun j b h => rho_old h
  have hnew : ∀ j, L.length ≤ j → ρ j = S.next + (j - L.length) := by subst hρ; exact fun j h => rho_new h
  have hsome : ∀ j, (S'.heap j).isSome = true → j < L.length ∧ (S.heap (ρ j)).isSome = true := by
    intro j hj
    obtain ⟨B, hB⟩ := Option.isSome_iff_exists.1 hj
    obtain ⟨h1, B0, h2, _⟩ := hheap j B hB
    exact ⟨h1, by rw [h2]; rfl⟩
  have hsub : ∀ m, Own C.F S'.heap (fun k => μ (ρ k)) m → Own C.F S.heap μ m := by
    rintro m (hF | ⟨k, hk, hm⟩)
    · exact .inl hF
    · exact .inr ⟨ρ k, (hsome k hk).2, hm⟩
  have hext : Ext C.F w (Own C.F S.heap μ) μ w (Own C.F S'.heap fun k => μ (ρ k)) μ := ext_sub hsub
  refine ⟨hR.defers, hR.size.trans hsz.symm, fun t => ?_, ⟨fun k B hk => ?_, fun k k' m hk hk' hm hm' => ?_, fun k m hm => ?_, fun k m hk hm => ?_, hR.heap.frn⟩, ?_⟩
  · have h1 := henv t _ _ _ _ (hR.env t)
    have h2 := (renS_rel (S'.env t) _).1 h1
    exact SRel.mono (F := C.F) (μ := fun k => μ (ρ k)) (μ' := fun k => μ (ρ k)) (ext_sub (F := C.F) (w := w) (μ := fun k => μ (ρ k)) hsub) h2
  · obtain ⟨h1, B0, h2, h3⟩ := hheap k B hk
    refine ⟨by rw [hnx]; exact h1, ?_⟩
    have h4 := (hR.heap.blk _ B0 h2).2
    have h5 := (renB_rel k B).1 (h3 _ _ _ _ h4)
    exact h5.mono (F := C.F) (μ' := fun k => μ (ρ k)) (w' := w) (ext_sub (F := C.F) (w := w) (μ := fun k => μ (ρ k)) hsub) rfl fun _ _ => rfl
  · exact hinj _ _ (hR.heap.inj _ _ m (hsome k hk).2 (hsome k' hk').2 hm hm')
  · refine ⟨?_, (hR.heap.lt _ m hm).2⟩
    rw [hnx]
    rcases Nat.lt_or_ge k L.length with h | h
    · exact h
    · have h1 := (hR.heap.lt _ m hm).1
      have h2 := hnew k h
      omega
  · exact hR.heap.dis _ m (hsome k hk).2 hm
  · have := hR.ext.trans hext
    refine ⟨this.os, this.tape, this.output, this.size, this.keep, this.shape, fun k m hm => ?_, this.owned, this.frn, this.frz⟩
    show μ (ρ k) = some m
    rw [hget k k (hkept k (C.lt0 k m hm))]
    exact hR.ext.mu k m hm

theorem AW_leR {c : Code} {S S' : St} (L : List Nat) (h : LeR K L S S') (hw : AW K P c Q S') : AW K P c Q S := fun C _ a w hR => hw C _ a w (h.rel hR)

def loopQR (K : Nat) {ι : Type} (st : ι → St) (m : ι → Nat) (i : ι) (Q : Exit → St → Prop) : Exit → St → Prop
  | .normal, S => ∃ j L, LeR K L S (st j) ∧ m j < m i
  | e, S => Q e S

theorem AW_loopR {c : Code} {ι : Type} (st : ι → St) (m : ι → Nat) (i : ι) (L : List Nat) (h0 : LeR K L S (st i)) (round : ∀ j, AW K P c (loopQR K st m j Q) (st j)) : AW K P (.loop c) Q S := by
  intro C μ a w hR
  refine wp_loop_ghost (fun n a w => ∃ j μ, m j = n ∧ Rel C μ (st j) a w) (m i) ⟨i, _, rfl, h0.rel hR⟩ ?_
  rintro n a' w' ⟨j, μ', rfl, hR'⟩
  refine wp_mono (round j C μ' a' w' hR') ?_
  rintro e a2 w2 ⟨μ2, S2, hR2, hq⟩
  cases e with
  | normal =>
    obtain ⟨j', L', hle, hlt⟩ := hq
    exact ⟨m j', hlt, j', _, rfl, hle.rel hR2⟩
  | _ => exact ⟨μ2, S2, hR2, hq⟩

def heapL : List (Nat × ABlk) → Nat → Option ABlk
  | [], _ => none
  | (k, B) :: l, t => bif Nat.beq t k then some B else heapL l t

/-- What the list tells is so, or less is told. -/
def allLe (ρ : Nat → Nat) (E : Nat → SV) : List (Nat × SV) → Prop
  | [] => True
  | (k, x) :: l => SLe (E k) (renS ρ x) ∧ allLe ρ E l

def allBLe (ρ : Nat → Nat) (n : Nat) (H : Nat → Option ABlk) : List (Nat × ABlk) → Prop
  | [] => True
  | (k, B) :: l => (Nat.blt k n = true ∧ ∃ B0, H (ρ k) = some B0 ∧ BLe B0 (renB ρ B)) ∧ allBLe ρ n H l

theorem envL_leR {ρ : Nat → Nat} {E : Nat → SV} : ∀ (l : List (Nat × SV)), allLe ρ E l → ∀ t, SLe (E t) (renS ρ (envL l t))
  | [], _, _ => fun _ _ _ _ _ => trivial
  | (k, x) :: l, h, t => by
    simp only [envL]
    cases hb : Nat.beq t k with
    | true => rw [Nat.eq_of_beq_eq_true hb]; exact h.1
    | false => exact envL_leR l h.2 t

theorem heapL_leR {ρ : Nat → Nat} {n : Nat} {H : Nat → Option ABlk} : ∀ (l : List (Nat × ABlk)), allBLe ρ n H l → ∀ k B, heapL l k = some B → k < n ∧ ∃ B0, H (ρ k) = some B0 ∧ BLe B0 (renB ρ B)
  | [], _, _, _, h => by cases h
  | (k, x) :: l, h, t, B, hB => by
    simp only [heapL] at hB
    cases hb : Nat.beq t k with
    | true =>
      rw [hb] at hB
      simp only [cond_true, Option.some.injEq] at hB
      subst hB
      rw [Nat.eq_of_beq_eq_true hb]
      exact ⟨Nat.le_of_ble_eq_true h.1.1, h.1.2⟩
    | false => rw [hb] at hB; exact heapL_leR l h.2 t B hB

def keptB (L : List Nat) : Nat → Bool
  | 0 => true
  | k + 1 => (match L[k]? with | some j => Nat.beq j k | none => false) && keptB L k

theorem keptB_iff {L : List Nat} : ∀ K, keptB L K = true → ∀ j, j < K → L[j]? = some j
  | 0, _, j, h => by omega
  | K + 1, h, j, hj => by
    simp only [keptB, Bool.and_eq_true] at h
    rcases Nat.lt_succ_iff_lt_or_eq.1 hj with h1 | h1
    · exact keptB_iff K h.2 j h1
    · subst h1
      cases hL : L[j]? with
      | none => rw [hL] at h; exact absurd h.1 (by simp)
      | some b => rw [hL] at h; rw [Nat.eq_of_beq_eq_true h.1]

def ltB (L : List Nat) (n : Nat) : Bool := L.all fun b => Nat.blt b n

theorem leR_mk {n nx : Nat} {E : Nat → SV} {H : Nat → Option ABlk} {l : List (Nat × SV)} {hp : List (Nat × ABlk)} (L : List Nat) (hnd : (nodupB L && ltB L nx && keptB L K) = true) (hE : allLe (rho L nx) E l) (hH : allBLe (rho L nx) L.length H hp) : LeR K L ⟨n, E, H, nx⟩ ⟨n, envL l, heapL hp, L.length⟩ := by
  simp only [Bool.and_eq_true] at hnd
  refine ⟨rfl, rfl, hnd.1.1, fun b hb => ?_, keptB_iff K hnd.2, envL_leR l hE, heapL_leR hp hH⟩
  have := List.all_eq_true.1 hnd.1.2 b hb
  exact Nat.le_of_ble_eq_true this

/-- A loop whose heads are told by a list of slots and a list of blocks (the names 0, 1, .., below k). -/
theorem AW_loopH {c : Code} {n nx : Nat} {E : Nat → SV} {H : Nat → Option ABlk} {ι : Type} (k : Nat) (l : ι → List (Nat × SV)) (hp : ι → List (Nat × ABlk)) (m : ι → Nat) (i : ι) (L : List Nat) (hk : L.length = k) (hnd : (nodupB L && ltB L nx && keptB L K) = true) (hE : allLe (rho L nx) E (l i)) (hH : allBLe (rho L nx) k H (hp i))
    (round : ∀ j, AW K P c (loopQR K (fun j => ⟨n, envL (l j), heapL (hp j), k⟩) m j Q) ⟨n, envL (l j), heapL (hp j), k⟩) : AW K P (.loop c) Q ⟨n, E, H, nx⟩ := by
  subst hk
  exact AW_loopR (fun j => ⟨n, envL (l j), heapL (hp j), L.length⟩) m i L (leR_mk L hnd hE hH) round

/-- The end of a round. -/
theorem loopH_next {n nx k : Nat} {E : Nat → SV} {H : Nat → Option ABlk} {ι : Type} {l : ι → List (Nat × SV)} {hp : ι → List (Nat × ABlk)} {m : ι → Nat} {i : ι} (j : ι) (L : List Nat) (hk : L.length = k) (hnd : (nodupB L && ltB L nx && keptB L K) = true) (hE : allLe (rho L nx) E (l j)) (hH : allBLe (rho L nx) k H (hp j)) (hm : m j < m i) :
    loopQR K (fun j => ⟨n, envL (l j), heapL (hp j), k⟩) m i Q .normal ⟨n, E, H, nx⟩ := by
  subst hk
  exact ⟨j, L, leR_mk L hnd hE hH, hm⟩

/-- A slot may say less. -/
theorem AW_slot (t : Nat) {x y : SV} {c : Code} {n nx : Nat} {E : Nat → SV} {H : Nat → Option ABlk} (hx : E t = x) (h : SLe x y) (hw : AW K P c Q ⟨n, putE1 E t y, H, nx⟩) : AW K P c Q ⟨n, E, H, nx⟩ := by
  intro C μ a w hR
  refine hw C μ a w ⟨hR.defers, hR.size, fun t' => ?_, hR.heap, hR.ext⟩
  show SRel w _ μ (putE1 E t y t') _
  unfold putE1
  cases hb : Nat.beq t' t with
  | false => exact hR.env t'
  | true =>
    obtain rfl := Nat.eq_of_beq_eq_true hb
    have h1 : SRel w (Own C.F H μ) μ (E t') _ := hR.env t'
    rw [hx] at h1
    exact h _ _ _ _ h1
end
end Go.Proofs.Ytndfcbcmeeemfaa.Abs
