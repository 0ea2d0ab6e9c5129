/-
  WHAT A BODY LEAVES, TOLD IN FEW WORDS: blocks that nobody needs are dropped, the others named anew; slices that are compared with nil; an empty slice as one of our own.
-/
import Derived.Test.YtndfcbcmeeemfaaR2
namespace Go.Proofs.Ytndfcbcmeeemfaa.Abs
open Go

section
variable {K : Nat} {P : Program} {T : Lays} {S : St} {Q : Exit → St → Prop}

def BLe (x y : ABlk) : Prop := ∀ w O μ k, BRel w O μ k x → BRel w O μ k y
theorem BLe.of_eq {x y : ABlk} (h : x = y) : BLe x y := h ▸ fun _ _ _ _ h => h
theorem BLe.rows {ty e n n' : Nat} {c c' : Nat → Nat → IV} (hn : n' = n) (hc : ∀ i j, i < n → j < e → ILe (c i j) (c' i j)) : BLe (.rows ty e n c) (.rows ty e n' c') := by
  subst hn
  rintro w O μ k (⟨h1, h2⟩ | ⟨m, cur, h1, h2, h3, h4⟩)
  · exact .inl ⟨h1, h2⟩
  · refine .inr ⟨m, cur, h1, h2, h3, fun i hi j hj => ?_⟩
    obtain ⟨u, hu, hr⟩ := h4 i hi j hj
    exact ⟨u, hu, hc i j hi hj w O u hr⟩

/-- The end of a body whose own blocks are told by L (the canonical names' real ones). -/
def EndsE (Bs : List ABlk) (L : List Nat) (res : SV) (post : Nat → Option ABlk) (x : SV) (H' : Nat → Option ABlk) (n' : Nat) : Prop :=
  nodupB L = true ∧ (∀ b ∈ L, b < n') ∧ (∀ j, j < Bs.length → L[j]? = some j) ∧ SLe x (renS (rho L n') res) ∧
  (∀ (j : Nat) b, L[j]? = some b → ∀ B, post j = some B → ∃ B0, H' b = some B0 ∧ BLe B0 (renB (rho L n') B)) ∧ ∀ j, L.length ≤ j → post j = none

theorem ACall_norm {f : FuncId} {args : List CV} {Bs : List ABlk} {res : SV} {upd : List (Nat × Option ABlk)} {cnt : Nat}
    (h : ACall P f args (heapOf Bs) Bs.length fun x H' n' => ∃ L : List Nat, L.length = Bs.length + cnt ∧ EndsE Bs L res (updH (heapOf Bs) upd) x H' n') :
    ACall P f args (heapOf Bs) Bs.length fun x H' n' => x = res ∧ H' = updH (heapOf Bs) upd ∧ n' = Bs.length + cnt := by
  intro F μ w vals hH hA
  refine (h F μ w vals hH hA).mono ?_
  rintro e w' ⟨v, μ1, x, H', n', rfl, hext, hH', hs, L, hL, hnd, hlt, hold, hle, hB, hpost⟩
  have hnd := nodupB_iff _ hnd
  generalize hρ : rho L n' = ρ
  rw [hρ] at hle hB
  have hinj : ∀ j k, ρ j = ρ k → j = k := by subst hρ; exact fun j k h => rho_inj hnd hlt h
  have hget : ∀ j b, L[j]? = some b → ρ j = b := by subst hρ; exact fun j b h => rho_old h
  have hnew : ∀ j, L.length ≤ j → ρ j = n' + (j - L.length) := by subst hρ; exact fun j h => rho_new h
  let μ2 : Nat → Option Nat := fun k => μ1 (ρ k)
  have hsome : ∀ j, (updH (heapOf Bs) upd j).isSome = true → j < L.length ∧ (H' (ρ j)).isSome = true := by
    intro j hj
    have hjl : j < L.length := by
      rcases Nat.lt_or_ge j L.length with h | h
      · exact h
      · rw [hpost j h] at hj; cases hj
    refine ⟨hjl, ?_⟩
    obtain ⟨B, hBj⟩ := Option.isSome_iff_exists.1 hj
    obtain ⟨B0, hB0, _⟩ := hB j _ (List.getElem?_eq_getElem hjl) B hBj
    rw [hget j _ (List.getElem?_eq_getElem hjl), hB0]
    rfl
  have hsub : ∀ m, Own F (updH (heapOf Bs) upd) μ2 m → Own F H' μ1 m := by
    rintro m (hF | ⟨k, hk, hm⟩)
    · exact .inl hF
    · exact .inr ⟨ρ k, (hsome k hk).2, hm⟩
  have hout : ∀ k, L.length ≤ k → μ2 k = none := by
    intro k hk
    cases h : μ2 k with
    | none => rfl
    | some m => have := (hH'.lt _ m h).1; have := hnew k hk; omega
  have hext2 : Ext F w' (Own F H' μ1) μ1 w' (Own F (updH (heapOf Bs) upd) μ2) μ1 := ext_sub hsub
  refine ⟨v, μ2, res, updH (heapOf Bs) upd, Bs.length + cnt, rfl, ?_, ⟨fun k B hk => ?_, fun k k' m hk hk' hm hm' => ?_, fun k m hm => ?_, fun k m hk hm => ?_, hH'.frn⟩, ?_, rfl, rfl, rfl⟩
  · have := hext.trans hext2
    refine ⟨this.os, this.tape, this.output, this.size, this.keep, this.shape, fun k m hm => ?_, this.owned, this.frn, this.frz⟩
    have hk := (hH.lt k m hm).1
    show μ1 (ρ k) = some m
    rw [hget k k (hold k hk)]
    exact hext.mu k m hm
  · have h1 := hsome k (by rw [hk]; rfl)
    refine ⟨by omega, ?_⟩
    obtain ⟨B0, hB0, hBle⟩ := hB k _ (List.getElem?_eq_getElem h1.1) B hk
    have h2 := (hH'.blk _ B0 hB0).2
    have h3 := hBle _ _ _ _ h2
    rw [← hget k _ (List.getElem?_eq_getElem h1.1)] at h3
    have h4 := (renB_rel k B).1 h3
    exact h4.mono (F := F) (μ' := μ2) (w' := w') (ext_sub (F := F) (w := w') (μ := μ2) hsub) rfl fun _ _ => rfl
  · exact hinj _ _ (hH'.inj _ _ m (hsome k hk).2 (hsome k' hk').2 hm hm')
  · refine ⟨?_, (hH'.lt _ m hm).2⟩
    rcases Nat.lt_or_ge k L.length with h | h
    · omega
    · rw [hout k h] at hm; cases hm
  · exact hH'.dis _ m (hsome k hk).2 hm
  · have h1 := hle _ _ _ _ hs
    have h2 := (renS_rel res v).1 h1
    exact SRel.mono (F := F) (μ := μ2) (μ' := μ2) (ext_sub (F := F) (w := w') (μ := μ2) hsub) h2

/-- An empty slice in a slot is one of our own, of no block. -/
theorem AW_own_empty (t ty e : Nat) (cell : Nat → Nat → IV) {c : Code} {n nx : Nat} {E : Nat → SV} {H : Nat → Option ABlk} {e' n' : Nat} {cell' : Nat → Nat → IV} (hE : E t = .cv (.one (.imm (.sl e' n' true cell')))) (hn : n' = 0) (ht : Nat.blt t n = true)
    (h : AW K P c Q ⟨n, putE1 E t (.cv (.one (.osl nx e 0 0 0 true))), updH H [(nx, some (.rows ty e 0 cell))], nx + 1⟩) : AW K P c Q ⟨n, E, H, nx⟩ := by
  intro C μ a w hR
  obtain ⟨h1, h2⟩ := step_absent (w := w) hR.heap (ty := ty) (e := e) (cell := cell)
  refine h C μ a w ⟨hR.defers, hR.size, fun t' => ?_, h2, hR.ext.trans h1⟩
  show SRel w _ μ (putE1 E t _ t') _
  unfold putE1
  cases hb : Nat.beq t' t with
  | false => exact (hR.env t').mono h1
  | true =>
    obtain rfl := Nat.eq_of_beq_eq_true hb
    have h3 := hR.env t'
    have hE : E t' = _ := hE
    have h3 : SRel w (Own C.F H μ) μ (E t') _ := h3
    rw [hE] at h3
    have h4 : IRel w (Own C.F H μ) (.sl e' n' true cell') (a.tmps.getD t' Go.undef) := h3
    rcases h4 with ⟨h5, _⟩ | ⟨b, o, cap, h5, _, _, h6, _⟩
    · exact .inl ⟨rfl, h5⟩
    · subst hn
      rw [h6 rfl] at h5
      exact .inl ⟨rfl, _, h5⟩
end
end Go.Proofs.Ytndfcbcmeeemfaa.Abs
