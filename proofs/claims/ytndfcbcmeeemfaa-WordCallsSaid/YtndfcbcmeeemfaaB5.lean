/-
  REGIONS WHOSE ORDER IS OPEN (4): the frame of such a proof, over any relation; a map's literal.
-/
import Derived.Test.YtndfcbcmeeemfaaB4
namespace Go.Proofs.Ytndfcbcmeeemfaa.Abs
open Go

section
variable {P : Program} {T : Lays} {S : St} {Q : Exit → St → Prop}

theorem draw_core {Q' : Exit → Act → World → Prop} {E0 : Nat → SV} (hm : P.follows .mixedOrders = true) {id : Nat} {ops : Array Oper} {tr : List (Option Nat × SV)} (hord : ordOk ops.toList = true) (hlen : tr.length = ops.size)
    (htr0 : ∀ (j : Nat) o, ops[j]? = some o → ∃ x, tr[j]? = some (o.dst, x)) (RS : (Nat → Bool) → Act → World → Prop) {a : Act} {w : World}
    (hstart : RS (fun _ => false) a { w with drawn := w.drawn + 1 })
    (hstep : ∀ (D : Nat → Bool) (i : Nat) o x (a : Act) (w : World), ops[i]? = some o → tr[i]? = some (o.dst, x) → D i = false → (∀ j, Reach ops i j → D j = true) → (∀ j, D j = true → ¬ Reach ops j i) → RS D a w →
      restr (envD D tr E0) (looks ops.toList o) = restr (envD (fun j => Nat.blt j i) tr E0) (looks ops.toList o) →
      envD (fun j => D j || j == i) tr E0 = putE (envD D tr E0) o.dst x → wpOp P ops Q' i (RS fun j => D j || j == i) a w)
    (hend : ∀ (D : Nat → Bool) (a : Act) (w : World), (∀ j, j < ops.size → D j = true) → (∀ j, ops.size ≤ j → D j = false) → RS D a w → Q' .normal a w) : (Code.region id ops true).wp P Q' a w := by
  unfold ordOk at hord
  rw [Bool.and_eq_true] at hord
  have hedges := edgesOk_get ops.toList 0 hord.1
  have hpairs := pairsOk_get ops.toList 0 hord.2
  have hclo : ∀ k i, ((clo [] ops.toList).getD k 0).testBit i = true → Reach ops k i := clo_reach ops.toList [] (fun j o hj => by simpa using hj) fun k i hk => by simp at hk
  have hget' : ∀ (j : Nat) o, ops[j]? = some o → ops.toList[j]? = some o := fun j o hj => by simpa using hj
  have htr : ∀ (j : Nat) d x, tr[j]? = some (d, x) → ∃ o : Oper, ops[j]? = some o ∧ o.dst = d := by
    intro j d x hj
    have hlt : j < ops.size := by
      rw [← hlen]
      exact (List.getElem?_eq_some_iff.1 hj).1
    obtain ⟨x', q⟩ := htr0 j ops[j] (by simp [hlt])
    rw [hj] at q
    simp only [Option.some.injEq, Prod.mk.injEq] at q
    exact ⟨_, by simp [hlt], q.1.symm⟩
  let I : Array Bool → Act → World → Prop := fun listed a w => listed.size = ops.size ∧ (∀ j o, ops[j]? = some o → listed.getD j false = true → ∀ e ∈ o.after, Region.binds .any e = true → listed.getD e.on false = true) ∧
    RS (fun j => listed.getD j false) a w
  refine wp_region_any hm (wpAny_inv I ?_ ?_ ops.size (Array.replicate ops.size false) a _ (by simp) ?_ ?_)
  · rintro listed a w i ⟨hs, hclosed, hRi⟩ hi
    rw [mem_ready] at hi
    obtain ⟨hfalse, o, ho, hedge⟩ := hi
    have hlt : i < ops.size := (Array.getElem?_eq_some_iff.1 ho).1
    have hl : i < listed.size := by omega
    have hfi : listed.getD i false = false := by
      simpa [Array.getD, hl] using hfalse
    have reachT : ∀ j, Reach ops i j → listed.getD j false = true := fun j hj =>
      reach_listed hclosed hj fun o' ho' => by rw [ho] at ho'; cases ho'; exact hedge
    have reachF : ∀ j, listed.getD j false = true → ¬ Reach ops j i := by
      intro j hj hr
      have hjs : j < listed.size := by
        rcases Nat.lt_or_ge j listed.size with h | h
        · exact h
        · simp [Array.getD, Nat.not_lt.2 h] at hj
      have hoj : ops[j]? = some (ops[j]'(by omega)) := by simp [show j < ops.size by omega]
      have := reach_listed hclosed hr fun o' ho' => hclosed j o' ho' hj
      rw [hfi] at this
      cases this
    have before : ∀ j oj, ops[j]? = some oj → j < i → touch ops.toList oj o = true → listed.getD j false = true := by
      intro j oj hoj hji ht
      have := hpairs i o (hget' i o ho) j oj (by omega) (hget' j oj hoj) ht
      rw [Nat.zero_add] at this
      exact reachT j (hclo _ _ this)
    have behind : ∀ j oj, ops[j]? = some oj → i < j → touch ops.toList o oj = true → listed.getD j false = false := by
      intro j oj hoj hij ht
      cases hl : listed.getD j false with
      | false => rfl
      | true =>
        have := hpairs j oj (hget' j oj hoj) i o (by omega) (hget' i o ho) ht
        rw [Nat.zero_add] at this
        exact absurd (hclo _ _ this) (reachF j hl)
    have hrestr : restr (envD (fun j => listed.getD j false) tr E0) (looks ops.toList o) = restr (envD (fun j => Nat.blt j i) tr E0) (looks ops.toList o) := by
      funext t
      unfold restr
      cases hmem : memN (looks ops.toList o) t with
      | false => rfl
      | true =>
        simp only [cond_true, envD]
        congr 1
        refine valD_congr tr 0 fun j d y hj hdt => ?_
        subst hdt
        obtain ⟨oj, hoj, hdj⟩ := htr j _ y hj
        simp only [Nat.zero_add]
        rcases Nat.lt_trichotomy j i with h1 | h1 | h1
        · rw [before j oj hoj h1 (by unfold touch; rw [hdj]; simp [hmem])]
          have : Nat.blt j i = true := Nat.ble_eq_true_of_le h1
          rw [this]
        · subst h1
          rw [hfi]
          cases hb : Nat.blt j j with
          | false => rfl
          | true => have : j < j := Nat.le_of_ble_eq_true hb; omega
        · rw [behind j oj hoj h1 (by unfold touch; rw [hdj]; simp [hmem])]
          cases hb : Nat.blt j i with
          | false => rfl
          | true => have : j < i := Nat.le_of_ble_eq_true hb; omega
    obtain ⟨x, htri⟩ := htr0 i o ho
    have hadd : ∀ j, (listed.setIfInBounds i true).getD j false = (listed.getD j false || j == i) := by
      intro j
      by_cases hji : i = j
      · subst hji
        simp [Array.getD_eq_getD_getElem?, hl]
      · rw [getD_set_ne false hji]
        have : (j == i) = false := by simpa using Ne.symm hji
        rw [this]
        simp
    have hval := valD_add (D := fun j => listed.getD j false) (D' := fun j => (listed.setIfInBounds i true).getD j false) (i := i) hadd tr 0 (Nat.zero_le _) (by simpa using htri) fun j d y hj hij hd hn => by
      obtain ⟨oj, hoj, hdj⟩ := htr j d y hj
      rw [Nat.zero_add] at hij ⊢
      refine behind j oj hoj hij ?_
      unfold touch
      rw [hdj]
      subst hd
      cases hod : o.dst with
      | none => exact absurd hod hn
      | some d' => simp
    have hDeq : (fun j => (listed.setIfInBounds i true).getD j false) = fun j => listed.getD j false || j == i := funext hadd
    have henv : envD (fun j => listed.getD j false || j == i) tr E0 = putE (envD (fun j => listed.getD j false) tr E0) o.dst x := by
      funext t
      rw [putE_get, ← hDeq]
      simp only [envD, hval t]
      by_cases hdt : o.dst = some t <;> simp [hdt]
    refine wpOp_mono (fun a' w' h => ⟨by simpa using hs, ?_, by rw [hDeq]; exact h⟩) (hstep (fun j => listed.getD j false) i o x a w ho htri hfi reachT reachF hRi hrestr henv)
    intro j oj hoj hj e he hb
    by_cases hji : i = j
    · subst hji
      rw [ho] at hoj
      cases hoj
      exact getD_set_true (hedge e he hb)
    · rw [getD_set_ne false hji] at hj
      exact getD_set_true (hclosed j oj hoj hj e he hb)
  · rintro listed a w ⟨hs, hclosed, hRi⟩ hr
    have hdone : ∀ n, n < ops.size → listed.getD n false = true := by
      intro n
      induction n using Nat.strongRecOn with
      | _ n ih =>
        intro hn
        cases hl : listed.getD n false with
        | true => rfl
        | false =>
          have hlt : n < listed.size := by omega
          have hmem : n ∈ Region.ready .any ops listed := by
            rw [mem_ready]
            refine ⟨by simpa [Array.getD, hlt] using hl, ops[n], by simp [hn], fun e he hb => ?_⟩
            have := hedges n ops[n] (hget' n _ (by simp [hn])) e he hb
            exact ih e.on (by omega) (by omega)
          rw [hr] at hmem
          cases hmem
    exact hend _ a w hdone (fun j hj => by simp [Array.getD, show ¬ j < listed.size by omega]) hRi
  · refine Nat.le_trans (List.length_filter_le _ _) (by simp)
  · refine ⟨by simp, fun j o _ hj => ?_, ?_⟩
    · rw [rep_false] at hj; cases hj
    · have : (fun j => (Array.replicate ops.size false).getD j false) = fun _ => false := funext fun j => rep_false _ j
      rw [this]
      exact hstart
end
end Go.Proofs.Ytndfcbcmeeemfaa.Abs
