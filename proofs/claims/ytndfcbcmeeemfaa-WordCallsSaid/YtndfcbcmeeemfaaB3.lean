/-
  REGIONS WHOSE ORDER IS OPEN (2): the theorem.
-/
import Derived.Test.YtndfcbcmeeemfaaB2
namespace Go.Proofs.Ytndfcbcmeeemfaa.Abs
open Go

theorem memN_iff : ∀ (l : List Nat) (t : Nat), memN l t = true ↔ t ∈ l
  | [], t => by simp [memN]
  | x :: l, t => by
    simp only [memN]
    cases h : Nat.beq t x with
    | true => simp [Nat.eq_of_beq_eq_true h]
    | false =>
      have : t ≠ x := fun e => by rw [e] at h; simp at h
      simp [memN_iff l t, this]

theorem valD_shift {D D' : Nat → Bool} {t : Nat} : ∀ (l : List (Option Nat × SV)) (k k' : Nat), (∀ j, D (k + j) = D' (k' + j)) → valD D k l t = valD D' k' l t
  | [], _, _, _ => rfl
  | (d, x) :: l, k, k', h => by
    have ih := valD_shift (D := D) (D' := D') (t := t) l (k + 1) (k' + 1) fun j => by
      have := h (j + 1)
      rwa [show k + (j + 1) = k + 1 + j from by omega, show k' + (j + 1) = k' + 1 + j from by omega] at this
    have h0 := h 0
    simp only [Nat.add_zero] at h0
    simp only [valD, ih, h0]

theorem valD_none {D : Nat → Bool} {t : Nat} : ∀ (l : List (Option Nat × SV)) (k : Nat), (∀ j, D (k + j) = false) → valD D k l t = none
  | [], _, _ => rfl
  | (d, x) :: l, k, h => by
    have ih := valD_none (D := D) (t := t) l (k + 1) fun j => by
      have := h (j + 1)
      rwa [show k + (j + 1) = k + 1 + j from by omega] at this
    have h0 := h 0
    simp only [Nat.add_zero] at h0
    simp [valD, ih, h0]

theorem putE_get (E : Nat → SV) (d : Option Nat) (x : SV) (t : Nat) : putE E d x t = if d = some t then x else E t := by
  cases d with
  | none => simp [putE]
  | some d =>
    simp only [putE, Option.some.injEq]
    by_cases h : d = t
    · subst h; simp
    · have : Nat.beq t d = false := by
        cases hb : Nat.beq t d with
        | false => rfl
        | true => exact absurd (Nat.eq_of_beq_eq_true hb).symm h
      simp [this, h]

section
variable {K : Nat} {P : Program} {T : Lays} {S : St} {Q : Exit → St → Prop}

theorem drawOps_get {orc : Tab} {ops : List Oper} {n : Nat} {H : Nat → Option ABlk} : ∀ (rest : List Oper) (k : Nat) (E : Nat → SV) (tr : List (Option Nat × SV)) (Ef : Nat → SV) (p : Prop), drawOps P T orc ops n H k E rest = some (tr, Ef, p) → p →
    tr.length = rest.length ∧ (Ef = envD (fun _ => true) tr E) ∧ ∀ j o, rest[j]? = some o → ∃ g x vc, guardOf ops (restr (envD (fun i => Nat.blt i j) tr E) (looks ops o)) o.guard = some g ∧ dstOk o.dst n = true ∧
      stepV P T orc H (k + j) (restr (envD (fun i => Nat.blt i j) tr E) (looks ops o)) o g = some (x, vc) ∧ vc ∧ tr[j]? = some (o.dst, x) := by
  intro rest
  induction rest with
  | nil =>
    intro k E tr Ef p h hp
    simp only [drawOps, Option.some.injEq, Prod.mk.injEq] at h
    obtain ⟨rfl, rfl, _⟩ := h
    exact ⟨rfl, by funext t; rfl, fun j o hj => by simp at hj⟩
  | cons o rest ih =>
    intro k E tr Ef p h hp
    simp only [drawOps] at h
    split at h
    · cases h
    · rename_i g hg
      cases hd : dstOk o.dst n with
      | false => rw [hd] at h; simp at h
      | true =>
        rw [hd] at h
        simp only [cond_true] at h
        split at h
        · cases h
        · rename_i x vc hs
          split at h
          · cases h
          · rename_i tr' Ef' p' hrest
            simp only [Option.some.injEq, Prod.mk.injEq] at h
            obtain ⟨rfl, rfl, rfl⟩ := h
            obtain ⟨h1, h2, h3⟩ := ih (k + 1) _ tr' Ef' p' hrest hp.2
            refine ⟨by simp [h1], ?_, fun j o' hj => ?_⟩
            · rw [h2]
              funext t
              simp only [envD, valD]
              rw [valD_shift (D' := fun _ => true) tr' 0 1 fun j => rfl]
              cases valD (fun _ => true) 1 tr' t with
              | some y => simp
              | none =>
                simp only [Option.getD_none, putE_get]
                by_cases hd' : o.dst = some t <;> simp [hd']
            · cases j with
              | zero =>
                simp at hj
                subst hj
                have e : envD (fun i => Nat.blt i 0) ((o.dst, x) :: tr') E = E := by
                  funext t
                  simp only [envD]
                  rw [valD_none _ _ fun j => rfl]
                  rfl
                rw [e]
                exact ⟨g, x, vc, hg, hd, hs, hp.1, rfl⟩
              | succ j =>
                obtain ⟨g', x', vc', q1, q2, q3, q4, q5⟩ := h3 j o' (by simpa using hj)
                have e : envD (fun i => Nat.blt i (j + 1)) ((o.dst, x) :: tr') E = envD (fun i => Nat.blt i j) tr' (putE E o.dst x) := by
                  funext t
                  simp only [envD, valD]
                  rw [valD_shift (D := fun i => Nat.blt i (j + 1)) (D' := fun i => Nat.blt i j) tr' (0 + 1) 0 fun i => by
                    simp only [Nat.blt]
                    rw [show (0 + 1 + i).succ = (0 + i).succ.succ from by omega]
                    rfl]
                  cases valD (fun i => Nat.blt i j) 0 tr' t with
                  | some y => simp
                  | none =>
                    simp only [Option.getD_none, putE_get]
                    have : Nat.blt 0 (j + 1) = true := rfl
                    by_cases hd' : o.dst = some t <;> simp [hd', this]
                rw [e, show k + (j + 1) = k + 1 + j from by omega]
                exact ⟨g', x', vc', q1, q2, q3, q4, by simpa using q5⟩

theorem reach_listed {ops : Array Oper} {listed : Array Bool} (hclosed : ∀ j o, ops[j]? = some o → listed.getD j false = true → ∀ e ∈ o.after, Region.binds .any e = true → listed.getD e.on false = true) {i j : Nat} (h : Reach ops i j) :
    (∀ o, ops[i]? = some o → ∀ e ∈ o.after, Region.binds .any e = true → listed.getD e.on false = true) → listed.getD j false = true := by
  induction h with
  | one ho he hb => intro hi; exact hi _ ho _ he hb
  | more ho he hb _ ih => intro hi; exact ih fun o' ho' => hclosed _ o' ho' (hi _ ho _ he hb)

theorem rep_false (n j : Nat) : (Array.replicate n false).getD j false = false := by
  by_cases h : j < n <;> simp [Array.getD, h]

theorem Rel.drew {C : Ctx K} {μ : Nat → Option Nat} {a : Act} {w w1 : World} (hR : Rel C μ S a w) (hh : w1.heap = w.heap) (ho : w1.os = w.os) (ht : w1.tape = w.tape) (hp : w1.output = w.output) : Rel C μ S a w1 := by
  have hall : ∀ b : Nat, w1.heap[b]? = w.heap[b]? := fun b => by rw [hh]
  have he : Ext C.F w (Own C.F S.heap μ) μ w1 (Own C.F S.heap μ) μ :=
    ⟨ho, ht, hp, by rw [hh]; exact Nat.le_refl _, fun b _ _ => hall b, fun b cur _ _ hb => ⟨cur, by rw [hall, hb], rfl⟩, fun _ _ h => h, fun m hm => .inl hm, fun b _ _ => hall b, fun a => frozen_same (hall a.block)⟩
  refine ⟨hR.defers, hR.size, hR.env.mono he, ⟨fun k B hk => ?_, hR.heap.inj, fun k m hm => by rw [hh]; exact hR.heap.lt k m hm, hR.heap.dis, fun m hm => by rw [hh]; exact hR.heap.frn m hm⟩, hR.ext.trans he⟩
  obtain ⟨h1, h2⟩ := hR.heap.blk k B hk
  exact ⟨h1, h2.mono he rfl fun m _ => hall m⟩

theorem AW_draw (G : Good P T) (hm : P.follows .mixedOrders = true) {id : Nat} {ops : Array Oper} (orc : Tab) (hTab : TabOk P orc) {tr : List (Option Nat × SV)} {Ef : Nat → SV} {p : Prop} (hall : (ops.toList.all fun o => dstOk o.dst S.size) = true) (hord : ordOk ops.toList = true)
    (h : drawOps P T orc ops.toList S.size S.heap 0 S.env ops.toList = some (tr, Ef, p)) (hp : p) (hQ : Q .normal { S with env := Ef }) : AW K P (.region id ops true) Q S := by
  intro C μ a w hR
  obtain ⟨hlen, hEf, hget⟩ := drawOps_get ops.toList 0 S.env tr Ef p h hp
  unfold ordOk at hord
  rw [Bool.and_eq_true] at hord
  have hedges := edgesOk_get ops.toList 0 hord.1
  have hpairs := pairsOk_get ops.toList 0 hord.2
  have hclo : ∀ k i, ((clo [] ops.toList).getD k 0).testBit i = true → Reach ops k i := clo_reach ops.toList [] (fun j o hj => by simpa using hj) fun k i hk => by simp at hk
  have hget' : ∀ (j : Nat) o, ops[j]? = some o → ops.toList[j]? = some o := fun j o hj => by simpa using hj
  -- the trace's destinations
  have htr : ∀ (j : Nat) d x, tr[j]? = some (d, x) → ∃ o : Oper, ops[j]? = some o ∧ o.dst = d := by
    intro j d x hj
    have hlt : j < ops.toList.length := by
      rw [← hlen]
      rcases Nat.lt_or_ge j tr.length with h | h
      · exact h
      · rw [List.getElem?_eq_none h] at hj; cases hj
    obtain ⟨g, x', vc, _, _, _, _, q⟩ := hget j _ (List.getElem?_eq_getElem hlt)
    rw [hj] at q
    simp only [Option.some.injEq, Prod.mk.injEq] at q
    exact ⟨_, by rw [← Array.getElem?_toList]; exact List.getElem?_eq_getElem hlt, q.1.symm⟩
  let I : Array Bool → Act → World → Prop := fun listed a w => listed.size = ops.size ∧ (∀ j o, ops[j]? = some o → listed.getD j false = true → ∀ e ∈ o.after, Region.binds .any e = true → listed.getD e.on false = true) ∧
    ∃ μ, Rel C μ { S with env := envD (fun j => listed.getD j false) tr S.env } a w
  refine wp_region_any hm (wpAny_inv I ?_ ?_ ops.size (Array.replicate ops.size false) a _ (by simp) ?_ ?_)
  · -- a step
    rintro listed a w i ⟨hs, hclosed, μ, hRi⟩ hi
    rw [mem_ready] at hi
    obtain ⟨hfalse, o, ho, hedge⟩ := hi
    have hlt : i < ops.size := (Array.getElem?_eq_some_iff.1 ho).1
    have hfi : listed.getD i false = false := by
      have hl : i < listed.size := by omega
      simpa [Array.getD, hl] using hfalse
    obtain ⟨g, x, vc, hg, hd, hst, hvc, htri⟩ := hget i o (hget' i o ho)
    -- those that touch what it touches
    have before : ∀ j oj, ops[j]? = some oj → j < i → touch ops.toList oj o = true → listed.getD j false = true := by
      intro j oj hoj hji ht
      have := hpairs i o (hget' i o ho) j oj (by omega) (hget' j oj hoj) ht
      rw [Nat.zero_add] at this
      exact reach_listed hclosed (hclo _ _ this) fun o' ho' => by rw [ho] at ho'; cases ho'; exact hedge
    have behind : ∀ j oj, ops[j]? = some oj → i < j → touch ops.toList o oj = true → listed.getD j false = false := by
      intro j oj hoj hij ht
      cases hl : listed.getD j false with
      | false => rfl
      | true =>
        have := hpairs j oj (hget' j oj hoj) i o (by omega) (hget' i o ho) ht
        rw [Nat.zero_add] at this
        have := reach_listed hclosed (hclo _ _ this) fun o' ho' => by rw [hoj] at ho'; cases ho'; exact hclosed j oj hoj hl
        rw [hfi] at this
        cases this
    have hrestr : restr (envD (fun j => listed.getD j false) tr S.env) (looks ops.toList o) = restr (envD (fun j => Nat.blt j i) tr S.env) (looks ops.toList o) := by
      funext t
      unfold restr
      cases hmem : memN (looks ops.toList o) t with
      | false => rfl
      | true =>
        simp only [cond_true, envD]
        congr 1
        refine valD_congr tr 0 fun j d y hj hdt => ?_
        subst hdt
        obtain ⟨oj, hoj, hdj⟩ := htr j _ y hj
        simp only [Nat.zero_add]
        rcases Nat.lt_trichotomy j i with h1 | h1 | h1
        · rw [before j oj hoj h1 (by unfold touch; rw [hdj]; simp [hmem])]
          have : Nat.blt j i = true := Nat.ble_eq_true_of_le h1
          rw [this]
        · subst h1
          rw [hfi]
          cases hb : Nat.blt j j with
          | false => rfl
          | true => have : j < j := Nat.le_of_ble_eq_true hb; omega
        · rw [behind j oj hoj h1 (by unfold touch; rw [hdj]; simp [hmem])]
          cases hb : Nat.blt j i with
          | false => rfl
          | true => have : j < i := Nat.le_of_ble_eq_true hb; omega
    rw [Nat.zero_add] at hst
    rw [← hrestr] at hg hst
    refine stepV_sound G hTab ho hall hRi hg hd hst hvc fun v w' hR' => ?_
    refine ⟨by simpa using hs, ?_, μ, ?_⟩
    · intro j oj hoj hj e he hb
      by_cases hji : i = j
      · subst hji
        rw [ho] at hoj
        cases hoj
        exact getD_set_true (hedge e he hb)
      · rw [getD_set_ne false hji] at hj
        exact getD_set_true (hclosed j oj hoj hj e he hb)
    · have hl : i < listed.size := by omega
      have hadd : ∀ j, (listed.setIfInBounds i true).getD j false = (listed.getD j false || j == i) := by
        intro j
        by_cases hji : i = j
        · subst hji
          simp [Array.getD_eq_getD_getElem?, hl]
        · rw [getD_set_ne false hji]
          have : (j == i) = false := by simpa using Ne.symm hji
          rw [this]
          simp
      have hval := valD_add (D := fun j => listed.getD j false) (D' := fun j => (listed.setIfInBounds i true).getD j false) (i := i) hadd tr 0 (Nat.zero_le _) (by simpa using htri) fun j d y hj hij hd hn => by
        obtain ⟨oj, hoj, hdj⟩ := htr j d y hj
        rw [Nat.zero_add] at hij ⊢
        refine behind j oj hoj hij ?_
        unfold touch
        rw [hdj]
        subst hd
        cases hod : o.dst with
        | none => exact absurd hod hn
        | some d' => simp
      have henv : envD (fun j => (listed.setIfInBounds i true).getD j false) tr S.env = putE (envD (fun j => listed.getD j false) tr S.env) o.dst x := by
        funext t
        rw [putE_get]
        simp only [envD, hval t]
        by_cases hdt : o.dst = some t <;> simp [hdt]
      rw [henv]
      exact hR'
  · -- the end
    rintro listed a w ⟨hs, hclosed, μ, hRi⟩ hr
    have hdone : ∀ n, n < ops.size → listed.getD n false = true := by
      intro n
      induction n using Nat.strongRecOn with
      | _ n ih =>
        intro hn
        cases hl : listed.getD n false with
        | true => rfl
        | false =>
          have hlt : n < listed.size := by omega
          have hmem : n ∈ Region.ready .any ops listed := by
            rw [mem_ready]
            refine ⟨by simpa [Array.getD, hlt] using hl, ops[n], by simp [hn], fun e he hb => ?_⟩
            have := hedges n ops[n] (hget' n _ (by simp [hn])) e he hb
            exact ih e.on (by omega) (by omega)
          rw [hr] at hmem
          cases hmem
    refine ⟨μ, { S with env := Ef }, ?_, hQ⟩
    have : envD (fun j => listed.getD j false) tr S.env = Ef := by
      rw [hEf]
      funext t
      simp only [envD]
      congr 1
      refine valD_congr tr 0 fun j d y hj _ => ?_
      obtain ⟨oj, hoj, _⟩ := htr j d y hj
      rw [Nat.zero_add, hdone j (Array.getElem?_eq_some_iff.1 hoj).1]
    rw [← this]
    exact hRi
  · refine Nat.le_trans (List.length_filter_le _ _) (by simp)
  · refine ⟨by simp, fun j o _ hj => ?_, μ, ?_⟩
    · rw [rep_false] at hj; cases hj
    have : envD (fun j => (Array.replicate ops.size false).getD j false) tr S.env = S.env := by
      funext t
      simp only [envD]
      rw [valD_none _ _ fun j => by rw [rep_false]]
      rfl
    rw [this]
    exact hR.drew rfl rfl rfl rfl
end
end Go.Proofs.Ytndfcbcmeeemfaa.Abs
