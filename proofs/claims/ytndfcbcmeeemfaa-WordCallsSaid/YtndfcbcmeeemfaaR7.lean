/-
  REGIONS OF OPEN ORDER WHOSE LAST OPERATION IS BEHIND ALL OTHERS: that one may change memory.
-/
import Derived.Test.YtndfcbcmeeemfaaR6
namespace Go.Proofs.Ytndfcbcmeeemfaa.Abs
open Go

section
variable {K : Nat} {P : Program} {T : Lays} {S : St} {Q : Exit → St → Prop}

theorem wpList_op {ops : Array Oper} {Q : Exit → Act → World → Prop} {o : Oper} {i : Nat} {a : Act} {w : World} (ho : ops[i]? = some o) (h : wpList P ops Q [o] a w) : wpOp P ops Q i (fun a w => Q .normal a w) a w := by
  unfold wpOp
  rw [ho]
  unfold wpList at h
  simp only
  split at h
  · rw [if_pos (by assumption)]
    exact h
  · rw [if_neg (by assumption)]
    exact h

def allBits (s : Nat) (n : Nat) : Bool := (List.range n).all fun i => s.testBit i

theorem AW_drwT (G : Good P T) (hm : P.follows .mixedOrders = true) {id n nx : Nat} {E : Nat → SV} {H : Nat → Option ABlk} {ops : Array Oper} (orc : Tab) (hTab : TabOk P orc) (pre : List Oper) (o : Oper) {tr : List (Option Nat × SV)} {Ef : Nat → SV} {p : Prop} (hops : ops.toList = pre ++ [o]) (hall : (ops.toList.all fun o => dstOk o.dst n) = true) (hord : ordOk ops.toList = true) (hbits : allBits ((clo [] ops.toList).getD pre.length 0) pre.length = true)
    (h : drawOps P T orc ops.toList n H 0 E pre = some (tr, Ef, p)) (hp : p) (hQ : AL K P ops [o] Q ⟨n, Ef, H, nx⟩) : AW K P (.region id ops true) Q ⟨n, E, H, nx⟩ := by
  intro C μ a w hR
  obtain ⟨hlen, hEf, hget⟩ := drawOps_get pre 0 E tr Ef p h hp
  have hsz : ops.size = pre.length + 1 := by rw [← Array.length_toList, hops]; simp
  unfold ordOk at hord
  rw [Bool.and_eq_true] at hord
  have hedges := edgesOk_get ops.toList 0 hord.1
  have hpairs := pairsOk_get ops.toList 0 hord.2
  have hclo : ∀ k i, ((clo [] ops.toList).getD k 0).testBit i = true → Reach ops k i := clo_reach ops.toList [] (fun j o hj => by simpa using hj) fun k i hk => by simp at hk
  have hget' : ∀ (j : Nat) o, ops[j]? = some o → ops.toList[j]? = some o := fun j o hj => by simpa using hj
  have hpre : ∀ (j : Nat) o, j < pre.length → ops[j]? = some o → pre[j]? = some o := by
    intro j o hj ho
    have := hget' j o ho
    rw [hops, List.getElem?_append_left hj] at this
    exact this
  have hlast : ops[pre.length]? = some o := by
    rw [← Array.getElem?_toList, hops, List.getElem?_append_right (Nat.le_refl _)]
    simp
  have hreach : ∀ j, j < pre.length → Reach ops pre.length j := by
    intro j hj
    refine hclo _ _ ?_
    exact List.all_eq_true.1 hbits j (List.mem_range.2 hj)
  -- the trace's destinations
  have htr : ∀ (j : Nat) d x, tr[j]? = some (d, x) → j < pre.length ∧ ∃ o : Oper, ops[j]? = some o ∧ o.dst = d := by
    intro j d x hj
    have hlt : j < pre.length := by
      rw [← hlen]
      rcases Nat.lt_or_ge j tr.length with h | h
      · exact h
      · rw [List.getElem?_eq_none h] at hj; cases hj
    obtain ⟨g, x', vc, _, _, _, _, q⟩ := hget j _ (List.getElem?_eq_getElem hlt)
    rw [hj] at q
    simp only [Option.some.injEq, Prod.mk.injEq] at q
    refine ⟨hlt, pre[j], ?_, q.1.symm⟩
    rw [← Array.getElem?_toList, hops, List.getElem?_append_left hlt]
    exact List.getElem?_eq_getElem hlt
  let I : Array Bool → Act → World → Prop := fun listed a w => listed.size = ops.size ∧ (∀ j o, ops[j]? = some o → listed.getD j false = true → ∀ e ∈ o.after, Region.binds .any e = true → listed.getD e.on false = true) ∧
    (listed.getD pre.length false = true → Lift C Q .normal a w) ∧ (listed.getD pre.length false = false → ∃ μ, Rel C μ ⟨n, envD (fun j => listed.getD j false) tr E, H, nx⟩ a w)
  refine wp_region_any hm (wpAny_inv I ?_ ?_ ops.size (Array.replicate ops.size false) a _ (by simp) ?_ ?_)
  · -- a step
    rintro listed a w i ⟨hs, hclosed, _, hopen⟩ hi
    rw [mem_ready] at hi
    obtain ⟨hfalse, oi, ho, hedge⟩ := hi
    have hlt : i < ops.size := (Array.getElem?_eq_some_iff.1 ho).1
    have hl : i < listed.size := by omega
    have hfi : listed.getD i false = false := by simpa [Array.getD, hl] using hfalse
    have hadd : ∀ j, (listed.setIfInBounds i true).getD j false = (listed.getD j false || j == i) := by
      intro j
      by_cases hji : i = j
      · subst hji
        simp [Array.getD_eq_getD_getElem?, hl]
      · rw [getD_set_ne false hji]
        have : (j == i) = false := by simpa using Ne.symm hji
        rw [this]
        simp
    have hclosed' : ∀ j o, ops[j]? = some o → (listed.setIfInBounds i true).getD j false = true → ∀ e ∈ o.after, Region.binds .any e = true → (listed.setIfInBounds i true).getD e.on false = true := by
      intro j oj hoj hj e he hb
      by_cases hji : i = j
      · subst hji
        rw [ho] at hoj
        cases hoj
        exact getD_set_true (hedge e he hb)
      · rw [getD_set_ne false hji] at hj
        exact getD_set_true (hclosed j oj hoj hj e he hb)
    have hlastF : listed.getD pre.length false = false := by
      cases hL : listed.getD pre.length false with
      | false => rfl
      | true =>
        rcases Nat.lt_or_ge i pre.length with h1 | h1
        · have := reach_listed hclosed (hreach i h1) fun o' ho' => hclosed _ o' ho' hL
          rw [hfi] at this
          cases this
        · have : i = pre.length := by omega
          subst this
          rw [hfi] at hL
          cases hL
    obtain ⟨μ, hRi⟩ := hopen hlastF
    rcases Nat.lt_or_ge i pre.length with hip | hip
    · obtain ⟨g, x, vc, hg, hd, hst, hvc, htri⟩ := hget i oi (hpre i oi hip ho)
      -- those that touch what it touches
      have before : ∀ j oj, ops[j]? = some oj → j < i → touch ops.toList oj oi = true → listed.getD j false = true := by
        intro j oj hoj hji ht
        have := hpairs i oi (hget' i oi ho) j oj (by omega) (hget' j oj hoj) ht
        rw [Nat.zero_add] at this
        exact reach_listed hclosed (hclo _ _ this) fun o' ho' => by rw [ho] at ho'; cases ho'; exact hedge
      have behind : ∀ j oj, ops[j]? = some oj → i < j → touch ops.toList oi oj = true → listed.getD j false = false := by
        intro j oj hoj hij ht
        cases hl : listed.getD j false with
        | false => rfl
        | true =>
          have := hpairs j oj (hget' j oj hoj) i oi (by omega) (hget' i oi ho) ht
          rw [Nat.zero_add] at this
          have := reach_listed hclosed (hclo _ _ this) fun o' ho' => by rw [hoj] at ho'; cases ho'; exact hclosed j oj hoj hl
          rw [hfi] at this
          cases this
      have hrestr : restr (envD (fun j => listed.getD j false) tr E) (looks ops.toList oi) = restr (envD (fun j => Nat.blt j i) tr E) (looks ops.toList oi) := by
        funext t
        unfold restr
        cases hmem : memN (looks ops.toList oi) t with
        | false => rfl
        | true =>
          simp only [cond_true, envD]
          congr 1
          refine valD_congr tr 0 fun j d y hj hdt => ?_
          subst hdt
          obtain ⟨_, oj, hoj, hdj⟩ := htr j _ y hj
          simp only [Nat.zero_add]
          rcases Nat.lt_trichotomy j i with h1 | h1 | h1
          · rw [before j oj hoj h1 (by unfold touch; rw [hdj]; simp [hmem])]
            have : Nat.blt j i = true := Nat.ble_eq_true_of_le h1
            rw [this]
          · subst h1
            rw [hfi]
            cases hb : Nat.blt j j with
            | false => rfl
            | true => have : j < j := Nat.le_of_ble_eq_true hb; omega
          · rw [behind j oj hoj h1 (by unfold touch; rw [hdj]; simp [hmem])]
            cases hb : Nat.blt j i with
            | false => rfl
            | true => have : j < i := Nat.le_of_ble_eq_true hb; omega
      rw [Nat.zero_add] at hst
      rw [← hrestr] at hg hst
      refine stepV_sound (S := ⟨n, E, H, nx⟩) G hTab ho hall hRi hg hd hst hvc fun v w' hR' => ?_
      have hLF : (listed.setIfInBounds i true).getD pre.length false = false := by rw [getD_set_ne false (by omega)]; exact hlastF
      refine ⟨by simpa using hs, hclosed', fun hc => (by rw [hLF] at hc; cases hc), fun _ => ⟨μ, ?_⟩⟩
      have hval := valD_add (D := fun j => listed.getD j false) (D' := fun j => (listed.setIfInBounds i true).getD j false) (i := i) hadd tr 0 (Nat.zero_le _) (by simpa using htri) fun j d y hj hij hd hn => by
        obtain ⟨_, oj, hoj, hdj⟩ := htr j d y hj
        rw [Nat.zero_add] at hij ⊢
        refine behind j oj hoj hij ?_
        unfold touch
        rw [hdj]
        subst hd
        cases hod : oi.dst with
        | none => exact absurd hod hn
        | some d' => simp
      have henv : envD (fun j => (listed.setIfInBounds i true).getD j false) tr E = putE (envD (fun j => listed.getD j false) tr E) oi.dst x := by
        funext t
        rw [putE_get]
        simp only [envD, hval t]
        by_cases hdt : oi.dst = some t <;> simp [hdt]
      rw [henv]
      exact hR'
    · have hiE : i = pre.length := by omega
      subst hiE
      rw [hlast] at ho
      cases ho
      have hdone : ∀ j, j < pre.length → listed.getD j false = true := fun j hj => reach_listed hclosed (hreach j hj) fun o' ho' => by rw [hlast] at ho'; cases ho'; exact hedge
      have hE : envD (fun j => listed.getD j false) tr E = Ef := by
        rw [hEf]
        funext t
        simp only [envD]
        congr 1
        refine valD_congr tr 0 fun j d y hj _ => ?_
        rw [Nat.zero_add, hdone j (htr j d y hj).1]
      rw [hE] at hRi
      refine wpOp_mono (fun a' w' hq => ?_) (wpList_op hlast (hQ C μ a w hRi))
      refine ⟨by simpa using hs, hclosed', fun _ => hq, fun hc => ?_⟩
      rw [hadd] at hc
      simp at hc
  · -- the end
    rintro listed a w ⟨hs, hclosed, hq, _⟩ hr
    have hdone : ∀ n, n < ops.size → listed.getD n false = true := by
      intro n
      induction n using Nat.strongRecOn with
      | _ n ih =>
        intro hn
        cases hl : listed.getD n false with
        | true => rfl
        | false =>
          have hlt : n < listed.size := by omega
          have hmem : n ∈ Region.ready .any ops listed := by
            rw [mem_ready]
            refine ⟨by simpa [Array.getD, hlt] using hl, ops[n], by simp [hn], fun e he hb => ?_⟩
            have := hedges n ops[n] (hget' n _ (by simp [hn])) e he hb
            exact ih e.on (by omega) (by omega)
          rw [hr] at hmem
          cases hmem
    exact hq (hdone _ (by omega))
  · refine Nat.le_trans (List.length_filter_le _ _) (by simp)
  · refine ⟨by simp, fun j o _ hj => ?_, fun hj => ?_, fun _ => ⟨μ, ?_⟩⟩
    · rw [rep_false] at hj; cases hj
    · rw [rep_false] at hj; cases hj
    have : envD (fun j => (Array.replicate ops.size false).getD j false) tr E = E := by
      funext t
      simp only [envD]
      rw [valD_none _ _ fun j => by rw [rep_false]]
      rfl
    rw [this]
    exact hR.drew rfl rfl rfl rfl
end

/-- A map that says less. -/
theorem BLe.mp {ka va : Bool} {kks : List IntKind} {vn : Nat} {dom dom' : List Int → Bool} {val val' : List Int → Nat → IV} (hd : ∀ ks, ks.length = kks.length → dom' ks = dom ks) (hd' : ∀ ks, dom' ks = true → ks.length = kks.length) (hv : ∀ ks j, ks.length = kks.length → dom ks = true → j < vn → ILe (val ks j) (val' ks j)) : BLe (.mp ka kks va vn dom val) (.mp ka kks va vn dom' val') := by
  rintro w O μ k ⟨m, es, clock, h1, h2, h3, h4, h5⟩
  refine ⟨m, es, clock, h1, h2, h3, fun e he => ?_, fun ks hk => ?_⟩
  · obtain ⟨ks, q1, q2, q3, cs, q4, q5, q6⟩ := h4 e he
    exact ⟨ks, q1, (hd ks q1).trans q2, q3, cs, q4, q5, fun j u hu => hv ks j q1 q2 (by rw [← q5]; exact (List.getElem?_eq_some_iff.1 hu).1) w O u (q6 j u hu)⟩
  · have hl := hd' ks hk
    obtain ⟨q1, q2⟩ := h5 ks ((hd ks hl).symm.trans hk)
    exact ⟨q1, q2⟩

/-- The same, by the last one's place. -/
theorem AW_drwL {K : Nat} {P : Program} {T : Lays} {Q : Exit → St → Prop} (G : Good P T) (hm : P.follows .mixedOrders = true) {id n nx : Nat} {E : Nat → SV} {H : Nat → Option ABlk} {ops : Array Oper} (orc : Tab) (hTab : TabOk P orc) (k : Nat) {o : Oper} {tr : List (Option Nat × SV)} {Ef : Nat → SV} {p : Prop} (hops : ops.toList.drop k = [o]) (hall : (ops.toList.all fun o => dstOk o.dst n) = true) (hord : ordOk ops.toList = true) (hbits : allBits ((clo [] ops.toList).getD k 0) k = true)
    (h : drawOps P T orc ops.toList n H 0 E (ops.toList.take k) = some (tr, Ef, p)) (hp : p) (hQ : AL K P ops [o] Q ⟨n, Ef, H, nx⟩) : AW K P (.region id ops true) Q ⟨n, E, H, nx⟩ := by
  have hk : k < ops.toList.length := by
    rcases Nat.lt_or_ge k ops.toList.length with h | h
    · exact h
    · rw [List.drop_eq_nil_of_le h] at hops; cases hops
  have hl : (ops.toList.take k).length = k := by rw [List.length_take]; omega
  refine AW_drwT G hm orc hTab (ops.toList.take k) o (by rw [← hops, List.take_append_drop]) hall hord ?_ h hp hQ
  rw [hl]
  exact hbits
end Go.Proofs.Ytndfcbcmeeemfaa.Abs
