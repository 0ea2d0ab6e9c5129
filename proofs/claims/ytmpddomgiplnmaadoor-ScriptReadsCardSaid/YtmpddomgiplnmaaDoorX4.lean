/-
  REGIONS WHOSE ORDER IS OPEN (3): a map that is built of a literal; its entries go in in any order.
-/
import Derived.Test.YtmpddomgiplnmaaDoorX3
namespace Go.Proofs.YtmpddomgiplnmaaDoor.Abs
open Go

section
variable {P : Program} {T : Lays} {H H' : Nat → Option ABlk}

theorem loadAt_more (hH : ∀ k B, H k = some B → H' k = some B) {p : AV} {n : Nat} {r : List AV × Prop} (h : loadAt H p n = some r) : loadAt H' p n = some r := by
  cases p with
  | own b e i j =>
    simp only [loadAt] at h ⊢
    cases hb : H b with
    | none => rw [hb] at h; cases h
    | some B => rw [hH b B hb]; rw [hb] at h; exact h
  | _ => exact h

theorem mapOf_more (hH : ∀ k B, H k = some B → H' k = some B) {p : AV} {r : Bool × List IntKind × Bool × Nat × (List Int → Bool) × (List Int → Nat → IV)} (h : mapOf H p = some r) : mapOf H' p = some r := by
  cases p with
  | omp b =>
    simp only [mapOf] at h ⊢
    cases hb : H b with
    | none => rw [hb] at h; cases h
    | some B => rw [hH b B hb]; rw [hb] at h; exact h
  | imm x => cases x <;> exact h
  | _ => exact h

theorem evalV_more (hH : ∀ k B, H k = some B → H' k = some B) {E : Nat → SV} {o : Op} {r : SV × Prop} (h : evalV T H E o = some r) : evalV T H' E o = some r := by
  cases o with
  | load t a =>
    simp only [evalV] at h ⊢
    split at h
    · rename_i L p hL hp
      split at h
      · rename_i l q hl
        rw [loadAt_more hH hl]
        exact h
      · cases h
    · cases h
  | lookup t x ix ok =>
    simp only [evalV] at h ⊢
    split at h
    · rename_i k e s b z m ka kks ks hL hx hk
      split at h
      · rename_i h1 h2 h3
        rw [h1, h2, mapOf_more hH h3]
        exact h
      · cases h
    · cases h
  | entry x =>
    simp only [evalV] at h ⊢
    split at h
    · rename_i b e i j hx
      cases h0 : Nat.beq (i * e + j) 0 with
      | false => rw [h0] at h; cases h
      | true =>
        rw [h0] at h
        simp only [cond_true] at h ⊢
        split at h
        · rename_i hB
          rw [hH _ _ hB]
          exact h
        · cases h
    · cases h
  | convert s d x =>
    simp only [evalV] at h ⊢
    split at h
    · exact h
    · rename_i e _ _ _ _ _ _ b s0 r j n app hs hd hx
      split at h
      · rename_i hF hB
        rw [hF, hH _ _ hB]
        exact h
      · cases h
    · cases h
  | _ => exact h

theorem evalV_call (H H' : Nat → Option ABlk) (E : Nat → SV) (c : Call) : evalV T H E (.call c) = evalV T H' E (.call c) := rfl

theorem stepV_more (hH : ∀ k B, H k = some B → H' k = some B) {orc : Tab} {i : Nat} {E : Nat → SV} {o : Oper} {g : Option Bool} {r : SV × Prop} (h : stepV P T orc H i E o g = some r) : stepV P T orc H' i E o g = some r := by
  unfold stepV at h ⊢
  cases hV : evalV T H E o.op with
  | some r' => rw [hV] at h; rw [evalV_more hH hV]; exact h
  | none =>
    rw [hV] at h
    simp only at h
    cases ho : o.op with
    | call c =>
      rw [ho] at h hV
      rw [evalV_call H' H E c, hV]
      exact h
    | _ => rw [ho] at h; simp at h
end

/-- An entry of a literal: its key, its cells. -/
def litPut (T : Lays) (nx : Nat) (ka : Bool) (kks : List IntKind) (va : Bool) (vn : Nat) (E : Nat → SV) (t : TypeId) (m k x : Operand) : Option (List Int × (Nat → IV) × Prop) :=
  match T t, rd E m, keyOf (rd E k), rd E x with
  | some ⟨.map kt _, _, _, _⟩, .cv (.one (.omp b)), some (ka1, kks1, ks), .cv c => match keyForm T kt, toIVs c.cells with
    | some (ka', kks'), some xs =>
      bif Nat.beq b nx && (bEq ka1 ka' && kindsEq kks1 kks' && (bEq ka1 ka && kindsEq kks1 kks) && (bEq (isAggC c) va && lenIs c.cells vn)) then
        some (ks, fun j => xs.getD j ivDef, need E m ∧ need E k ∧ need E x)
      else none
    | _, _ => none
  | _, _, _, _ => none

theorem litPut_put {T : Lays} {nx : Nat} {ka va : Bool} {kks : List IntKind} {vn : Nat} {E : Nat → SV} {t : TypeId} {m k x : Operand} {ks : List Int} {f : Nat → IV} {p : Prop} {H : Nat → Option ABlk} {dom : List Int → Bool} {val : List Int → Nat → IV}
    (h : litPut T nx ka kks va vn E t m k x = some (ks, f, p)) (hH : H nx = some (.mp ka kks va vn dom val)) :
    mapPut T H E t m k x = some (.undef, [(nx, some (.mp ka kks va vn (fun k' => eqI ks k' || dom k') fun k' => bif eqI ks k' then f else val k'))], p) := by
  unfold litPut at h
  split at h
  · rename_i kt e s b' z b ka1 kks1 ks' c h1 h2 h3 h4
    split at h
    · rename_i ka' kks' xs h5 h6
      cases hc : (Nat.beq b nx && (bEq ka1 ka' && kindsEq kks1 kks' && (bEq ka1 ka && kindsEq kks1 kks) && (bEq (isAggC c) va && lenIs c.cells vn))) with
      | false => rw [hc] at h; simp at h
      | true =>
        rw [hc] at h
        simp only [cond_true, Option.some.injEq, Prod.mk.injEq] at h
        obtain ⟨rfl, rfl, rfl⟩ := h
        rw [Bool.and_eq_true] at hc
        obtain rfl := Nat.eq_of_beq_eq_true hc.1
        have hc2 := hc.2
        simp only [Bool.and_eq_true] at hc2
        have e1 := bEq_eq hc2.1.2.1
        have e2 := kindsEq_eq hc2.1.2.2
        subst e1; subst e2
        unfold mapPut
        rw [h1, h2, h3, h4]
        simp only [h5, hH, h6, hc.2, cond_true]
    · cases h
  · cases h

def domD (D : Nat → Bool) : Nat → List (Option (List Int × (Nat → IV))) → List Int → Bool
  | _, [], _ => false
  | k, none :: l, k' => domD D (k + 1) l k'
  | k, some (ks, _) :: l, k' => (D k && eqI ks k') || domD D (k + 1) l k'

def mvalD (D : Nat → Bool) : Nat → List (Option (List Int × (Nat → IV))) → List Int → Nat → IV
  | _, [], _ => fun _ => ivDef
  | k, none :: l, k' => mvalD D (k + 1) l k'
  | k, some (ks, f) :: l, k' => bif D k && eqI ks k' then f else mvalD D (k + 1) l k'

theorem domD_add {D D' : Nat → Bool} {i : Nat} (hadd : ∀ j, D' j = (D j || j == i)) {ks : List Int} {f : Nat → IV} : ∀ (l : List (Option (List Int × (Nat → IV)))) (k : Nat), (k ≤ i → l[i - k]? = some (some (ks, f))) → ∀ k', domD D' k l k' = ((decide (k ≤ i) && eqI ks k') || domD D k l k')
  | [], k, h, k' => by
    have : ¬ k ≤ i := fun hk => by have := h hk; simp at this
    simp [domD, this]
  | x :: l, k, h, k' => by
    have ih := domD_add (D := D) (D' := D') hadd (ks := ks) (f := f) l (k + 1) (fun hk => by
      have := h (by omega)
      rw [show i - k = (i - (k + 1)) + 1 from by omega] at this
      simpa using this) k'
    rcases Nat.lt_trichotomy k i with hlt | rfl | hgt
    · have h1 : D' k = D k := by rw [hadd]; have : (k == i) = false := by simp; omega
                                 rw [this]; simp
      have e1 : decide (k + 1 ≤ i) = true := by simp; omega
      have e2 : decide (k ≤ i) = true := by simp; omega
      rw [e1] at ih
      rw [e2]
      cases x with
      | none => simpa [domD] using ih
      | some q =>
        obtain ⟨ks', f'⟩ := q
        simp only [domD, ih, h1]
        cases D k <;> cases eqI ks' k' <;> simp
    · have h0 := h (Nat.le_refl _)
      simp only [Nat.sub_self, List.getElem?_cons_zero, Option.some.injEq] at h0
      subst h0
      have e1 : decide (k + 1 ≤ k) = false := by simp
      rw [e1] at ih
      have h1 : D' k = true := by rw [hadd]; simp
      simp only [domD, ih, h1]
      cases D k <;> simp
    · have h1 : D' k = D k := by rw [hadd]; have : (k == i) = false := by simp; omega
                                 rw [this]; simp
      have e1 : decide (k + 1 ≤ i) = false := by simp; omega
      have e2 : decide (k ≤ i) = false := by simp; omega
      rw [e1] at ih
      rw [e2]
      cases x with
      | none => simpa [domD] using ih
      | some q =>
        obtain ⟨ks', f'⟩ := q
        simp only [domD, ih, h1]
        simp

/-- The keys differ. -/
def apart : List (Option (List Int × (Nat → IV))) → Bool
  | [] => true
  | none :: l => apart l
  | some (ks, _) :: l => (l.all fun | none => true | some (k2, _) => !(eqI ks k2)) && apart l

theorem mvalD_add {D D' : Nat → Bool} {i : Nat} (hadd : ∀ j, D' j = (D j || j == i)) {ks : List Int} {f : Nat → IV} : ∀ (l : List (Option (List Int × (Nat → IV)))) (k : Nat), apart l = true → (k ≤ i → l[i - k]? = some (some (ks, f))) → ∀ k', mvalD D' k l k' = bif (decide (k ≤ i) && eqI ks k') then f else mvalD D k l k'
  | [], k, _, h, k' => by
    have : ¬ k ≤ i := fun hk => by have := h hk; simp at this
    simp [mvalD, this]
  | x :: l, k, ha, h, k' => by
    have ha' : apart l = true := by
      cases x with
      | none => exact ha
      | some q => simp only [apart, Bool.and_eq_true] at ha; exact ha.2
    have hat : k + 1 ≤ i → l[i - (k + 1)]? = some (some (ks, f)) := fun hk => by
      have := h (by omega)
      rw [show i - k = (i - (k + 1)) + 1 from by omega] at this
      simpa using this
    have ih := mvalD_add (D := D) (D' := D') hadd (ks := ks) (f := f) l (k + 1) ha' hat k'
    rcases Nat.lt_trichotomy k i with hlt | rfl | hgt
    · have h1 : D' k = D k := by rw [hadd]; have : (k == i) = false := by simp; omega
                                 rw [this]; simp
      have e1 : decide (k + 1 ≤ i) = true := by simp; omega
      have e2 : decide (k ≤ i) = true := by simp; omega
      rw [e1] at ih
      rw [e2]
      cases x with
      | none => simpa [mvalD] using ih
      | some q =>
        obtain ⟨ks', f'⟩ := q
        simp only [mvalD, ih, h1]
        -- keys apart
        simp only [apart, Bool.and_eq_true, List.all_eq_true] at ha
        have hne := ha.1 _ (List.mem_of_getElem? (hat hlt))
        simp only [Bool.not_eq_true'] at hne
        cases h2 : eqI ks k' with
        | false => simp
        | true =>
          cases h3 : eqI ks' k' with
          | false => simp
          | true =>
            have a := (eqI_iff _ _).1 h2
            have b := (eqI_iff _ _).1 h3
            subst a
            subst b
            rw [(eqI_iff _ _).2 rfl] at hne
            cases hne
    · have h0 := h (Nat.le_refl _)
      simp only [Nat.sub_self, List.getElem?_cons_zero, Option.some.injEq] at h0
      subst h0
      have e1 : decide (k + 1 ≤ k) = false := by simp
      rw [e1] at ih
      have h1 : D' k = true := by rw [hadd]; simp
      simp only [mvalD, ih, h1]
      cases D k <;> cases eqI ks k' <;> simp
    · have h1 : D' k = D k := by rw [hadd]; have : (k == i) = false := by simp; omega
                                 rw [this]; simp
      have e1 : decide (k + 1 ≤ i) = false := by simp; omega
      have e2 : decide (k ≤ i) = false := by simp; omega
      rw [e1] at ih
      rw [e2]
      cases x with
      | none => simpa [mvalD] using ih
      | some q =>
        obtain ⟨ks', f'⟩ := q
        simp only [mvalD, ih, h1]
        simp
end Go.Proofs.YtmpddomgiplnmaaDoor.Abs

/-
  REGIONS WHOSE ORDER IS OPEN (4): the frame of such a proof, over any relation; a map's literal.
-/
namespace Go.Proofs.YtmpddomgiplnmaaDoor.Abs
open Go

section
variable {P : Program} {T : Lays} {S : St} {Q : Exit → St → Prop}

theorem draw_core {Q' : Exit → Act → World → Prop} {E0 : Nat → SV} (hm : P.follows .mixedOrders = true) {ro : Option Nat} {nf : Nat} {id : Nat} {ops : Array Oper} {tr : List (Option Nat × SV)} (hnd : noDefer ops.toList = true) (hord : ordOk ops.toList = true) (hlen : tr.length = ops.size)
    (htr0 : ∀ (j : Nat) o, ops[j]? = some o → ∃ x, tr[j]? = some (o.dst, x)) (RS : (Nat → Bool) → Act → World → Prop) {a : Act} {w : World}
    (hstart : RS (fun _ => false) a { w with drawn := w.drawn + 1 })
    (hstep : ∀ (D : Nat → Bool) (i : Nat) o x (a : Act) (w : World), ops[i]? = some o → tr[i]? = some (o.dst, x) → D i = false → (∀ j, Reach ops i j → D j = true) → (∀ j, D j = true → ¬ Reach ops j i) → RS D a w →
      restr (envD D tr E0) (looks ops.toList o) = restr (envD (fun j => Nat.blt j i) tr E0) (looks ops.toList o) →
      envD (fun j => D j || j == i) tr E0 = putE (envD D tr E0) o.dst x → wpOpL P ops Q' i (RS fun j => D j || j == i) a w)
    (hend : ∀ (D : Nat → Bool) (a : Act) (w : World), (∀ j, j < ops.size → D j = true) → (∀ j, ops.size ≤ j → D j = false) → RS D a w → Q' .normal a w) : (Code.region id ops true).wpIn (wr ro) nf P Q' a w := by
  unfold ordOk at hord
  rw [Bool.and_eq_true] at hord
  have hedges := edgesOk_get ops.toList 0 hord.1
  have hpairs := pairsOk_get ops.toList 0 hord.2
  have hclo : ∀ k i, ((clo [] ops.toList).getD k 0).testBit i = true → Reach ops k i := clo_reach ops.toList [] (fun j o hj => by simpa using hj) fun k i hk => by simp at hk
  have hget' : ∀ (j : Nat) o, ops[j]? = some o → ops.toList[j]? = some o := fun j o hj => by simpa using hj
  have htr : ∀ (j : Nat) d x, tr[j]? = some (d, x) → ∃ o : Oper, ops[j]? = some o ∧ o.dst = d := by
    intro j d x hj
    have hlt : j < ops.size := by
      rw [← hlen]
      exact (List.getElem?_eq_some_iff.1 hj).1
    obtain ⟨x', q⟩ := htr0 j ops[j] (by simp [hlt])
    rw [hj] at q
    simp only [Option.some.injEq, Prod.mk.injEq] at q
    exact ⟨_, by simp [hlt], q.1.symm⟩
  let I : Array Bool → Act → World → Prop := fun listed a w => listed.size = ops.size ∧ (∀ j o, ops[j]? = some o → listed.getD j false = true → ∀ e ∈ o.after, Region.binds .any e = true → listed.getD e.on false = true) ∧
    RS (fun j => listed.getD j false) a w
  refine wpIn_region_anyL hm hnd (wpAny_inv I ?_ ?_ ops.size (Array.replicate ops.size false) a _ (by simp) ?_ ?_)
  · rintro listed a w i ⟨hs, hclosed, hRi⟩ hi
    rw [mem_ready] at hi
    obtain ⟨hfalse, o, ho, hedge⟩ := hi
    have hlt : i < ops.size := (Array.getElem?_eq_some_iff.1 ho).1
    have hl : i < listed.size := by omega
    have hfi : listed.getD i false = false := by
      simpa [Array.getD, hl] using hfalse
    have reachT : ∀ j, Reach ops i j → listed.getD j false = true := fun j hj =>
      reach_listed hclosed hj fun o' ho' => by rw [ho] at ho'; cases ho'; exact hedge
    have reachF : ∀ j, listed.getD j false = true → ¬ Reach ops j i := by
      intro j hj hr
      have hjs : j < listed.size := by
        rcases Nat.lt_or_ge j listed.size with h | h
        · exact h
        · simp [Array.getD, Nat.not_lt.2 h] at hj
      have hoj : ops[j]? = some (ops[j]'(by omega)) := by simp [show j < ops.size by omega]
      have := reach_listed hclosed hr fun o' ho' => hclosed j o' ho' hj
      rw [hfi] at this
      cases this
    have before : ∀ j oj, ops[j]? = some oj → j < i → touch ops.toList oj o = true → listed.getD j false = true := by
      intro j oj hoj hji ht
      have := hpairs i o (hget' i o ho) j oj (by omega) (hget' j oj hoj) ht
      rw [Nat.zero_add] at this
      exact reachT j (hclo _ _ this)
    have behind : ∀ j oj, ops[j]? = some oj → i < j → touch ops.toList o oj = true → listed.getD j false = false := by
      intro j oj hoj hij ht
      cases hl : listed.getD j false with
      | false => rfl
      | true =>
        have := hpairs j oj (hget' j oj hoj) i o (by omega) (hget' i o ho) ht
        rw [Nat.zero_add] at this
        exact absurd (hclo _ _ this) (reachF j hl)
    have hrestr : restr (envD (fun j => listed.getD j false) tr E0) (looks ops.toList o) = restr (envD (fun j => Nat.blt j i) tr E0) (looks ops.toList o) := by
      funext t
      unfold restr
      cases hmem : memN (looks ops.toList o) t with
      | false => rfl
      | true =>
        simp only [cond_true, envD]
        congr 1
        refine valD_congr tr 0 fun j d y hj hdt => ?_
        subst hdt
        obtain ⟨oj, hoj, hdj⟩ := htr j _ y hj
        simp only [Nat.zero_add]
        rcases Nat.lt_trichotomy j i with h1 | h1 | h1
        · rw [before j oj hoj h1 (by unfold touch; rw [hdj]; simp [hmem])]
          have : Nat.blt j i = true := Nat.ble_eq_true_of_le h1
          rw [this]
        · subst h1
          rw [hfi]
          cases hb : Nat.blt j j with
          | false => rfl
          | true => have : j < j := Nat.le_of_ble_eq_true hb; omega
        · rw [behind j oj hoj h1 (by unfold touch; rw [hdj]; simp [hmem])]
          cases hb : Nat.blt j i with
          | false => rfl
          | true => have : j < i := Nat.le_of_ble_eq_true hb; omega
    obtain ⟨x, htri⟩ := htr0 i o ho
    have hadd : ∀ j, (listed.setIfInBounds i true).getD j false = (listed.getD j false || j == i) := by
      intro j
      by_cases hji : i = j
      · subst hji
        simp [Array.getD_eq_getD_getElem?, hl]
      · rw [getD_set_ne false hji]
        have : (j == i) = false := by simpa using Ne.symm hji
        rw [this]
        simp
    have hval := valD_add (D := fun j => listed.getD j false) (D' := fun j => (listed.setIfInBounds i true).getD j false) (i := i) hadd tr 0 (Nat.zero_le _) (by simpa using htri) fun j d y hj hij hd hn => by
      obtain ⟨oj, hoj, hdj⟩ := htr j d y hj
      rw [Nat.zero_add] at hij ⊢
      refine behind j oj hoj hij ?_
      unfold touch
      rw [hdj]
      subst hd
      cases hod : o.dst with
      | none => exact absurd hod hn
      | some d' => simp
    have hDeq : (fun j => (listed.setIfInBounds i true).getD j false) = fun j => listed.getD j false || j == i := funext hadd
    have henv : envD (fun j => listed.getD j false || j == i) tr E0 = putE (envD (fun j => listed.getD j false) tr E0) o.dst x := by
      funext t
      rw [putE_get, ← hDeq]
      simp only [envD, hval t]
      by_cases hdt : o.dst = some t <;> simp [hdt]
    refine wpOpL_mono (fun a' w' h => ⟨by simpa using hs, ?_, by rw [hDeq]; exact h⟩) (hstep (fun j => listed.getD j false) i o x a w ho htri hfi reachT reachF hRi hrestr henv)
    intro j oj hoj hj e he hb
    by_cases hji : i = j
    · subst hji
      rw [ho] at hoj
      cases hoj
      exact getD_set_true (hedge e he hb)
    · rw [getD_set_ne false hji] at hj
      exact getD_set_true (hclosed j oj hoj hj e he hb)
  · rintro listed a w ⟨hs, hclosed, hRi⟩ hr
    have hdone : ∀ n, n < ops.size → listed.getD n false = true := by
      intro n
      induction n using Nat.strongRecOn with
      | _ n ih =>
        intro hn
        cases hl : listed.getD n false with
        | true => rfl
        | false =>
          have hlt : n < listed.size := by omega
          have hmem : n ∈ Region.ready .any ops listed := by
            rw [mem_ready]
            refine ⟨by simpa [Array.getD, hlt] using hl, ops[n], by simp [hn], fun e he hb => ?_⟩
            have := hedges n ops[n] (hget' n _ (by simp [hn])) e he hb
            exact ih e.on (by omega) (by omega)
          rw [hr] at hmem
          cases hmem
    exact hend _ a w hdone (fun j hj => by simp [Array.getD, show ¬ j < listed.size by omega]) hRi
  · refine Nat.le_trans (List.length_filter_le _ _) (by simp)
  · refine ⟨by simp, fun j o _ hj => ?_, ?_⟩
    · rw [rep_false] at hj; cases hj
    · have : (fun j => (Array.replicate ops.size false).getD j false) = fun _ => false := funext fun j => rep_false _ j
      rw [this]
      exact hstart
end
end Go.Proofs.YtmpddomgiplnmaaDoor.Abs

/-
  REGIONS WHOSE ORDER IS OPEN (5): a map that is built of a literal.
-/
namespace Go.Proofs.YtmpddomgiplnmaaDoor.Abs
open Go

/-- One operation of such a region. -/
def litStep (P : Program) (T : Lays) (orc : Tab) (H : Nat → Option ABlk) (nx m0 : Nat) (ka : Bool) (kks : List IntKind) (va : Bool) (vn : Nat) (c : List Nat) (i : Nat) (E : Nat → SV) (o : Oper) (g : Option Bool) : Option (SV × Prop × Option (List Int × (Nat → IV))) :=
  match o.op with
  | .makeMap _ none => match g with
    | none => bif Nat.beq i m0 then some (.cv (.one (.omp nx)), True, none) else none
    | some _ => none
  | .insert t m k x => match g, o.dst, litPut T nx ka kks va vn E t m k x with
    | none, none, some (ks, f, p) => bif (c.getD i 0).testBit m0 && !(Nat.beq i m0) then some (.undef, p, some (ks, f)) else none
    | _, _, _ => none
  | _ => match stepV P T orc H i E o g with
    | some (x, vc) => bif Nat.beq i m0 then none else some (x, vc, none)
    | none => none

def litOps (P : Program) (T : Lays) (orc : Tab) (nx m0 : Nat) (ka : Bool) (kks : List IntKind) (va : Bool) (vn : Nat) (c : List Nat) (ops : List Oper) (n : Nat) (H : Nat → Option ABlk) : Nat → (Nat → SV) → List Oper → Option (List (Option Nat × SV) × List (Option (List Int × (Nat → IV))) × (Nat → SV) × Prop)
  | _, E, [] => some ([], [], E, True)
  | i, E, o :: rest => match guardOf ops (restr E (looks ops o)) o.guard with
    | none => none
    | some g => bif dstOk o.dst n then match litStep P T orc H nx m0 ka kks va vn c i (restr E (looks ops o)) o g with
      | none => none
      | some (x, vc, u) => match litOps P T orc nx m0 ka kks va vn c ops n H (i + 1) (putE E o.dst x) rest with
        | none => none
        | some (tr, ins, Ef, p) => some ((o.dst, x) :: tr, u :: ins, Ef, vc ∧ p)
      else none

section
variable {K : Nat} {P : Program} {T : Lays} {S : St} {Q : Exit → St → Prop}

theorem litOps_get {orc : Tab} {nx m0 : Nat} {ka va : Bool} {kks : List IntKind} {vn : Nat} {c : List Nat} {ops : List Oper} {n : Nat} {H : Nat → Option ABlk} : ∀ (rest : List Oper) (k : Nat) (E : Nat → SV) (tr : List (Option Nat × SV)) (ins : List (Option (List Int × (Nat → IV)))) (Ef : Nat → SV) (p : Prop), litOps P T orc nx m0 ka kks va vn c ops n H k E rest = some (tr, ins, Ef, p) → p →
    tr.length = rest.length ∧ ins.length = rest.length ∧ (Ef = envD (fun _ => true) tr E) ∧ ∀ j o, rest[j]? = some o → ∃ g x vc u, guardOf ops (restr (envD (fun i => Nat.blt i j) tr E) (looks ops o)) o.guard = some g ∧ dstOk o.dst n = true ∧
      litStep P T orc H nx m0 ka kks va vn c (k + j) (restr (envD (fun i => Nat.blt i j) tr E) (looks ops o)) o g = some (x, vc, u) ∧ vc ∧ tr[j]? = some (o.dst, x) ∧ ins[j]? = some u := by
  intro rest
  induction rest with
  | nil =>
    intro k E tr ins Ef p h hp
    simp only [litOps, Option.some.injEq, Prod.mk.injEq] at h
    obtain ⟨rfl, rfl, rfl, _⟩ := h
    exact ⟨rfl, rfl, by funext t; rfl, fun j o hj => by simp at hj⟩
  | cons o rest ih =>
    intro k E tr ins Ef p h hp
    simp only [litOps] at h
    split at h
    · cases h
    · rename_i g hg
      cases hd : dstOk o.dst n with
      | false => rw [hd] at h; simp at h
      | true =>
        rw [hd] at h
        simp only [cond_true] at h
        split at h
        · cases h
        · rename_i x vc u hs
          split at h
          · cases h
          · rename_i tr' ins' Ef' p' hrest
            simp only [Option.some.injEq, Prod.mk.injEq] at h
            obtain ⟨rfl, rfl, rfl, rfl⟩ := h
            obtain ⟨h1, h1', h2, h3⟩ := ih (k + 1) _ tr' ins' Ef' p' hrest hp.2
            refine ⟨by simp [h1], by simp [h1'], ?_, fun j o' hj => ?_⟩
            · rw [h2]
              funext t
              simp only [envD, valD]
              rw [valD_shift (D' := fun _ => true) tr' 0 1 fun j => rfl]
              cases valD (fun _ => true) 1 tr' t with
              | some y => simp
              | none =>
                simp only [Option.getD_none, putE_get]
                by_cases hd' : o.dst = some t <;> simp [hd']
            · cases j with
              | zero =>
                simp at hj
                subst hj
                have e : envD (fun i => Nat.blt i 0) ((o.dst, x) :: tr') E = E := by
                  funext t
                  simp only [envD]
                  rw [valD_none _ _ fun j => rfl]
                  rfl
                rw [e]
                exact ⟨g, x, vc, u, hg, hd, hs, hp.1, rfl, rfl⟩
              | succ j =>
                obtain ⟨g', x', vc', u', q1, q2, q3, q4, q5, q6⟩ := h3 j o' (by simpa using hj)
                have e : envD (fun i => Nat.blt i (j + 1)) ((o.dst, x) :: tr') E = envD (fun i => Nat.blt i j) tr' (putE E o.dst x) := by
                  funext t
                  simp only [envD, valD]
                  rw [valD_shift (D := fun i => Nat.blt i (j + 1)) (D' := fun i => Nat.blt i j) tr' (0 + 1) 0 fun i => by
                    simp only [Nat.blt]
                    rw [show (0 + 1 + i).succ = (0 + i).succ.succ from by omega]
                    rfl]
                  cases valD (fun i => Nat.blt i j) 0 tr' t with
                  | some y => simp
                  | none =>
                    simp only [Option.getD_none, putE_get]
                    have : Nat.blt 0 (j + 1) = true := rfl
                    by_cases hd' : o.dst = some t <;> simp [hd', this]
                rw [e, show k + (j + 1) = k + 1 + j from by omega]
                exact ⟨g', x', vc', u', q1, q2, q3, q4, by simpa using q5, by simpa using q6⟩

theorem domD_congr {D D' : Nat → Bool} : ∀ (l : List (Option (List Int × (Nat → IV)))) (k : Nat), (∀ j, j < l.length → D (k + j) = D' (k + j)) → domD D k l = domD D' k l ∧ mvalD D k l = mvalD D' k l
  | [], _, _ => ⟨rfl, rfl⟩
  | x :: l, k, h => by
    have ih := domD_congr (D := D) (D' := D') l (k + 1) fun j hj => by
      have := h (j + 1) (by simpa using hj)
      rwa [show k + (j + 1) = k + 1 + j from by omega] at this
    have h0 := h 0 (by simp)
    simp only [Nat.add_zero] at h0
    cases x with
    | none => exact ⟨by funext k'; simp only [domD, ih.1], by funext k'; simp only [mvalD, ih.2]⟩
    | some q => exact ⟨by funext k'; simp only [domD, ih.1, h0], by funext k'; simp only [mvalD, ih.2, h0]⟩

theorem domD_none {D : Nat → Bool} : ∀ (l : List (Option (List Int × (Nat → IV)))) (k : Nat), (∀ (j : Nat) q, l[j]? = some (some q) → D (k + j) = false) → domD D k l = (fun _ => false) ∧ mvalD D k l = fun _ _ => ivDef
  | [], _, _ => ⟨rfl, rfl⟩
  | x :: l, k, h => by
    have ih := domD_none (D := D) l (k + 1) fun j q hj => by
      have := h (j + 1) q (by simpa using hj)
      rwa [show k + (j + 1) = k + 1 + j from by omega] at this
    cases x with
    | none => exact ⟨by funext k'; simp only [domD, ih.1], by funext k'; simp only [mvalD, ih.2]⟩
    | some q =>
      have h0 := h 0 q rfl
      simp only [Nat.add_zero] at h0
      exact ⟨by funext k'; simp [domD, ih.1, h0], by funext k'; simp [mvalD, ih.2, h0]⟩

theorem mvalD_all {q : (Nat → IV) → Prop} {k' : List Int} : ∀ (l : List (Option (List Int × (Nat → IV)))) (k : Nat), (∀ ks f, some (ks, f) ∈ l → q f) → domD (fun _ => true) k l k' = true → q (mvalD (fun _ => true) k l k')
  | [], _, _, h => by simp [domD] at h
  | none :: l, k, hq, h => mvalD_all l (k + 1) (fun ks f hf => hq ks f (by simp [hf])) h
  | some (ks, f) :: l, k, hq, h => by
    simp only [mvalD, Bool.true_and]
    cases he : eqI ks k' with
    | true => exact hq ks f (by simp)
    | false =>
      refine mvalD_all l (k + 1) (fun ks f hf => hq ks f (by simp [hf])) ?_
      simpa [domD, he] using h

/-- One more of no entry. -/
theorem domD_same {D : Nat → Bool} {i : Nat} {l : List (Option (List Int × (Nat → IV)))} (h : l[i]? = some none) : domD (fun j => D j || j == i) 0 l = domD D 0 l ∧ mvalD (fun j => D j || j == i) 0 l = mvalD D 0 l := by
  have : ∀ (l : List (Option (List Int × (Nat → IV)))) (k : Nat), (k ≤ i → l[i - k]? = some none) → domD (fun j => D j || j == i) k l = domD D k l ∧ mvalD (fun j => D j || j == i) k l = mvalD D k l := by
    intro l
    induction l with
    | nil => intro k _; exact ⟨rfl, rfl⟩
    | cons x l ih =>
      intro k hk
      obtain ⟨h1, h2⟩ := ih (k + 1) fun hk' => by
        have := hk (by omega)
        rw [show i - k = (i - (k + 1)) + 1 from by omega] at this
        simpa using this
      cases x with
      | none => exact ⟨by funext k'; simp only [domD, h1], by funext k'; simp only [mvalD, h2]⟩
      | some q =>
        have hne : (k == i) = false := by
          cases hb : k == i with
          | false => rfl
          | true =>
            have := eq_of_beq hb
            subst this
            have := hk (Nat.le_refl _)
            simp at this
        exact ⟨by funext k'; simp only [domD, h1, hne, Bool.or_false], by funext k'; simp only [mvalD, h2, hne, Bool.or_false]⟩
  exact this l 0 fun _ => by simpa using h

/-- The state when some of the operations are done. -/
def litS (S : St) (m0 : Nat) (ka : Bool) (kks : List IntKind) (va : Bool) (vn : Nat) (tr : List (Option Nat × SV)) (ins : List (Option (List Int × (Nat → IV)))) (D : Nat → Bool) : St :=
  { size := S.size, env := envD D tr S.env, heap := bif D m0 then updH S.heap [(S.next, some (.mp ka kks va vn (domD D 0 ins) (mvalD D 0 ins)))] else S.heap, next := bif D m0 then S.next + 1 else S.next }

theorem stepV_sound' (G : Good P T) {orc : Tab} (hTab : TabOk P orc) {C : Ctx K} {ops : Array Oper} {Q : Exit → Act → World → Prop} {i k : Nat} {o : Oper} {g : Option Bool} {x : SV} {vc : Prop} {l : List Nat} {w : World} {μ : Nat → Option Nat} {a : Act} {S : St}
    (hi : ops[i]? = some o) (hall : (ops.toList.all fun o => dstOk o.dst S.size) = true) (hR : Rel C μ S a w) (hg : guardOf ops.toList (restr S.env l) o.guard = some g) (hd : dstOk o.dst S.size = true)
    (h : stepV P T orc S.heap k (restr S.env l) o g = some (x, vc)) (hv : vc) {K : Act → World → Prop} (hK : ∀ v w', Rel C μ { S with env := putE S.env o.dst x } (a.put o.dst v) w' → K (a.put o.dst v) w') : wpOpL P ops Q i K a w :=
  stepV_sound G hTab (E := S.env) hi hall hR hg hd h hv hK

theorem AW_lit (G : Good P T) (hm : P.follows .mixedOrders = true) {id : Nat} {ops : Array Oper} (orc : Tab) (hTab : TabOk P orc) (m0 : Nat) (ka va : Bool) (kks : List IntKind) (vn : Nat) {tr : List (Option Nat × SV)} {ins : List (Option (List Int × (Nat → IV)))} {Ef : Nat → SV} {p : Prop} (hall : (ops.toList.all fun o => dstOk o.dst S.size) = true) (hord : ordOk ops.toList = true)
    (h : litOps P T orc S.next m0 ka kks va vn (clo [] ops.toList) ops.toList S.size S.heap 0 S.env ops.toList = some (tr, ins, Ef, p)) (hp : p) (hap : apart ins = true) (hm0 : Nat.blt m0 ops.toList.length = true)
    (hQ : Q .normal { size := S.size, env := Ef, heap := updH S.heap [(S.next, some (.mp ka kks va vn (domD (fun _ => true) 0 ins) (mvalD (fun _ => true) 0 ins)))], next := S.next + 1 }) (hnd : noDefer ops.toList = true := by rfl) : AW K P (.region id ops true) Q S := by
  intro C μ a w hR
  obtain ⟨hlen, hilen, hEf, hget⟩ := litOps_get ops.toList 0 S.env tr ins Ef p h hp
  have hclo : ∀ k i, ((clo [] ops.toList).getD k 0).testBit i = true → Reach ops k i := clo_reach ops.toList [] (fun j o hj => by simpa using hj) fun k i hk => by simp at hk
  have hHn : S.heap S.next = none := by
    cases h : S.heap S.next with
    | none => rfl
    | some B => have := (hR.heap.blk _ B h).1; omega
  refine draw_core (E0 := S.env) (tr := tr) hm hnd hord (by simpa using hlen) (fun j o hj => ?_) (fun D a w => ∃ μ, Rel C μ (litS S m0 ka kks va vn tr ins D) a w) ?_ ?_ ?_
  · obtain ⟨_, x, _, _, _, _, _, _, q, _⟩ := hget j o (by simpa using hj)
    exact ⟨x, q⟩
  · refine ⟨μ, ?_⟩
    have e : litS S m0 ka kks va vn tr ins (fun _ => false) = S := by
      have : envD (fun _ => false) tr S.env = S.env := by
        funext t
        simp only [envD]
        rw [valD_none _ _ fun j => rfl]
        rfl
      unfold litS
      rw [this]
      rfl
    rw [e]
    exact hR.drew rfl rfl rfl rfl
  · rintro D i o x a w ho htri hDi hT hF ⟨μ, hRi⟩ hrestr henv
    obtain ⟨g, x', vc, u, hg, hd, hst, hvc, htri', hui⟩ := hget i o (by simpa using ho)
    rw [htri] at htri'
    simp only [Option.some.injEq, Prod.mk.injEq, true_and] at htri'
    subst htri'
    rw [Nat.zero_add] at hst
    rw [← hrestr] at hg hst
    have hall' : ∀ (j : Nat) o', ops[j]? = some o' → dstOk o'.dst S.size = true := by
      intro j o' hj
      rw [List.all_eq_true] at hall
      exact hall o' (List.mem_of_getElem? (show ops.toList[j]? = some o' by simpa using hj))
    -- a step that changes no memory
    have plain : Nat.beq i m0 = false → u = none → stepV P T orc S.heap i (restr (envD D tr S.env) (looks ops.toList o)) o g = some (x, vc) → wpOpL P ops (Lift C Q) i (fun a w => ∃ μ, Rel C μ (litS S m0 ka kks va vn tr ins (fun j => D j || j == i)) a w) a w := by
      intro hne hu hs
      subst hu
      have hs' : stepV P T orc (litS S m0 ka kks va vn tr ins D).heap i (restr (litS S m0 ka kks va vn tr ins D).env (looks ops.toList o)) o g = some (x, vc) := by
        refine stepV_more (fun k B hB => ?_) hs
        show (bif D m0 then _ else S.heap) k = some B
        cases D m0 with
        | false => exact hB
        | true =>
          simp only [cond_true]
          rw [updH_one, if_neg (by rintro rfl; rw [hHn] at hB; cases hB)]
          exact hB
      refine stepV_sound' (S := litS S m0 ka kks va vn tr ins D) G hTab ho hall hRi hg hd hs' hvc fun v w' hR' => ⟨μ, ?_⟩
      have hDm : (D m0 || m0 == i) = D m0 := by
        have : (m0 == i) = false := by
          cases hb : m0 == i with
          | false => rfl
          | true => have := eq_of_beq hb; subst this; simp at hne
        rw [this, Bool.or_false]
      have e : litS S m0 ka kks va vn tr ins (fun j => D j || j == i) = { litS S m0 ka kks va vn tr ins D with env := putE (litS S m0 ka kks va vn tr ins D).env o.dst x } := by
        unfold litS
        simp only [henv, hDm, (domD_same (D := D) hui).1, (domD_same (D := D) hui).2]
      rw [e]
      exact hR'
    have run : ∀ {y : SV} {S1 : St}, Does P C.F w (litS S m0 ka kks va vn tr ins D).heap μ (litS S m0 ka kks va vn tr ins D).next a o y S1.heap S1.next → g = none → S1.size = S.size → S1.env = envD D tr S.env → { S1 with env := putE S1.env o.dst y } = litS S m0 ka kks va vn tr ins (fun j => D j || j == i) → wpOpL P ops (Lift C Q) i (fun a w => ∃ μ, Rel C μ (litS S m0 ka kks va vn tr ins (fun j => D j || j == i)) a w) a w := by
      rintro y S1 ⟨v, w', μ', hrun, hext, hH', hs⟩ hgn hsz he heq
      subst hgn
      have hR0 := (restr_le (S := litS S m0 ka kks va vn tr ins D) (litS S m0 ka kks va vn tr ins D).env (looks ops.toList o)).rel hRi
      have hw := guardOf_sound hR0.env hg hR0.size hall'
      unfold wpOpL
      rw [ho]
      simp only
      rw [if_pos (by rw [hw]; rfl)]
      unfold Oper.wp
      have hR1 : Rel C μ' S1 a w' := by
        have := hRi.step hext hH'
        obtain ⟨z1, z2, z3, z4⟩ := S1
        simp only at hsz he
        subst hsz
        subst he
        exact this
      have hR2 := hR1.put (d := o.dst) hs (by rw [hsz]; exact hd)
      rw [heq] at hR2
      rcases hrun with hrun | ⟨hrun, rfl⟩
      · rw [hrun]; exact ⟨μ', hR2⟩
      · rw [hrun]; exact ⟨μ', hR2⟩
    have hRr := (restr_le (S := litS S m0 ka kks va vn tr ins D) (litS S m0 ka kks va vn tr ins D).env (looks ops.toList o)).rel hRi
    unfold litStep at hst
    split at hst
    · rename_i t hop
      cases g with
      | some _ => simp at hst
      | none =>
        cases hb : Nat.beq i m0 with
        | false => rw [hb] at hst; simp at hst
        | true =>
          rw [hb] at hst
          simp only [cond_true, Option.some.injEq, Prod.mk.injEq] at hst
          obtain ⟨rfl, rfl, rfl⟩ := hst
          obtain rfl := Nat.eq_of_beq_eq_true hb
          have hdoes : Does P C.F w S.heap μ S.next a o (.cv (.one (.omp S.next))) (updH S.heap [(S.next, some (.mp ka kks va vn (fun _ => false) fun _ _ => ivDef))]) (S.next + 1) := by
            refine does_makeMap ?_ hop
            have := hRi.heap
            simp only [litS, hDi, cond_false] at this
            exact this
          refine run (S1 := { size := S.size, env := envD D tr S.env, heap := updH S.heap [(S.next, some (.mp ka kks va vn (fun _ => false) fun _ _ => ivDef))], next := S.next + 1 }) (by simpa only [litS, hDi, cond_false] using hdoes) rfl rfl rfl ?_
          have hnone : ∀ (j : Nat) q, ins[j]? = some (some q) → (D (0 + j) || (0 + j) == i) = false := by
            intro j q hj
            rw [Nat.zero_add]
            have hji : j ≠ i := by rintro rfl; rw [hui] at hj; cases hj
            have hjl : j < ops.toList.length := by rw [← hilen]; exact (List.getElem?_eq_some_iff.1 hj).1
            obtain ⟨g2, x2, vc2, u2, _, _, hst2, _, _, hu2⟩ := hget j _ (List.getElem?_eq_getElem hjl)
            rw [hj] at hu2
            simp only [Option.some.injEq] at hu2
            subst hu2
            have hDj : D j = false := by
              cases hDj : D j with
              | false => rfl
              | true =>
                exfalso
                rw [Nat.zero_add] at hst2
                unfold litStep at hst2
                split at hst2
                · cases g2 with
                  | some _ => simp at hst2
                  | none => cases hb2 : Nat.beq j i with
                    | false => rw [hb2] at hst2; simp at hst2
                    | true => exact hji (Nat.eq_of_beq_eq_true hb2)
                · split at hst2
                  · rename_i hlp
                    cases hb2 : (((clo [] ops.toList).getD j 0).testBit i && !(Nat.beq j i)) with
                    | false => rw [hb2] at hst2; simp at hst2
                    | true =>
                      rw [Bool.and_eq_true] at hb2
                      exact hF j hDj (hclo _ _ hb2.1)
                  · cases hst2
                · split at hst2
                  · cases hb2 : Nat.beq j i with
                    | true => exact hji (Nat.eq_of_beq_eq_true hb2)
                    | false => rw [hb2] at hst2; simp at hst2
                  · cases hst2
            rw [hDj]
            simpa using hji
          have hd0 := domD_none (D := fun j => D j || j == i) ins 0 hnone
          unfold litS
          simp only [henv, hd0.1, hd0.2, beq_self_eq_true, Bool.or_true, cond_true]
    · rename_i t m k y hop
      split at hst
      · rename_i ks f q hdst hlp
        cases hb : (((clo [] ops.toList).getD i 0).testBit m0 && !(Nat.beq i m0)) with
        | false => rw [hb] at hst; simp at hst
        | true =>
          rw [hb] at hst
          simp only [cond_true, Option.some.injEq, Prod.mk.injEq] at hst
          obtain ⟨rfl, rfl, rfl⟩ := hst
          rw [Bool.and_eq_true] at hb
          have hDm : D m0 = true := hT m0 (hclo _ _ hb.1)
          have hne : i ≠ m0 := by
            rintro rfl
            simp at hb
          have hput := litPut_put (H := (litS S m0 ka kks va vn tr ins D).heap) hlp (by simp only [litS, hDm, cond_true]; rw [updH_one, if_pos rfl])
          have hdoes := does_mapPut0 G.lay G.more hRr.heap hRr.env (.inr hop) hput hvc
          refine run (y := .undef) (S1 := { size := S.size, env := envD D tr S.env, heap := _, next := _ }) hdoes rfl rfl rfl ?_
          have hadd : ∀ j, (D j || j == i) = (D j || j == i) := fun _ => rfl
          have e1 := fun k' => domD_add (D := D) (D' := fun j => D j || j == i) (i := i) hadd (ks := ks) (f := f) ins 0 (fun _ => by simpa using hui) k'
          have e2 := fun k' => mvalD_add (D := D) (D' := fun j => D j || j == i) (i := i) hadd (ks := ks) (f := f) ins 0 hap (fun _ => by simpa using hui) k'
          simp only [Nat.zero_le, decide_true, Bool.true_and] at e1 e2
          unfold litS
          rw [funext e1, funext e2]
          simp only [henv, hdst, hDm, Bool.true_or, cond_true, putE, St.mk.injEq, true_and, and_true]
          funext b
          by_cases hbn : b = S.next
          · simp [updH_one, hbn]
          · have hb' : Nat.beq b S.next = false := by
              cases hb' : Nat.beq b S.next with
              | false => rfl
              | true => exact absurd (Nat.eq_of_beq_eq_true hb') hbn
            simp [updH, hb']
      · cases hst
    · split at hst
      · rename_i x2 vc2 hs
        cases hb : Nat.beq i m0 with
        | true => rw [hb] at hst; simp at hst
        | false =>
          rw [hb] at hst
          simp only [cond_false, Option.some.injEq, Prod.mk.injEq] at hst
          obtain ⟨rfl, rfl, rfl⟩ := hst
          exact plain hb rfl hs
      · cases hst
  · rintro D a w hall1 hall2 ⟨μ, hRi⟩
    refine ⟨C, .refl C, μ, _, hRi, ?_⟩
    have hDm : D m0 = true := hall1 m0 (by
      have : m0 < ops.toList.length := Nat.le_of_ble_eq_true hm0
      simpa using this)
    have hcg := domD_congr (D := D) (D' := fun _ => true) ins 0 fun j hj => by
      rw [Nat.zero_add]
      exact hall1 j (by rw [hilen] at hj; simpa using hj)
    have henv : envD D tr S.env = Ef := by
      rw [hEf]
      funext t
      simp only [envD]
      congr 1
      refine valD_congr tr 0 fun j d y hj _ => ?_
      rw [Nat.zero_add]
      exact hall1 j (by
        have := (List.getElem?_eq_some_iff.1 hj).1
        rw [hlen] at this
        simpa using this)
    unfold litS
    simp only [hDm, cond_true, hcg.1, hcg.2, henv]
    exact hQ
end
end Go.Proofs.YtmpddomgiplnmaaDoor.Abs

/-
  REGIONS IN THE ORDER OF THE TEXT, with calls whose answers are told (by the operation's place).
-/
namespace Go.Proofs.YtmpddomgiplnmaaDoor.Abs
open Go

def putE1 (E : Nat → SV) (d : Nat) (v : SV) : Nat → SV := fun t => bif Nat.beq t d then v else E t

/-- Data without references. -/
def flatA : AV → Bool
  | .imm (.val _) => true
  | _ => false
def flatC : CV → Bool
  | .one x => flatA x
  | .agg l => l.all flatA
def flatS : SV → Bool
  | .cv c => flatC c
  | .tup l => l.all flatC
  | _ => false
def lendT (H : Nat → Option ABlk) (l : List CV) : List CV := match frzT H l with
  | some (l', _) => l'
  | none => []
def lendP (H : Nat → Option ABlk) (l : List CV) : Prop := match frzT H l with
  | some (_, p) => p
  | none => False
/-- A call on what is ours, lent for as long as it runs: it answers data without references. -/
def lentV (orc : Tab) (H : Nat → Option ABlk) (E : Nat → SV) (o : Oper) (g : Option Bool) : Option (SV × Prop) := match o.op with
  | .call c => match callOf E c with
    | some (f, cvs, q) => match orc f (lendT H cvs) with
      | some (r, q2) => bif flatS r then some (gdw g r, gdp g (q ∧ (lendP H cvs ∧ q2))) else none
      | none => none
    | none => none
  | _ => none
def stepO (P : Program) (T : Lays) (orc : Tab) (H : Nat → Option ABlk) (i : Nat) (E : Nat → SV) (o : Oper) (g : Option Bool) : Option (SV × Prop) :=
  match stepV P T orc H i E o g with
  | some r => some r
  | none => lentV orc H E o g

/-- Operations, reckoned one behind the other; a call answers what 'orc' tells. -/
def runOps (P : Program) (T : Lays) (orc : Tab) (ops : List Oper) (n : Nat) : Nat → Nat → (Nat → SV) → (Nat → Option ABlk) → Nat → Prop → List Oper → Option (St × Prop × List Oper)
  | 0, _, E, H, nx, p, l => some (⟨n, E, H, nx⟩, p, l)
  | _ + 1, _, E, H, nx, p, [] => some (⟨n, E, H, nx⟩, p, [])
  | k + 1, i, E, H, nx, p, o :: rest => match guardOf ops E o.guard with
    | none => some (⟨n, E, H, nx⟩, p, o :: rest)
    | some g => bif dstOk o.dst n then match stepO P T orc H i E o g with
      | some (x, vc) => match o.dst with
        | some d => runOps P T orc ops n k (i + 1) (putE1 E d x) H nx (p ∧ vc) rest
        | none => runOps P T orc ops n k (i + 1) E H nx (p ∧ vc) rest
      | none => match g, evalM T nx H E o.op with
        | none, some (x, U, vc) => match o.dst with
          | some d => runOps P T orc ops n k (i + 1) (putE1 E d x) (updH H U) (nx + 1) (p ∧ vc) rest
          | none => runOps P T orc ops n k (i + 1) E (updH H U) (nx + 1) (p ∧ vc) rest
        | _, _ => some (⟨n, E, H, nx⟩, p, o :: rest)
      else some (⟨n, E, H, nx⟩, p, o :: rest)

section
variable {K : Nat} {P : Program} {T : Lays} {S : St} {Q : Exit → St → Prop}

theorem restr_all (E : Nat → SV) (l : List Nat) (h : ∀ t, memN l t = true) : restr E l = E := by
  funext t; simp [restr, h t]

theorem step_wp (G : Good P T) {orc : Tab} (hTab : TabOk P orc) {C : Ctx K} {ops : Array Oper} {Q : Exit → Act → World → Prop} {k : Nat} {o : Oper} {g : Option Bool} {x : SV} {vc : Prop} {w : World} {μ : Nat → Option Nat} {a : Act} {rest : List Oper}
    (hall : (ops.toList.all fun o => dstOk o.dst S.size) = true) (hR : Rel C μ S a w) (hg : guardOf ops.toList S.env o.guard = some g) (hd : dstOk o.dst S.size = true)
    (h : stepV P T orc S.heap k S.env o g = some (x, vc)) (hv : vc) (hK : ∀ v w', Rel C μ { S with env := putE S.env o.dst x } (a.put o.dst v) w' → wpL P ops Q rest (a.put o.dst v) w') : wpL P ops Q (o :: rest) a w := by
  have hall' : ∀ (j : Nat) o', ops[j]? = some o' → dstOk o'.dst S.size = true := by
    intro j o' hj
    rw [List.all_eq_true] at hall
    exact hall o' (List.mem_of_getElem? (show ops.toList[j]? = some o' by simpa using hj))
  have hw := guardOf_sound hR.env hg hR.size hall'
  unfold wpL
  have key : ∀ (y : SV) (p : Prop), (evalV T S.heap S.env o.op = some (y, p) ∨ ∃ c f r cvs q q2, o.op = .call c ∧ callOf S.env c = some (f, cvs, q) ∧ cvs.all immCV = true ∧ immSV r = true ∧ y = r ∧ p = (q ∧ q2) ∧ orc f cvs = some (r, q2)) → p →
      (∀ v w', Rel C μ S a w' → SRel w' (Own C.F S.heap μ) μ y v → wpL P ops Q rest (a.put o.dst v) w') → o.wp P a w (wpL P ops Q rest) Q := by
    intro y p hc hp hK'
    rcases hc with hc | ⟨c, f, r, cvs, q, q2, ho, hl, h1, h2, rfl, rfl, horc⟩
    · obtain ⟨v, hrun, hs⟩ := evalV_sound G.lay G.zero G.fields G.more hR.heap hR.env hc hp
      unfold Oper.wp
      rw [hrun]
      exact hK' v w hR hs
    · obtain ⟨hok, hcall⟩ := hTab _ _ _ _ horc hp.2
      obtain ⟨vals, hA0, hrun⟩ := callOf_sound hR.env hl hp.1 hok ho
      have hA := immT_rel (μ' := noneμ) h1 hA0
      unfold Oper.wp
      rw [hrun]
      refine (hcall _ w _ (own_lt hR) hR.gok hA).mono ?_
      rintro e w' ⟨v, rfl, hext, hs⟩
      obtain ⟨hR2, hs2⟩ := pcall_step hR hext hs h2
      exact hK' v w' hR2 hs2
  have shape : ∃ y p, x = gdw g y ∧ vc = gdp g p ∧ (evalV T S.heap S.env o.op = some (y, p) ∨ ∃ c f r cvs q q2, o.op = .call c ∧ callOf S.env c = some (f, cvs, q) ∧ cvs.all immCV = true ∧ immSV r = true ∧ y = r ∧ p = (q ∧ q2) ∧ orc f cvs = some (r, q2)) := by
    unfold stepV at h
    split at h
    · rename_i y p hV
      rw [force_eq] at h
      simp only [Option.some.injEq, Prod.mk.injEq] at h
      exact ⟨y, p, h.1.symm, h.2.symm, .inl hV⟩
    · split at h
      · rename_i c ho
        split at h
        · rename_i f cvs q hl
          split at h
          · rename_i r q2 horc
            cases hb : (cvs.all immCV && immSV r) with
            | false => rw [hb] at h; simp at h
            | true =>
              rw [hb] at h
              simp only [cond_true, Option.some.injEq, Prod.mk.injEq] at h
              rw [Bool.and_eq_true] at hb
              exact ⟨r, _, h.1.symm, h.2.symm, .inr ⟨c, f, r, cvs, q, q2, ho, hl, hb.1, hb.2, rfl, rfl, horc⟩⟩
          · cases h
        · cases h
      · cases h
  obtain ⟨y, p, rfl, rfl, hc⟩ := shape
  cases g with
  | none =>
    rw [if_pos (by rw [hw]; rfl)]
    exact (key y p hc hv fun v w' h1 h2 => hK v w' (h1.put h2 hd))
  | some b =>
    cases b with
    | true =>
      rw [if_pos (by rw [hw]; rfl)]
      exact (key y p hc (hv rfl) fun v w' h1 h2 => hK v w' (h1.put (x := .gd true y) (by unfold SRel; simpa using h2) hd))
    | false =>
      rw [if_neg (by rw [hw]; simp)]
      exact hK _ w (hR.put (x := .gd false y) (by unfold SRel; simp) hd)

theorem flatA_rel {w w' : World} {O O' : Nat → Prop} {μ μ' : Nat → Option Nat} {x : AV} {v : Value} (h : flatA x = true) (hx : ARel w O μ x v) : ARel w' O' μ' x v := by
  cases x with
  | imm y => cases y with
    | val u => exact hx
    | _ => simp [flatA] at h
  | _ => simp [flatA] at h
theorem flatC_rel {w w' : World} {O O' : Nat → Prop} {μ μ' : Nat → Option Nat} {x : CV} {v : Value} (h : flatC x = true) (hx : CRel w O μ x v) : CRel w' O' μ' x v := by
  cases x with
  | one y => exact flatA_rel (x := y) h hx
  | agg l =>
    obtain ⟨cs, hv, hl, hr⟩ := hx
    refine ⟨cs, hv, hl, fun i y u hy hu => flatA_rel ?_ (hr i y u hy hu)⟩
    have hl' : l.all flatA = true := h
    rw [List.all_eq_true] at hl'
    exact hl' y (List.mem_of_getElem? hy)
theorem flatS_rel {w w' : World} {O O' : Nat → Prop} {μ μ' : Nat → Option Nat} {x : SV} {v : Value} (h : flatS x = true) (hx : SRel w O μ x v) : SRel w' O' μ' x v := by
  cases x with
  | cv c => exact flatC_rel (x := c) h hx
  | tup l =>
    obtain ⟨vs, hv, hl, hr⟩ := hx
    refine ⟨vs, hv, hl, fun i y u hy hu => flatC_rel ?_ (hr i y u hy hu)⟩
    have hl' : l.all flatC = true := h
    rw [List.all_eq_true] at hl'
    exact hl' y (List.mem_of_getElem? hy)
  | _ => simp [flatS] at h

theorem lent_step {C : Ctx K} {w w' : World} {μ : Nat → Option Nat} {a : Act} (hR : Rel C μ S a w) (hext : Ext C.F w C.F noneμ w' C.F noneμ) : Rel C μ S a w' := by
  have hall : ∀ b, b < w.heap.size → w'.heap[b]? = w.heap[b]? := fun b hb => by
    by_cases h : C.F b
    · exact hext.frn b hb h
    · exact hext.keep b hb h
  have he : Ext C.F w (Own C.F S.heap μ) μ w' (Own C.F S.heap μ) μ :=
    ⟨hext.os, hext.tape, hext.output, hext.size, fun b hb _ => hall b hb, hext.shape, fun _ _ h => h, fun m hm => .inl hm, fun b hb _ => hall b hb, hext.frz, hext.drawn⟩
  refine ⟨hR.defers.mono he, hR.size, hR.env.mono he, ⟨fun k B hk => ?_, hR.heap.inj, fun k m hm => ?_, hR.heap.dis, fun m hm => Nat.lt_of_lt_of_le (hR.heap.frn m hm) hext.size⟩, hR.ext.trans he⟩
  · obtain ⟨h1, h2⟩ := hR.heap.blk k B hk
    exact ⟨h1, h2.mono he rfl fun m hm => hall m (hR.heap.lt k m hm).2⟩
  · have := hR.heap.lt k m hm
    exact ⟨this.1, Nat.lt_of_lt_of_le this.2 hext.size⟩

theorem step_wpL (G : Good P T) {orc : Tab} (hTab : TabOk P orc) {C : Ctx K} {ops : Array Oper} {Q : Exit → Act → World → Prop} {k : Nat} {o : Oper} {g : Option Bool} {x : SV} {vc : Prop} {w : World} {μ : Nat → Option Nat} {a : Act} {rest : List Oper}
    (hall : (ops.toList.all fun o => dstOk o.dst S.size) = true) (hR : Rel C μ S a w) (hg : guardOf ops.toList S.env o.guard = some g) (hd : dstOk o.dst S.size = true)
    (h : stepO P T orc S.heap k S.env o g = some (x, vc)) (hv : vc) (hK : ∀ v w', Rel C μ { S with env := putE S.env o.dst x } (a.put o.dst v) w' → wpL P ops Q rest (a.put o.dst v) w') : wpL P ops Q (o :: rest) a w := by
  unfold stepO at h
  split at h
  · rename_i r hs
    simp only [Option.some.injEq] at h
    subst h
    exact step_wp G hTab hall hR hg hd hs hv hK
  · unfold lentV at h
    split at h
    · rename_i c ho
      split at h
      · rename_i f cvs q hl
        · split at h
          · rename_i r q2 horc
            cases hf : flatS r with
            | false => rw [hf] at h; simp at h
            | true =>
              rw [hf] at h
              simp only [cond_true, Option.some.injEq, Prod.mk.injEq] at h
              obtain ⟨rfl, rfl⟩ := h
              have hall' : ∀ (j : Nat) o', ops[j]? = some o' → dstOk o'.dst S.size = true := by
                intro j o' hj
                rw [List.all_eq_true] at hall
                exact hall o' (List.mem_of_getElem? (show ops.toList[j]? = some o' by simpa using hj))
              have hw := guardOf_sound hR.env hg hR.size hall'
              have key : (q ∧ (lendP S.heap cvs ∧ q2)) → (∀ v w', Rel C μ S a w' → SRel w' (Own C.F S.heap μ) μ r v → wpL P ops Q rest (a.put o.dst v) w') → o.wp P a w (wpL P ops Q rest) Q := by
                rintro ⟨h1, h2, h3⟩ hK'
                obtain ⟨hok, hcall⟩ := hTab _ _ _ _ horc h3
                obtain ⟨vals, hA0, hrun⟩ := callOf_sound hR.env hl h1 hok ho
                have hA : TRel w C.F noneμ (lendT S.heap cvs) vals := by
                  unfold lendT
                  unfold lendP at h2
                  cases hz : frzT S.heap cvs with
                  | none => rw [hz] at h2; exact h2.elim
                  | some y =>
                    obtain ⟨cvs', p⟩ := y
                    rw [hz] at h2
                    exact frzT_sound hR.heap noneμ cvs cvs' p vals hz h2 hA0
                unfold Oper.wp
                rw [hrun]
                refine (hcall _ w _ hR.heap.frn (hR.gok.less fun _ h => .inl h) hA).mono ?_
                rintro e w' ⟨v, rfl, hext, hs⟩
                exact hK' v w' (lent_step hR hext) (flatS_rel hf hs)
              unfold wpL
              cases g with
              | none =>
                rw [if_pos (by rw [hw]; rfl)]
                exact (key hv fun v w' h1 h2 => hK v w' (h1.put h2 hd))
              | some b =>
                cases b with
                | true =>
                  rw [if_pos (by rw [hw]; rfl)]
                  exact (key (hv rfl) fun v w' h1 h2 => hK v w' (h1.put (x := .gd true r) (by unfold SRel; simpa using h2) hd))
                | false =>
                  rw [if_neg (by rw [hw]; simp)]
                  exact hK _ w (hR.put (x := .gd false r) (by unfold SRel; simp) hd)
          · cases h
      · cases h
    · cases h

theorem runOps_sound (G : Good P T) {ops : Array Oper} {orc : Tab} (hTab : TabOk P orc) {Q : Exit → St → Prop} {n : Nat} (hall : (ops.toList.all fun o => dstOk o.dst n) = true) :
    ∀ (k i : Nat) (l : List Oper) (E : Nat → SV) (H : Nat → Option ABlk) (nx : Nat) (S' : St) (p p' : Prop) (l' : List Oper), runOps P T orc ops.toList n k i E H nx p l = some (S', p', l') → p' →
      (p → AL K P ops l' Q S' → AL K P ops l Q ⟨n, E, H, nx⟩) ∧ p := by
  intro k
  induction k with
  | zero => intro i l E H nx S' p p' l' h hp; simp only [runOps, Option.some.injEq, Prod.mk.injEq] at h; obtain ⟨rfl, rfl, rfl⟩ := h; exact ⟨fun _ h => h, hp⟩
  | succ k ih =>
    intro i l E H nx S' p p' l' h hp
    cases l with
    | nil => simp only [runOps, Option.some.injEq, Prod.mk.injEq] at h; obtain ⟨rfl, rfl, rfl⟩ := h; exact ⟨fun _ h => h, hp⟩
    | cons o rest =>
      have hall' : ∀ (j : Nat) o', ops[j]? = some o' → dstOk o'.dst n = true := by
        intro j o' hj
        rw [List.all_eq_true] at hall
        exact hall o' (List.mem_of_getElem? (show ops.toList[j]? = some o' by simpa using hj))
      simp only [runOps] at h
      split at h
      · simp only [Option.some.injEq, Prod.mk.injEq] at h; obtain ⟨rfl, rfl, rfl⟩ := h; exact ⟨fun _ h => h, hp⟩
      · rename_i g hg
        cases hdst : dstOk o.dst n with
        | false => rw [hdst] at h; simp only [cond_false, Option.some.injEq, Prod.mk.injEq] at h; obtain ⟨rfl, rfl, rfl⟩ := h; exact ⟨fun _ h => h, hp⟩
        | true =>
          rw [hdst] at h
          simp only [cond_true] at h
          split at h
          · rename_i x vc hV
            have fin : runOps P T orc ops.toList n k (i + 1) (putE E o.dst x) H nx (p ∧ vc) rest = some (S', p', l') := by
              split at h
              · rename_i d hd; rw [hd]; exact h
              · rename_i hd; rw [hd]; exact h
            obtain ⟨h1, h2⟩ := ih (i + 1) rest (putE E o.dst x) H nx S' _ p' l' fin hp
            exact ⟨fun _ hQ C μ a w hR => step_wpL (S := ⟨n, E, H, nx⟩) G hTab hall hR hg hdst hV h2.2 fun v w' hR' => h1 h2 hQ C μ _ w' hR', h2.1⟩
          · split at h
            · rename_i x U vc hM hS
              have fin : runOps P T orc ops.toList n k (i + 1) (putE E o.dst x) (updH H U) (nx + 1) (p ∧ vc) rest = some (S', p', l') := by
                split at h
                · rename_i d hd; rw [hd]; exact h
                · rename_i hd; rw [hd]; exact h
              obtain ⟨h1, h2⟩ := ih (i + 1) rest (putE E o.dst x) (updH H U) (nx + 1) S' _ p' l' fin hp
              refine ⟨fun _ hQ C μ a w hR => ?_, h2.1⟩
              have hw := guardOf_sound hR.env hg hR.size hall'
              obtain ⟨v, w', μ', hrun, hext, hH', hs⟩ := evalM_sound G hR.heap hR.env hM h2.2
              unfold wpL
              rw [if_pos (by rw [hw]; rfl)]
              unfold Oper.wp
              have hR' := (hR.step hext hH').put (d := o.dst) (x := x) (v := v) hs hdst
              rcases hrun with hrun | ⟨hrun, rfl⟩
              · rw [hrun]; exact h1 h2 hQ C μ' _ w' hR'
              · rw [hrun]; exact h1 h2 hQ C μ' _ w' hR'
            · simp only [Option.some.injEq, Prod.mk.injEq] at h; obtain ⟨rfl, rfl, rfl⟩ := h; exact ⟨fun _ h => h, hp⟩

/-- A whole region in the order of the text. -/
theorem AW_run (G : Good P T) {id n nx : Nat} {E : Nat → SV} {H : Nat → Option ABlk} {ops : Array Oper} (orc : Tab) (hTab : TabOk P orc) (k : Nat) {S' : St} {p : Prop} {l' : List Oper} (hall : (ops.toList.all fun o => dstOk o.dst n) = true) (h : runOps P T orc ops.toList n k 0 E H nx True ops.toList = some (S', p, l')) (hp : p) (hQ : AL K P ops l' Q S') (hnd : noDefer ops.toList = true := by rfl) : AW K P (.region id ops false) Q ⟨n, E, H, nx⟩ :=
  AW_region ((runOps_sound G hTab hall k 0 ops.toList E H nx S' True p l' h hp).1 trivial hQ) hnd

/-- The same, when all is reckoned. -/
theorem AW_all (G : Good P T) {id n nx : Nat} {E : Nat → SV} {H : Nat → Option ABlk} {ops : Array Oper} (orc : Tab) (hTab : TabOk P orc) {S' : St} {p : Prop} (hall : (ops.toList.all fun o => dstOk o.dst n) = true) (h : runOps P T orc ops.toList n ops.toList.length 0 E H nx True ops.toList = some (S', p, [])) (hp : p) (hQ : Q .normal S') (hnd : noDefer ops.toList = true := by rfl) : AW K P (.region id ops false) Q ⟨n, E, H, nx⟩ :=
  AW_run G orc hTab _ hall h hp (AL_nil hQ) hnd

theorem AW_drw (G : Good P T) (hm : P.follows .mixedOrders = true) {id n nx : Nat} {E : Nat → SV} {H : Nat → Option ABlk} {ops : Array Oper} (orc : Tab) (hTab : TabOk P orc) {tr : List (Option Nat × SV)} {Ef : Nat → SV} {p : Prop} (hall : (ops.toList.all fun o => dstOk o.dst n) = true) (hord : ordOk ops.toList = true)
    (h : drawOps P T orc ops.toList n H 0 E ops.toList = some (tr, Ef, p)) (hp : p) (hQ : Q .normal ⟨n, Ef, H, nx⟩) (hnd : noDefer ops.toList = true := by rfl) : AW K P (.region id ops true) Q ⟨n, E, H, nx⟩ :=
  AW_draw (S := ⟨n, E, H, nx⟩) G hm orc hTab hall hord h hp hQ hnd

theorem AW_litr (G : Good P T) (hm : P.follows .mixedOrders = true) {id n nx : Nat} {E : Nat → SV} {H : Nat → Option ABlk} {ops : Array Oper} (orc : Tab) (hTab : TabOk P orc) (m0 : Nat) (ka va : Bool) (kks : List IntKind) (vn : Nat) {tr : List (Option Nat × SV)} {ins : List (Option (List Int × (Nat → IV)))} {Ef : Nat → SV} {p : Prop} (hall : (ops.toList.all fun o => dstOk o.dst n) = true) (hord : ordOk ops.toList = true)
    (h : litOps P T orc nx m0 ka kks va vn (clo [] ops.toList) ops.toList n H 0 E ops.toList = some (tr, ins, Ef, p)) (hp : p) (hap : apart ins = true) (hm0 : Nat.blt m0 ops.toList.length = true)
    (hQ : Q .normal ⟨n, Ef, updH H [(nx, some (.mp ka kks va vn (domD (fun _ => true) 0 ins) (mvalD (fun _ => true) 0 ins)))], nx + 1⟩) (hnd : noDefer ops.toList = true := by rfl) : AW K P (.region id ops true) Q ⟨n, E, H, nx⟩ :=
  AW_lit (S := ⟨n, E, H, nx⟩) G hm orc hTab m0 ka va kks vn hall hord h hp hap hm0 hQ hnd

end

def tab0 : Tab := fun _ _ => none
theorem tab0_ok (P : Program) : TabOk P tab0 := fun f args r p h => by cases h

/-- One more function's contract. -/
def tabAdd (f : FuncId) (c : List CV → Option (SV × Prop)) (tab : Tab) : Tab := fun g args => bif Nat.beq g f then c args else tab g args
theorem tabAdd_ok {P : Program} {f : FuncId} {c : List CV → Option (SV × Prop)} {tab : Tab} (hf : CallOk P f) (hc : ∀ args r p, c args = some (r, p) → p → PCall P f args r) (h : TabOk P tab) : TabOk P (tabAdd f c tab) := by
  intro g args r p hg hp
  unfold tabAdd at hg
  cases hb : Nat.beq g f with
  | true => rw [hb] at hg; obtain rfl := Nat.eq_of_beq_eq_true hb; exact ⟨hf, hc args r p hg hp⟩
  | false => rw [hb] at hg; exact h g args r p hg hp
end Go.Proofs.YtmpddomgiplnmaaDoor.Abs
