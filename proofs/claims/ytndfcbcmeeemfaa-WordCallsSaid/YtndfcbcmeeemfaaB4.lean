/-
  REGIONS WHOSE ORDER IS OPEN (3): a map that is built of a literal; its entries go in in any order.
-/
import Derived.Test.YtndfcbcmeeemfaaB3
namespace Go.Proofs.Ytndfcbcmeeemfaa.Abs
open Go

section
variable {P : Program} {T : Lays} {H H' : Nat → Option ABlk}

theorem loadAt_more (hH : ∀ k B, H k = some B → H' k = some B) {p : AV} {n : Nat} {r : List AV × Prop} (h : loadAt H p n = some r) : loadAt H' p n = some r := by
  cases p with
  | own b e i j =>
    simp only [loadAt] at h ⊢
    cases hb : H b with
    | none => rw [hb] at h; cases h
    | some B => rw [hH b B hb]; rw [hb] at h; exact h
  | _ => exact h

theorem mapOf_more (hH : ∀ k B, H k = some B → H' k = some B) {p : AV} {r : Bool × List IntKind × Bool × Nat × (List Int → Bool) × (List Int → Nat → IV)} (h : mapOf H p = some r) : mapOf H' p = some r := by
  cases p with
  | omp b =>
    simp only [mapOf] at h ⊢
    cases hb : H b with
    | none => rw [hb] at h; cases h
    | some B => rw [hH b B hb]; rw [hb] at h; exact h
  | imm x => cases x <;> exact h
  | _ => exact h

theorem evalV_more (hH : ∀ k B, H k = some B → H' k = some B) {E : Nat → SV} {o : Op} {r : SV × Prop} (h : evalV T H E o = some r) : evalV T H' E o = some r := by
  cases o with
  | load t a =>
    simp only [evalV] at h ⊢
    split at h
    · rename_i L p hL hp
      split at h
      · rename_i l q hl
        rw [loadAt_more hH hl]
        exact h
      · cases h
    · cases h
  | lookup t x ix ok =>
    simp only [evalV] at h ⊢
    split at h
    · rename_i k e s b z m ka kks ks hL hx hk
      split at h
      · rename_i h1 h2 h3
        rw [h1, h2, mapOf_more hH h3]
        exact h
      · cases h
    · cases h
  | _ => exact h

theorem evalV_call (H H' : Nat → Option ABlk) (E : Nat → SV) (c : Call) : evalV T H E (.call c) = evalV T H' E (.call c) := rfl

theorem stepV_more (hH : ∀ k B, H k = some B → H' k = some B) {orc : Tab} {i : Nat} {E : Nat → SV} {o : Oper} {g : Option Bool} {r : SV × Prop} (h : stepV P T orc H i E o g = some r) : stepV P T orc H' i E o g = some r := by
  unfold stepV at h ⊢
  cases hV : evalV T H E o.op with
  | some r' => rw [hV] at h; rw [evalV_more hH hV]; exact h
  | none =>
    rw [hV] at h
    simp only at h
    cases ho : o.op with
    | call c =>
      rw [ho] at h hV
      rw [evalV_call H' H E c, hV]
      exact h
    | _ => rw [ho] at h; simp at h
end

/-- An entry of a literal: its key, its cells. -/
def litPut (T : Lays) (nx : Nat) (ka : Bool) (kks : List IntKind) (va : Bool) (vn : Nat) (E : Nat → SV) (t : TypeId) (m k x : Operand) : Option (List Int × (Nat → IV) × Prop) :=
  match T t, rd E m, keyOf (rd E k), rd E x with
  | some ⟨.map kt _, _, _, _⟩, .cv (.one (.omp b)), some (ka1, kks1, ks), .cv c => match keyForm T kt, toIVs c.cells with
    | some (ka', kks'), some xs =>
      bif Nat.beq b nx && (bEq ka1 ka' && kindsEq kks1 kks' && (bEq ka1 ka && kindsEq kks1 kks) && (bEq (isAggC c) va && lenIs c.cells vn)) then
        some (ks, fun j => xs.getD j ivDef, need E m ∧ need E k ∧ need E x)
      else none
    | _, _ => none
  | _, _, _, _ => none

theorem litPut_put {T : Lays} {nx : Nat} {ka va : Bool} {kks : List IntKind} {vn : Nat} {E : Nat → SV} {t : TypeId} {m k x : Operand} {ks : List Int} {f : Nat → IV} {p : Prop} {H : Nat → Option ABlk} {dom : List Int → Bool} {val : List Int → Nat → IV}
    (h : litPut T nx ka kks va vn E t m k x = some (ks, f, p)) (hH : H nx = some (.mp ka kks va vn dom val)) :
    mapPut T H E t m k x = some (.undef, [(nx, some (.mp ka kks va vn (fun k' => eqI ks k' || dom k') fun k' => bif eqI ks k' then f else val k'))], p) := by
  unfold litPut at h
  split at h
  · rename_i kt e s b' z b ka1 kks1 ks' c h1 h2 h3 h4
    split at h
    · rename_i ka' kks' xs h5 h6
      cases hc : (Nat.beq b nx && (bEq ka1 ka' && kindsEq kks1 kks' && (bEq ka1 ka && kindsEq kks1 kks) && (bEq (isAggC c) va && lenIs c.cells vn))) with
      | false => rw [hc] at h; simp at h
      | true =>
        rw [hc] at h
        simp only [cond_true, Option.some.injEq, Prod.mk.injEq] at h
        obtain ⟨rfl, rfl, rfl⟩ := h
        rw [Bool.and_eq_true] at hc
        obtain rfl := Nat.eq_of_beq_eq_true hc.1
        have hc2 := hc.2
        simp only [Bool.and_eq_true] at hc2
        have e1 := bEq_eq hc2.1.2.1
        have e2 := kindsEq_eq hc2.1.2.2
        subst e1; subst e2
        unfold mapPut
        rw [h1, h2, h3, h4]
        simp only [h5, hH, h6, hc.2, cond_true]
    · cases h
  · cases h

def domD (D : Nat → Bool) : Nat → List (Option (List Int × (Nat → IV))) → List Int → Bool
  | _, [], _ => false
  | k, none :: l, k' => domD D (k + 1) l k'
  | k, some (ks, _) :: l, k' => (D k && eqI ks k') || domD D (k + 1) l k'

def mvalD (D : Nat → Bool) : Nat → List (Option (List Int × (Nat → IV))) → List Int → Nat → IV
  | _, [], _ => fun _ => ivDef
  | k, none :: l, k' => mvalD D (k + 1) l k'
  | k, some (ks, f) :: l, k' => bif D k && eqI ks k' then f else mvalD D (k + 1) l k'

theorem domD_add {D D' : Nat → Bool} {i : Nat} (hadd : ∀ j, D' j = (D j || j == i)) {ks : List Int} {f : Nat → IV} : ∀ (l : List (Option (List Int × (Nat → IV)))) (k : Nat), (k ≤ i → l[i - k]? = some (some (ks, f))) → ∀ k', domD D' k l k' = ((decide (k ≤ i) && eqI ks k') || domD D k l k')
  | [], k, h, k' => by
    have : ¬ k ≤ i := fun hk => by have := h hk; simp at this
    simp [domD, this]
  | x :: l, k, h, k' => by
    have ih := domD_add (D := D) (D' := D') hadd (ks := ks) (f := f) l (k + 1) (fun hk => by
      have := h (by omega)
      rw [show i - k = (i - (k + 1)) + 1 from by omega] at this
      simpa using this) k'
    rcases Nat.lt_trichotomy k i with hlt | rfl | hgt
    · have h1 : D' k = D k := by rw [hadd]; have : (k == i) = false := by simp; omega
                                 rw [this]; simp
      have e1 : decide (k + 1 ≤ i) = true := by simp; omega
      have e2 : decide (k ≤ i) = true := by simp; omega
      rw [e1] at ih
      rw [e2]
      cases x with
      | none => simpa [domD] using ih
      | some q =>
        obtain ⟨ks', f'⟩ := q
        simp only [domD, ih, h1]
        cases D k <;> cases eqI ks' k' <;> simp
    · have h0 := h (Nat.le_refl _)
      simp only [Nat.sub_self, List.getElem?_cons_zero, Option.some.injEq] at h0
      subst h0
      have e1 : decide (k + 1 ≤ k) = false := by simp
      rw [e1] at ih
      have h1 : D' k = true := by rw [hadd]; simp
      simp only [domD, ih, h1]
      cases D k <;> simp
    · have h1 : D' k = D k := by rw [hadd]; have : (k == i) = false := by simp; omega
                                 rw [this]; simp
      have e1 : decide (k + 1 ≤ i) = false := by simp; omega
      have e2 : decide (k ≤ i) = false := by simp; omega
      rw [e1] at ih
      rw [e2]
      cases x with
      | none => simpa [domD] using ih
      | some q =>
        obtain ⟨ks', f'⟩ := q
        simp only [domD, ih, h1]
        simp

/-- The keys differ. -/
def apart : List (Option (List Int × (Nat → IV))) → Bool
  | [] => true
  | none :: l => apart l
  | some (ks, _) :: l => (l.all fun | none => true | some (k2, _) => !(eqI ks k2)) && apart l

theorem mvalD_add {D D' : Nat → Bool} {i : Nat} (hadd : ∀ j, D' j = (D j || j == i)) {ks : List Int} {f : Nat → IV} : ∀ (l : List (Option (List Int × (Nat → IV)))) (k : Nat), apart l = true → (k ≤ i → l[i - k]? = some (some (ks, f))) → ∀ k', mvalD D' k l k' = bif (decide (k ≤ i) && eqI ks k') then f else mvalD D k l k'
  | [], k, _, h, k' => by
    have : ¬ k ≤ i := fun hk => by have := h hk; simp at this
    simp [mvalD, this]
  | x :: l, k, ha, h, k' => by
    have ha' : apart l = true := by
      cases x with
      | none => exact ha
      | some q => simp only [apart, Bool.and_eq_true] at ha; exact ha.2
    have hat : k + 1 ≤ i → l[i - (k + 1)]? = some (some (ks, f)) := fun hk => by
      have := h (by omega)
      rw [show i - k = (i - (k + 1)) + 1 from by omega] at this
      simpa using this
    have ih := mvalD_add (D := D) (D' := D') hadd (ks := ks) (f := f) l (k + 1) ha' hat k'
    rcases Nat.lt_trichotomy k i with hlt | rfl | hgt
    · have h1 : D' k = D k := by rw [hadd]; have : (k == i) = false := by simp; omega
                                 rw [this]; simp
      have e1 : decide (k + 1 ≤ i) = true := by simp; omega
      have e2 : decide (k ≤ i) = true := by simp; omega
      rw [e1] at ih
      rw [e2]
      cases x with
      | none => simpa [mvalD] using ih
      | some q =>
        obtain ⟨ks', f'⟩ := q
        simp only [mvalD, ih, h1]
        -- keys apart
        simp only [apart, Bool.and_eq_true, List.all_eq_true] at ha
        have hne := ha.1 _ (List.mem_of_getElem? (hat hlt))
        simp only [Bool.not_eq_true'] at hne
        cases h2 : eqI ks k' with
        | false => simp
        | true =>
          cases h3 : eqI ks' k' with
          | false => simp
          | true =>
            have a := (eqI_iff _ _).1 h2
            have b := (eqI_iff _ _).1 h3
            subst a
            subst b
            rw [(eqI_iff _ _).2 rfl] at hne
            cases hne
    · have h0 := h (Nat.le_refl _)
      simp only [Nat.sub_self, List.getElem?_cons_zero, Option.some.injEq] at h0
      subst h0
      have e1 : decide (k + 1 ≤ k) = false := by simp
      rw [e1] at ih
      have h1 : D' k = true := by rw [hadd]; simp
      simp only [mvalD, ih, h1]
      cases D k <;> cases eqI ks k' <;> simp
    · have h1 : D' k = D k := by rw [hadd]; have : (k == i) = false := by simp; omega
                                 rw [this]; simp
      have e1 : decide (k + 1 ≤ i) = false := by simp; omega
      have e2 : decide (k ≤ i) = false := by simp; omega
      rw [e1] at ih
      rw [e2]
      cases x with
      | none => simpa [mvalD] using ih
      | some q =>
        obtain ⟨ks', f'⟩ := q
        simp only [mvalD, ih, h1]
        simp
end Go.Proofs.Ytndfcbcmeeemfaa.Abs
