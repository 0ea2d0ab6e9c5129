/-
  REGIONS OF OPEN ORDER WITH OPERATIONS THAT CHANGE MEMORY: these stand in one order; an operation that is bound to no side of one of them looks at no memory.
-/
import Derived.Test.YtmpddomgiplnmaaDoorX5
import Derived.Laws.IdiomCopy
import Derived.Laws.CopyRow
namespace Go.Proofs.YtmpddomgiplnmaaDoor.Abs
open Go

/-- An operation that makes a block which is given up at once: what it yields, whatever memory is. -/
def immD : SV → Bool
  | .gd _ s => immSV s
  | .undef => true
  | x => immSV x
theorem immD_rel {w : World} {O : Nat → Prop} {μ μ' : Nat → Option Nat} {x : SV} {v : Value} (h : immD x = true) (hx : SRel w O μ x v) : SRel w O μ' x v := by
  cases x with
  | undef => trivial
  | gd c s =>
    unfold SRel at hx ⊢
    split at hx
    · rename_i hc; rw [if_pos hc]; exact immS_rel h hx
    · rename_i hc; rw [if_neg hc]; exact hx
  | cv c => exact immS_rel (x := .cv c) h hx
  | tup l => exact immS_rel (x := .tup l) h hx
def immE (E : Nat → SV) : Nat → SV := fun t => bif immD (E t) then E t else .undef
def makes (o : Oper) : Bool := match o.op with
  | .makeSlice _ _ _ | .buildSlice _ _ _ | .box _ _ | .alloc _ => true
  | _ => false
def allocV (T : Lays) (E : Nat → SV) (o : Oper) : Option (SV × Prop) := match evalM T 0 noneH (immE E) o.op with
  | some (x, U, vc) => match frzNew (updH noneH U) 0 x with
    | some (y, q) => bif immSV y then some (y, vc ∧ q) else none
    | none => none
  | none => none
/-- A step that changes no memory of ours. -/
def stepF (P : Program) (T : Lays) (orc : Tab) (fz : List Nat) (H : Nat → Option ABlk) (i : Nat) (E : Nat → SV) (o : Oper) (g : Option Bool) : Option (SV × Prop) :=
  match stepV P T orc H i E o g with
  | some r => some r
  | none => bif memN fz i && makes o then match allocV T E o with
    | some (y, vc) => some (gdw g y, gdp g vc)
    | none => none
    else none

theorem stepF_sound {K : Nat} {P : Program} {T : Lays} {S : St} {w : World} {μ : Nat → Option Nat} {a : Act} (G : Good P T) {orc : Tab} (hTab : TabOk P orc) {fz : List Nat} {C : Ctx K} {ops : Array Oper} {Q : Exit → Act → World → Prop} {E : Nat → SV} {i k : Nat} {o : Oper} {g : Option Bool} {x : SV} {vc : Prop} {l : List Nat}
    (hi : ops[i]? = some o) (hall : (ops.toList.all fun o => dstOk o.dst S.size) = true) (hR : Rel C μ { S with env := E } a w) (hg : guardOf ops.toList (restr E l) o.guard = some g) (hd : dstOk o.dst S.size = true)
    (h : stepF P T orc fz S.heap k (restr E l) o g = some (x, vc)) (hv : vc) {K' : Act → World → Prop} (hK : ∀ v w', Rel C μ { S with env := putE E o.dst x } (a.put o.dst v) w' → K' (a.put o.dst v) w') : wpOpL P ops Q i K' a w := by
  unfold stepF at h
  split at h
  · rename_i r hs
    simp only [Option.some.injEq] at h
    subst h
    exact stepV_sound G hTab hi hall hR hg hd hs hv hK
  · cases hb : (memN fz k && makes o) with
    | false => rw [hb] at h; simp at h
    | true =>
      rw [hb] at h
      simp only [cond_true] at h
      split at h
      · rename_i y p hA
        simp only [Option.some.injEq, Prod.mk.injEq] at h
        obtain ⟨rfl, rfl⟩ := h
        unfold allocV at hA
        split at hA
        · rename_i x0 U vc0 hM
          split at hA
          · rename_i y0 q0 hF
            cases hy : immSV y0 with
            | false => rw [hy] at hA; simp at hA
            | true =>
              rw [hy] at hA
              simp only [cond_true, Option.some.injEq, Prod.mk.injEq] at hA
              obtain ⟨rfl, rfl⟩ := hA
              have hR' := (restr_le (S := S) E l).rel hR
              have hall' : ∀ (j : Nat) o', ops[j]? = some o' → dstOk o'.dst S.size = true := by
                intro j o' hj
                rw [List.all_eq_true] at hall
                exact hall o' (List.mem_of_getElem? (show ops.toList[j]? = some o' by simpa using hj))
              have hw := guardOf_sound hR'.env hg hR'.size hall'
              -- what is to be shown of a wanted operation
              have key : (vc0 ∧ q0) → (∀ v w', Rel C μ { S with env := E } a w' → SRel w' (Own C.F S.heap μ) μ y0 v → K' (a.put o.dst v) w') → o.wp P a w K' Q := by
                rintro ⟨h1, h2⟩ hK'
                have hH0 : HRel (Own C.F S.heap μ) w noneμ noneH 0 := hrel_none (own_lt (S := { S with env := E }) hR)
                have hE0 : ERel w (Own (Own C.F S.heap μ) noneH noneμ) noneμ (immE (restr E l)) a := by
                  intro t
                  rw [own_none]
                  show SRel w _ noneμ (immE (restr E l) t) _
                  unfold immE
                  cases hi : immD (restr E l t) with
                  | false => trivial
                  | true => exact immD_rel hi (hR'.env t)
                obtain ⟨v, w', μ', hrun, hext, hH', hs⟩ := evalM_sound G hH0 hE0 hM h1
                have hs' := frzNew_rel hH' hF h2 hs
                have hsub : ∀ m, Own (Own C.F S.heap μ) (updH (updH noneH U) [(0, none)]) μ' m → Own (Own C.F S.heap μ) (updH noneH U) μ' m := own_sub fun k hk => by
                  rw [updH_one] at hk
                  split at hk
                  · cases hk
                  · exact hk
                have hext2 : Ext (Own C.F S.heap μ) w (Own C.F S.heap μ) noneμ w' (Own C.F S.heap μ) noneμ := by
                  have e1 := hext
                  rw [own_none] at e1
                  exact ⟨e1.os, e1.tape, e1.output, e1.size, e1.keep, e1.shape, fun k m h => (by cases h), fun m h => .inl h, e1.frn, e1.frz, e1.drawn⟩
                have hs2 : SRel w' (Own C.F S.heap μ) noneμ y0 v := by
                  have hle : ∀ m, Own C.F S.heap μ m → Own (Own C.F S.heap μ) (updH (updH noneH U) [(0, none)]) μ' m := fun m h => .inl h
                  have := immS_rel (μ' := noneμ) hy hs'
                  exact SRel.mono (F := fun _ => False) (μ := noneμ) (μ' := noneμ) (ext_sub (F := fun _ => False) (w := w') (μ := noneμ) hle) this
                obtain ⟨r1, r2⟩ := pcall_step (S := { S with env := E }) hR hext2 hs2 hy
                unfold Oper.wp
                rcases hrun with hrun | ⟨hrun, rfl⟩
                · rw [hrun]; exact hK' v w' r1 r2
                · rw [hrun]; exact hK' Go.undef w' r1 r2
              unfold wpOpL
              rw [hi]
              simp only
              cases g with
              | none =>
                rw [if_pos (by rw [hw]; rfl)]
                exact (key hv fun v w' h1 h2 => hK v w' (h1.put h2 hd))
              | some b =>
                cases b with
                | true =>
                  rw [if_pos (by rw [hw]; rfl)]
                  exact (key (hv rfl) fun v w' h1 h2 => hK v w' (h1.put (x := .gd true y0) (by unfold SRel; simpa using h2) hd))
                | false =>
                  rw [if_neg (by rw [hw]; simp)]
                  exact hK _ w (hR.put (x := .gd false y0) (by unfold SRel; simp) hd)
          · cases hA
        · cases hA
      · cases h

structure Tr where
  d : Option Nat
  x : SV
  H : Nat → Option ABlk
  nx : Nat
  eff : Bool

def drawE (P : Program) (T : Lays) (orc : Tab) (fz : List Nat) (ops : List Oper) (n : Nat) : Nat → List Oper → (Nat → SV) → (Nat → Option ABlk) → Nat → Option (List Tr × (Nat → SV) × (Nat → Option ABlk) × Nat × Prop)
  | _, [], E, H, nx => some ([], E, H, nx, True)
  | i, o :: rest, E, H, nx => match guardOf ops (restr E (looks ops o)) o.guard with
    | none => none
    | some g => bif dstOk o.dst n then match stepF P T orc fz H i (restr E (looks ops o)) o g with
      | some (x, vc) => match drawE P T orc fz ops n (i + 1) rest (putE E o.dst x) H nx with
        | some (tr, Ef, Hf, nf, p) => some (⟨o.dst, x, H, nx, false⟩ :: tr, Ef, Hf, nf, vc ∧ p)
        | none => none
      | none => match g, evalM T nx H (restr E (looks ops o)) o.op with
        | none, some (x, U, vc) => match drawE P T orc fz ops n (i + 1) rest (putE E o.dst x) (updH H U) (nx + 1) with
          | some (tr, Ef, Hf, nf, p) => some (⟨o.dst, x, updH H U, nx + 1, true⟩ :: tr, Ef, Hf, nf, vc ∧ p)
          | none => none
        | _, _ => none
      else none

/-- An operation that looks at no memory. -/
def heapFree (o : Oper) : Bool := match o.op with
  | .move _ | .assign _ | .pick _ _ _ | .fieldAddr _ _ _ | .field _ _ _ | .indexAddr _ _ _ | .index _ _ _ | .binOp _ _ _ _ _ | .extract _ _ | .makeSlice _ _ _ | .buildSlice _ _ _ => true
  | _ => false

theorem heapFree_eval {T : Lays} {H H' : Nat → Option ABlk} {E : Nat → SV} {o : Oper} (h : heapFree o = true) : evalV T H E o.op = evalV T H' E o.op := by
  unfold heapFree at h
  cases ho : o.op <;> first | rfl | (rw [ho] at h; simp at h)

theorem heapFree_step {P : Program} {T : Lays} {orc : Tab} {fz : List Nat} {H H' : Nat → Option ABlk} {k : Nat} {E : Nat → SV} {o : Oper} {g : Option Bool} (h : heapFree o = true) : stepF P T orc fz H k E o g = stepF P T orc fz H' k E o g := by
  unfold stepF stepV
  rw [heapFree_eval (H := H) (H' := H') h]

def trE (l : List Tr) : List (Option Nat × SV) := l.map fun t => (t.d, t.x)
def lastH (D : Nat → Bool) : Nat → List Tr → (Nat → Option ABlk) × Nat → (Nat → Option ABlk) × Nat
  | _, [], acc => acc
  | k, t :: l, acc => lastH D (k + 1) l (bif t.eff && D k then (t.H, t.nx) else acc)

theorem lastH_congr {D D' : Nat → Bool} : ∀ (l : List Tr) (k : Nat) (acc : (Nat → Option ABlk) × Nat), (∀ (j : Nat) t, l[j]? = some t → t.eff = true → D (k + j) = D' (k + j)) → lastH D k l acc = lastH D' k l acc
  | [], _, _, _ => rfl
  | t :: l, k, acc, h => by
    have h0 : (t.eff && D k) = (t.eff && D' k) := by
      cases he : t.eff with
      | false => rfl
      | true => have := h 0 t rfl he; simp only [Nat.add_zero] at this; rw [this]
    simp only [lastH, h0]
    exact lastH_congr l (k + 1) _ fun j t' hj he => by
      have := h (j + 1) t' (by simpa using hj) he
      rwa [show k + (j + 1) = k + 1 + j from by omega] at this

theorem lastH_shift {D D' : Nat → Bool} : ∀ (l : List Tr) (k k' : Nat) (acc : (Nat → Option ABlk) × Nat), (∀ j, D (k + j) = D' (k' + j)) → lastH D k l acc = lastH D' k' l acc
  | [], _, _, _, _ => rfl
  | t :: l, k, k', acc, h => by
    have h0 := h 0
    simp only [Nat.add_zero] at h0
    simp only [lastH, h0]
    exact lastH_shift l (k + 1) (k' + 1) _ fun j => by
      have := h (j + 1)
      rwa [show k + (j + 1) = k + 1 + j from by omega, show k' + (j + 1) = k' + 1 + j from by omega] at this

theorem lastH_none {D : Nat → Bool} : ∀ (l : List Tr) (k : Nat) (acc : (Nat → Option ABlk) × Nat), (∀ j t, l[j]? = some t → t.eff = true → D (k + j) = false) → lastH D k l acc = acc
  | [], _, _, _ => rfl
  | t :: l, k, acc, h => by
    have h0 : (t.eff && D k) = false := by
      cases he : t.eff with
      | false => rfl
      | true => have := h 0 t rfl he; simp only [Nat.add_zero] at this; rw [this]; rfl
    simp only [lastH, h0]
    exact lastH_none l (k + 1) acc fun j t' hj he => by
      have := h (j + 1) t' (by simpa using hj) he
      rwa [show k + (j + 1) = k + 1 + j from by omega] at this

/-- The last one that was done. -/
theorem lastH_at {D : Nat → Bool} {i : Nat} {ti : Tr} (he : ti.eff = true) (hD : D i = true) : ∀ (l : List Tr) (k : Nat) (acc : (Nat → Option ABlk) × Nat), k ≤ i → l[i - k]? = some ti → (∀ j t, l[j]? = some t → t.eff = true → i < k + j → D (k + j) = false) → lastH D k l acc = (ti.H, ti.nx)
  | [], _, _, _, h, _ => by simp at h
  | t :: l, k, acc, hk, hi, hl => by
    rcases Nat.lt_or_ge k i with h | h
    · simp only [lastH]
      refine lastH_at he hD l (k + 1) _ h ?_ fun j t' hj he' hlt => ?_
      · have e : i - k = (i - (k + 1)) + 1 := by omega
        rw [e] at hi
        simpa using hi
      · have := hl (j + 1) t' (by simpa using hj) he' (by omega)
        rwa [show k + (j + 1) = k + 1 + j from by omega] at this
    · have hik : k = i := by omega
      subst hik
      simp at hi
      subst hi
      simp only [lastH, he, hD, Bool.and_self, cond_true]
      exact lastH_none l (k + 1) _ fun j t' hj he' => by
        have := hl (j + 1) t' (by simpa using hj) he' (by omega)
        rwa [show k + (j + 1) = k + 1 + j from by omega] at this

/-- Each one that changes memory is bound, on one side or the other, to all those that look at it. -/
def effOk (c : List Nat) (fl : List Bool) (ops : List Oper) : Bool :=
  (List.range ops.length).all fun k => !(fl.getD k false) || (List.range ops.length).all fun i => Nat.beq i k || ((bif Nat.blt i k then (c.getD k 0).testBit i else (c.getD i 0).testBit k) || (!(fl.getD i false) && (match ops[i]? with | some o => heapFree o | none => false)))

section
variable {K : Nat} {P : Program} {T : Lays} {S : St} {Q : Exit → St → Prop}

theorem drawE_get {orc : Tab} {fz : List Nat} {ops : List Oper} {n : Nat} : ∀ (rest : List Oper) (k0 : Nat) (E : Nat → SV) (H : Nat → Option ABlk) (nx : Nat) (tr : List Tr) (Ef : Nat → SV) (Hf : Nat → Option ABlk) (nf : Nat) (p : Prop), drawE P T orc fz ops n k0 rest E H nx = some (tr, Ef, Hf, nf, p) → p →
    tr.length = rest.length ∧ Ef = envD (fun _ => true) (trE tr) E ∧ (Hf, nf) = lastH (fun _ => true) 0 tr (H, nx) ∧ ∀ (j : Nat) o, rest[j]? = some o → ∃ g t, guardOf ops (restr (envD (fun i => Nat.blt i j) (trE tr) E) (looks ops o)) o.guard = some g ∧ dstOk o.dst n = true ∧ tr[j]? = some t ∧ t.d = o.dst ∧
      ((t.eff = false ∧ ∃ vc, stepF P T orc fz (lastH (fun i => Nat.blt i j) 0 tr (H, nx)).1 (k0 + j) (restr (envD (fun i => Nat.blt i j) (trE tr) E) (looks ops o)) o g = some (t.x, vc) ∧ vc) ∨
       (t.eff = true ∧ g = none ∧ ∃ U vc, evalM T (lastH (fun i => Nat.blt i j) 0 tr (H, nx)).2 (lastH (fun i => Nat.blt i j) 0 tr (H, nx)).1 (restr (envD (fun i => Nat.blt i j) (trE tr) E) (looks ops o)) o.op = some (t.x, U, vc) ∧ vc ∧ t.H = updH (lastH (fun i => Nat.blt i j) 0 tr (H, nx)).1 U ∧ t.nx = (lastH (fun i => Nat.blt i j) 0 tr (H, nx)).2 + 1)) := by
  intro rest
  induction rest with
  | nil =>
    intro k0 E H nx tr Ef Hf nf p h hp
    simp only [drawE, Option.some.injEq, Prod.mk.injEq] at h
    obtain ⟨rfl, rfl, rfl, rfl, _⟩ := h
    exact ⟨rfl, by funext t; rfl, rfl, fun j o hj => by simp at hj⟩
  | cons o rest ih =>
    intro k0 E H nx tr Ef Hf nf p h hp
    -- what both kinds have in common
    have step : ∀ (x : SV) (H' : Nat → Option ABlk) (nx' : Nat) (eff : Bool) (tr' : List Tr) (p' : Prop), drawE P T orc fz ops n (k0 + 1) rest (putE E o.dst x) H' nx' = some (tr', Ef, Hf, nf, p') → p' → tr = ⟨o.dst, x, H', nx', eff⟩ :: tr' → (eff = false → H' = H ∧ nx' = nx) →
        tr.length = (o :: rest).length ∧ Ef = envD (fun _ => true) (trE tr) E ∧ (Hf, nf) = lastH (fun _ => true) 0 tr (H, nx) ∧ ∀ (j : Nat) o', rest[j]? = some o' → envD (fun i => Nat.blt i (j + 1)) (trE tr) E = envD (fun i => Nat.blt i j) (trE tr') (putE E o.dst x) ∧ lastH (fun i => Nat.blt i (j + 1)) 0 tr (H, nx) = lastH (fun i => Nat.blt i j) 0 tr' (H', nx') := by
      intro x H' nx' eff tr' p' hrest hp' htr hne
      subst htr
      obtain ⟨h1, h2, h3, _⟩ := ih _ _ H' nx' tr' Ef Hf nf p' hrest hp'
      refine ⟨by simp [h1], ?_, ?_, fun j o' hj => ⟨?_, ?_⟩⟩
      · rw [h2]
        funext t
        simp only [envD, trE, List.map_cons, valD]
        rw [show valD (fun _ => true) (0 + 1) (List.map (fun t => (t.d, t.x)) tr') t = valD (fun _ => true) 0 (List.map (fun t => (t.d, t.x)) tr') t from valD_shift _ _ _ fun i => rfl]
        cases valD (fun _ => true) 0 (List.map (fun t => (t.d, t.x)) tr') t with
        | some y => simp
        | none =>
          simp only [Option.getD_none, putE_get]
          by_cases hd' : o.dst = some t <;> simp [hd']
      · rw [h3]
        simp only [lastH, Bool.and_true]
        rw [lastH_shift (D' := fun _ => true) tr' 0 1 _ fun j => rfl]
        cases eff with
        | true => rfl
        | false => obtain ⟨rfl, rfl⟩ := hne rfl; rfl
      · funext t
        simp only [envD, trE, List.map_cons, valD]
        rw [show valD (fun i => Nat.blt i (j + 1)) (0 + 1) (List.map (fun t => (t.d, t.x)) tr') t = valD (fun i => Nat.blt i j) 0 (List.map (fun t => (t.d, t.x)) tr') t from valD_shift _ _ _ fun i => by
          simp only [Nat.blt]
          rw [show (0 + 1 + i).succ = (0 + i).succ.succ from by omega]
          rfl]
        cases valD (fun i => Nat.blt i j) 0 (List.map (fun t => (t.d, t.x)) tr') t with
        | some y => simp
        | none =>
          simp only [Option.getD_none, putE_get]
          have : Nat.blt 0 (j + 1) = true := rfl
          by_cases hd' : o.dst = some t <;> simp [hd', this]
      · have : Nat.blt 0 (j + 1) = true := rfl
        simp only [lastH, this, Bool.and_true]
        rw [lastH_shift (D := fun i => Nat.blt i (j + 1)) (D' := fun i => Nat.blt i j) tr' (0 + 1) 0 _ fun i => by
          simp only [Nat.blt]
          rw [show (0 + 1 + i).succ = (0 + i).succ.succ from by omega]
          rfl]
        cases eff with
        | true => rfl
        | false => obtain ⟨rfl, rfl⟩ := hne rfl; rfl
    have e0 : ∀ (tr : List Tr), envD (fun i => Nat.blt i 0) (trE tr) E = E := by
      intro tr
      funext t
      simp only [envD]
      rw [valD_none _ _ fun j => rfl]
      rfl
    have l0 : ∀ (tr : List Tr), lastH (fun i => Nat.blt i 0) 0 tr (H, nx) = (H, nx) := fun tr => lastH_none _ _ _ fun j t _ _ => rfl
    simp only [drawE] at h
    split at h
    · cases h
    · rename_i g hg
      cases hd : dstOk o.dst n with
      | false => rw [hd] at h; simp at h
      | true =>
        rw [hd] at h
        simp only [cond_true] at h
        split at h
        · rename_i x vc hs
          split at h
          · rename_i tr' Ef' Hf' nf' p' hrest
            simp only [Option.some.injEq, Prod.mk.injEq] at h
            obtain ⟨htr, rfl, rfl, rfl, rfl⟩ := h
            obtain ⟨q1, q2, q3, q4⟩ := step x H nx false tr' p' hrest hp.2 htr.symm fun _ => ⟨rfl, rfl⟩
            refine ⟨q1, q2, q3, fun j o' hj => ?_⟩
            cases j with
            | zero =>
              simp at hj
              subst hj
              rw [e0, l0]
              exact ⟨g, _, hg, hd, by rw [← htr]; rfl, rfl, .inl ⟨rfl, vc, hs, hp.1⟩⟩
            | succ j =>
              obtain ⟨_, _, _, q5⟩ := ih _ _ H nx tr' Ef' Hf' nf' p' hrest hp.2
              have hj' : rest[j]? = some o' := by simpa using hj
              obtain ⟨g', t, r1, r2, r3, r4⟩ := q5 j o' hj'
              obtain ⟨s1, s2⟩ := q4 j o' hj'
              rw [s1, s2, show k0 + (j + 1) = k0 + 1 + j from by omega]
              exact ⟨g', t, r1, r2, by rw [← htr]; simpa using r3, r4⟩
          · cases h
        · split at h
          · rename_i x U vc hM _
            split at h
            · rename_i tr' Ef' Hf' nf' p' hrest
              simp only [Option.some.injEq, Prod.mk.injEq] at h
              obtain ⟨htr, rfl, rfl, rfl, rfl⟩ := h
              obtain ⟨q1, q2, q3, q4⟩ := step x (updH H U) (nx + 1) true tr' p' hrest hp.2 htr.symm fun h => by cases h
              refine ⟨q1, q2, q3, fun j o' hj => ?_⟩
              cases j with
              | zero =>
                simp at hj
                subst hj
                rw [e0, l0]
                exact ⟨none, _, hg, hd, by rw [← htr]; rfl, rfl, .inr ⟨rfl, rfl, U, vc, hM, hp.1, rfl, rfl⟩⟩
              | succ j =>
                obtain ⟨_, _, _, q5⟩ := ih _ _ (updH H U) (nx + 1) tr' Ef' Hf' nf' p' hrest hp.2
                have hj' : rest[j]? = some o' := by simpa using hj
                obtain ⟨g', t, r1, r2, r3, r4⟩ := q5 j o' hj'
                obtain ⟨s1, s2⟩ := q4 j o' hj'
                rw [s1, s2, show k0 + (j + 1) = k0 + 1 + j from by omega]
                exact ⟨g', t, r1, r2, by rw [← htr]; simpa using r3, r4⟩
            · cases h
          · cases h

theorem AW_drwF (G : Good P T) (hm : P.follows .mixedOrders = true) {id n nx : Nat} {E : Nat → SV} {H : Nat → Option ABlk} {ops : Array Oper} (orc : Tab) (hTab : TabOk P orc) (fz : List Nat) {tr : List Tr} {Ef : Nat → SV} {Hf : Nat → Option ABlk} {nf : Nat} {p : Prop} (hall : (ops.toList.all fun o => dstOk o.dst n) = true) (hord : ordOk ops.toList = true)
    (h : drawE P T orc fz ops.toList n 0 ops.toList E H nx = some (tr, Ef, Hf, nf, p)) (heff : effOk (clo [] ops.toList) (tr.map (·.eff)) ops.toList = true) (hp : p) (hQ : Q .normal ⟨n, Ef, Hf, nf⟩) (hnd : noDefer ops.toList = true := by rfl) : AW K P (.region id ops true) Q ⟨n, E, H, nx⟩ := by
  intro C μ a w hR
  obtain ⟨hlen, hEf, hHf, hget⟩ := drawE_get ops.toList 0 E H nx tr Ef Hf nf p h hp
  unfold ordOk at hord
  rw [Bool.and_eq_true] at hord
  have hedges := edgesOk_get ops.toList 0 hord.1
  have hpairs := pairsOk_get ops.toList 0 hord.2
  have hclo : ∀ k i, ((clo [] ops.toList).getD k 0).testBit i = true → Reach ops k i := clo_reach ops.toList [] (fun j o hj => by simpa using hj) fun k i hk => by simp at hk
  have hget' : ∀ (j : Nat) o, ops[j]? = some o → ops.toList[j]? = some o := fun j o hj => by simpa using hj
  have hall' : ∀ (j : Nat) o', ops[j]? = some o' → dstOk o'.dst n = true := by
    intro j o' hj
    rw [List.all_eq_true] at hall
    exact hall o' (List.mem_of_getElem? (hget' j o' hj))
  have htrop : ∀ (j : Nat) t, tr[j]? = some t → ∃ o : Oper, ops[j]? = some o ∧ o.dst = t.d := by
    intro j t hj
    have hlt : j < ops.toList.length := by
      rw [← hlen]
      exact (List.getElem?_eq_some_iff.1 hj).1
    obtain ⟨g, t', _, _, q, q', _⟩ := hget j _ (List.getElem?_eq_getElem hlt)
    rw [hj] at q
    cases q
    exact ⟨_, by rw [← Array.getElem?_toList]; exact List.getElem?_eq_getElem hlt, q'.symm⟩
  have htr : ∀ (j : Nat) d x, (trE tr)[j]? = some (d, x) → ∃ o : Oper, ops[j]? = some o ∧ o.dst = d := by
    intro j d x hj
    simp only [trE, List.getElem?_map, Option.map_eq_some_iff, Prod.mk.injEq] at hj
    obtain ⟨t, ht, rfl, rfl⟩ := hj
    exact htrop j t ht
  -- what is bound to one that changes memory
  have hbnd : ∀ (k i : Nat) tk ti oi, tr[k]? = some tk → tk.eff = true → tr[i]? = some ti → ops[i]? = some oi → i ≠ k → (ti.eff = true ∨ heapFree oi = false) → (i < k → Reach ops k i) ∧ (k < i → Reach ops i k) := by
    intro k i tk ti oi hk hek hi hoi hne hor
    have hkl : k < ops.toList.length := by rw [← hlen]; exact (List.getElem?_eq_some_iff.1 hk).1
    have hil : i < ops.toList.length := by rw [← hlen]; exact (List.getElem?_eq_some_iff.1 hi).1
    have h1 := List.all_eq_true.1 heff k (List.mem_range.2 hkl)
    have e1 : (tr.map (·.eff)).getD k false = true := by simp [List.getD, hk, hek]
    rw [e1, Bool.not_true, Bool.false_or] at h1
    have h2 := List.all_eq_true.1 h1 i (List.mem_range.2 hil)
    have e2 : Nat.beq i k = false := by
      cases hb : Nat.beq i k with
      | false => rfl
      | true => exact absurd (Nat.eq_of_beq_eq_true hb) hne
    have e3 : (!((tr.map (·.eff)).getD i false) && (match ops.toList[i]? with | some o => heapFree o | none => false)) = false := by
      rw [hget' i oi hoi]
      have : (tr.map (·.eff)).getD i false = ti.eff := by simp [List.getD, hi]
      rw [this]
      rcases hor with h | h
      · simp [h]
      · simp [h]
    rw [e2, Bool.false_or, e3, Bool.or_false] at h2
    constructor
    · intro hlt
      have : Nat.blt i k = true := Nat.ble_eq_true_of_le hlt
      rw [this] at h2
      exact hclo _ _ h2
    · intro hlt
      have : Nat.blt i k = false := by
        cases hb : Nat.blt i k with
        | false => rfl
        | true => have : i < k := Nat.le_of_ble_eq_true hb; omega
      rw [this] at h2
      exact hclo _ _ h2
  let I : Array Bool → Act → World → Prop := fun listed a w => listed.size = ops.size ∧ (∀ j o, ops[j]? = some o → listed.getD j false = true → ∀ e ∈ o.after, Region.binds .any e = true → listed.getD e.on false = true) ∧
    ∃ μ, Rel C μ ⟨n, envD (fun j => listed.getD j false) (trE tr) E, (lastH (fun j => listed.getD j false) 0 tr (H, nx)).1, (lastH (fun j => listed.getD j false) 0 tr (H, nx)).2⟩ a w
  refine wpIn_region_anyL hm hnd (wpAny_inv I ?_ ?_ ops.size (Array.replicate ops.size false) a _ (by simp) ?_ ?_)
  · -- a step
    rintro listed a w i ⟨hs, hclosed, μ, hRi⟩ hi
    rw [mem_ready] at hi
    obtain ⟨hfalse, o, ho, hedge⟩ := hi
    have hlt : i < ops.size := (Array.getElem?_eq_some_iff.1 ho).1
    have hl : i < listed.size := by omega
    have hfi : listed.getD i false = false := by simpa [Array.getD, hl] using hfalse
    obtain ⟨g, t, hg, hd, hti, htd, hcase⟩ := hget i o (hget' i o ho)
    have hadd : ∀ j, (listed.setIfInBounds i true).getD j false = (listed.getD j false || j == i) := by
      intro j
      by_cases hji : i = j
      · subst hji
        simp [Array.getD_eq_getD_getElem?, hl]
      · rw [getD_set_ne false hji]
        have : (j == i) = false := by simpa using Ne.symm hji
        rw [this]
        simp
    have hclosed' : ∀ j o, ops[j]? = some o → (listed.setIfInBounds i true).getD j false = true → ∀ e ∈ o.after, Region.binds .any e = true → (listed.setIfInBounds i true).getD e.on false = true := by
      intro j oj hoj hj e he hb
      by_cases hji : i = j
      · subst hji
        rw [ho] at hoj
        cases hoj
        exact getD_set_true (hedge e he hb)
      · rw [getD_set_ne false hji] at hj
        exact getD_set_true (hclosed j oj hoj hj e he hb)
    have ahead : ∀ j, Reach ops i j → listed.getD j false = true := fun j hr => reach_listed hclosed hr fun o' ho' => by rw [ho] at ho'; cases ho'; exact hedge
    have afterw : ∀ j oj, ops[j]? = some oj → Reach ops j i → listed.getD j false = false := by
      intro j oj hoj hr
      cases hl : listed.getD j false with
      | false => rfl
      | true =>
        have := reach_listed hclosed hr fun o' ho' => by rw [hoj] at ho'; cases ho'; exact hclosed j oj hoj hl
        rw [hfi] at this
        cases this
    have before : ∀ j oj, ops[j]? = some oj → j < i → touch ops.toList oj o = true → listed.getD j false = true := by
      intro j oj hoj hji ht
      have := hpairs i o (hget' i o ho) j oj (by omega) (hget' j oj hoj) ht
      rw [Nat.zero_add] at this
      exact ahead j (hclo _ _ this)
    have behind : ∀ j oj, ops[j]? = some oj → i < j → touch ops.toList o oj = true → listed.getD j false = false := by
      intro j oj hoj hij ht
      have := hpairs j oj (hget' j oj hoj) i o (by omega) (hget' i o ho) ht
      rw [Nat.zero_add] at this
      exact afterw j oj hoj (hclo _ _ this)
    have hrestr : restr (envD (fun j => listed.getD j false) (trE tr) E) (looks ops.toList o) = restr (envD (fun j => Nat.blt j i) (trE tr) E) (looks ops.toList o) := by
      funext t
      unfold restr
      cases hmem : memN (looks ops.toList o) t with
      | false => rfl
      | true =>
        simp only [cond_true, envD]
        congr 1
        refine valD_congr (trE tr) 0 fun j d y hj hdt => ?_
        subst hdt
        obtain ⟨oj, hoj, hdj⟩ := htr j _ y hj
        simp only [Nat.zero_add]
        rcases Nat.lt_trichotomy j i with h1 | h1 | h1
        · rw [before j oj hoj h1 (by unfold touch; rw [hdj]; simp [hmem])]
          have : Nat.blt j i = true := Nat.ble_eq_true_of_le h1
          rw [this]
        · subst h1
          rw [hfi]
          cases hb : Nat.blt j j with
          | false => rfl
          | true => have : j < j := Nat.le_of_ble_eq_true hb; omega
        · rw [behind j oj hoj h1 (by unfold touch; rw [hdj]; simp [hmem])]
          cases hb : Nat.blt j i with
          | false => rfl
          | true => have : j < i := Nat.le_of_ble_eq_true hb; omega
    have hmemory : (t.eff = true ∨ heapFree o = false) → lastH (fun j => listed.getD j false) 0 tr (H, nx) = lastH (fun j => Nat.blt j i) 0 tr (H, nx) := by
      intro hor
      refine lastH_congr tr 0 _ fun k tk hk hek => ?_
      simp only [Nat.zero_add]
      rcases Nat.lt_trichotomy k i with h1 | h1 | h1
      · rw [ahead k ((hbnd k i tk t o hk hek hti ho (by omega) hor).2 h1)]
        have : Nat.blt k i = true := Nat.ble_eq_true_of_le h1
        rw [this]
      · subst h1
        rw [hfi]
        cases hb : Nat.blt k k with
        | false => rfl
        | true => have : k < k := Nat.le_of_ble_eq_true hb; omega
      · obtain ⟨ok, hok, _⟩ := htrop k tk hk
        rw [afterw k ok hok ((hbnd k i tk t o hk hek hti ho (by omega) hor).1 h1)]
        cases hb : Nat.blt k i with
        | false => rfl
        | true => have : k < i := Nat.le_of_ble_eq_true hb; omega
    have hval := valD_add (D := fun j => listed.getD j false) (D' := fun j => (listed.setIfInBounds i true).getD j false) (i := i) (di := t.d) (xi := t.x) hadd (trE tr) 0 (Nat.zero_le _) (by simp [trE, hti]) fun j d y hj hij hdd hn => by
      obtain ⟨oj, hoj, hdj⟩ := htr j d y hj
      rw [Nat.zero_add] at hij ⊢
      refine behind j oj hoj hij ?_
      unfold touch
      rw [hdj]
      subst hdd
      rw [← htd]
      cases hod : t.d with
      | none => exact absurd hod hn
      | some d' => simp
    have henv : envD (fun j => (listed.setIfInBounds i true).getD j false) (trE tr) E = putE (envD (fun j => listed.getD j false) (trE tr) E) o.dst t.x := by
      funext t'
      rw [putE_get, ← htd]
      simp only [envD, hval t']
      by_cases hdt : t.d = some t' <;> simp [hdt]
    rw [← hrestr] at hg hcase
    rcases hcase with ⟨hne, vc, hst, hvc⟩ | ⟨hef, rfl, U, vc, hM, hvc, htH, htnx⟩
    · have hst' : stepF P T orc fz (lastH (fun j => listed.getD j false) 0 tr (H, nx)).1 (0 + i) (restr (envD (fun j => listed.getD j false) (trE tr) E) (looks ops.toList o)) o g = some (t.x, vc) := by
        cases hf : heapFree o with
        | true => rw [← hst]; exact heapFree_step hf
        | false => rw [hmemory (.inr hf)]; exact hst
      refine stepF_sound (S := ⟨n, E, (lastH (fun j => listed.getD j false) 0 tr (H, nx)).1, (lastH (fun j => listed.getD j false) 0 tr (H, nx)).2⟩) G hTab ho hall hRi hg hd hst' hvc fun v w' hR' => ?_
      refine ⟨by simpa using hs, hclosed', μ, ?_⟩
      have hLH : lastH (fun j => (listed.setIfInBounds i true).getD j false) 0 tr (H, nx) = lastH (fun j => listed.getD j false) 0 tr (H, nx) := lastH_congr tr 0 _ fun k tk hk hek => by
        rw [Nat.zero_add, hadd]
        have : (k == i) = false := by
          simp only [beq_eq_false_iff_ne]
          intro e
          subst e
          rw [hti] at hk
          cases hk
          rw [hne] at hek
          cases hek
        rw [this, Bool.or_false]
      rw [henv, hLH]
      exact hR'
    · rw [← hmemory (.inl hef)] at hM htH htnx
      have hR0 := (restr_le (S := ⟨n, envD (fun j => listed.getD j false) (trE tr) E, (lastH (fun j => listed.getD j false) 0 tr (H, nx)).1, (lastH (fun j => listed.getD j false) 0 tr (H, nx)).2⟩) (envD (fun j => listed.getD j false) (trE tr) E) (looks ops.toList o)).rel hRi
      have hw := guardOf_sound hR0.env hg hR0.size hall'
      obtain ⟨v, w', μ', hrun, hext, hH', hsx⟩ := evalM_sound G hRi.heap hR0.env hM hvc
      have hR' := (hRi.step hext hH').put (d := o.dst) (x := t.x) (v := v) hsx hd
      have hfin : ∀ a', a' = a.put o.dst v → I (listed.setIfInBounds i true) a' w' := by
        rintro a' rfl
        refine ⟨by simpa using hs, hclosed', μ', ?_⟩
        have hLH : lastH (fun j => (listed.setIfInBounds i true).getD j false) 0 tr (H, nx) = (t.H, t.nx) := by
          refine lastH_at (i := i) hef (by rw [hadd]; simp) tr 0 _ (Nat.zero_le _) (by simpa using hti) fun k tk hk hek hik => ?_
          rw [Nat.zero_add] at hik ⊢
          rw [hadd]
          obtain ⟨ok, hok, _⟩ := htrop k tk hk
          rw [afterw k ok hok ((hbnd k i tk t o hk hek hti ho (by omega) (.inl hef)).1 hik)]
          have : (k == i) = false := by simp; omega
          rw [this]
          rfl
        rw [henv, hLH, htH, htnx]
        exact hR'
      unfold wpOpL
      rw [ho]
      simp only
      rw [if_pos (by rw [hw]; rfl)]
      unfold Oper.wp
      rcases hrun with hrun | ⟨hrun, rfl⟩
      · rw [hrun]; exact hfin _ rfl
      · rw [hrun]; exact hfin _ rfl
  · -- the end
    rintro listed a w ⟨hs, hclosed, μ, hRi⟩ hr
    have hdone : ∀ n, n < ops.size → listed.getD n false = true := by
      intro n
      induction n using Nat.strongRecOn with
      | _ n ih =>
        intro hn
        cases hl : listed.getD n false with
        | true => rfl
        | false =>
          have hlt : n < listed.size := by omega
          have hmem : n ∈ Region.ready .any ops listed := by
            rw [mem_ready]
            refine ⟨by simpa [Array.getD, hlt] using hl, ops[n], by simp [hn], fun e he hb => ?_⟩
            have := hedges n ops[n] (hget' n _ (by simp [hn])) e he hb
            exact ih e.on (by omega) (by omega)
          rw [hr] at hmem
          cases hmem
    have h1 : envD (fun j => listed.getD j false) (trE tr) E = Ef := by
      rw [hEf]
      funext t
      simp only [envD]
      congr 1
      refine valD_congr (trE tr) 0 fun j d y hj _ => ?_
      obtain ⟨oj, hoj, _⟩ := htr j d y hj
      rw [Nat.zero_add, hdone j (Array.getElem?_eq_some_iff.1 hoj).1]
    have h2 : lastH (fun j => listed.getD j false) 0 tr (H, nx) = (Hf, nf) := by
      rw [hHf]
      refine lastH_congr tr 0 _ fun k tk hk _ => ?_
      obtain ⟨ok, hok, _⟩ := htrop k tk hk
      rw [Nat.zero_add, hdone k (Array.getElem?_eq_some_iff.1 hok).1]
    rw [h1, h2] at hRi
    exact ⟨C, .refl C, μ, _, hRi, hQ⟩
  · refine Nat.le_trans (List.length_filter_le _ _) (by simp)
  · refine ⟨by simp, fun j o _ hj => ?_, μ, ?_⟩
    · rw [rep_false] at hj; cases hj
    have h1 : envD (fun j => (Array.replicate ops.size false).getD j false) (trE tr) E = E := by
      funext t
      simp only [envD]
      rw [valD_none _ _ fun j => by rw [rep_false]]
      rfl
    have h2 : lastH (fun j => (Array.replicate ops.size false).getD j false) 0 tr (H, nx) = (H, nx) := lastH_none _ _ _ fun j t _ _ => by rw [rep_false]
    rw [h1, h2]
    exact hR.drew rfl rfl rfl rfl

theorem AW_drwE (G : Good P T) (hm : P.follows .mixedOrders = true) {id n nx : Nat} {E : Nat → SV} {H : Nat → Option ABlk} {ops : Array Oper} (orc : Tab) (hTab : TabOk P orc) {tr : List Tr} {Ef : Nat → SV} {Hf : Nat → Option ABlk} {nf : Nat} {p : Prop} (hall : (ops.toList.all fun o => dstOk o.dst n) = true) (hord : ordOk ops.toList = true)
    (h : drawE P T orc [] ops.toList n 0 ops.toList E H nx = some (tr, Ef, Hf, nf, p)) (heff : effOk (clo [] ops.toList) (tr.map (·.eff)) ops.toList = true) (hp : p) (hQ : Q .normal ⟨n, Ef, Hf, nf⟩) (hnd : noDefer ops.toList = true := by rfl) : AW K P (.region id ops true) Q ⟨n, E, H, nx⟩ :=
  AW_drwF G hm orc hTab [] hall hord h heff hp hQ hnd

end
end Go.Proofs.YtmpddomgiplnmaaDoor.Abs

/-
  EMPTY SLICES AS ONES OF OUR OWN, wherever they stand; blocks that say less, cell by cell.
-/
namespace Go.Proofs.YtmpddomgiplnmaaDoor.Abs
open Go

section
variable {K : Nat} {P : Program} {T : Lays} {S : St} {Q : Exit → St → Prop}

/-- The name of a block that is not there, of no rows. -/
theorem AW_absent (ty e : Nat) (cell : Nat → Nat → IV) {c : Code} {n nx : Nat} {E : Nat → SV} {H : Nat → Option ABlk} (h : AW K P c Q ⟨n, E, updH H [(nx, some (.rows ty e 0 cell))], nx + 1⟩) : AW K P c Q ⟨n, E, H, nx⟩ := by
  intro C μ a w hR
  obtain ⟨h1, h2⟩ := step_absent (w := w) hR.heap (ty := ty) (e := e) (cell := cell)
  exact h C μ a w ⟨hR.defers, hR.size, fun t => (hR.env t).mono h1, h2, hR.ext.trans h1⟩

/-- A block of our own is given up for good: one slot's slice of it is data from here on. -/
theorem AW_give (b t : Nat) {c : Code} {n nx : Nat} {E : Nat → SV} {H : Nat → Option ABlk} {y : SV} {q : Prop} (h : frzNew H b (E t) = some (y, q)) (hq : q) (hw : AW K P c Q ⟨n, putE1 E t y, updH H [(b, none)], nx⟩) : AW K P c Q ⟨n, E, H, nx⟩ := by
  intro C μ a w hR
  have hle : Le ⟨n, E, H, nx⟩ ⟨n, E, updH H [(b, none)], nx⟩ := ⟨rfl, fun _ => .inr rfl, fun k => by
    show updH H [(b, none)] k = none ∨ updH H [(b, none)] k = H k
    rw [updH_one]
    split
    · exact .inl rfl
    · exact .inr rfl, Nat.le_refl _⟩
  have hR1 := hle.rel hR
  have hs := frzNew_rel hR.heap h hq (hR.env t)
  refine hw C μ a w ⟨hR1.defers, hR1.size, fun t' => ?_, hR1.heap, hR1.ext⟩
  show SRel w _ μ (putE1 E t y t') _
  unfold putE1
  cases hb : Nat.beq t' t with
  | false => exact hR1.env t'
  | true =>
    obtain rfl := Nat.eq_of_beq_eq_true hb
    exact hs

/-- The same, where a variable's cell holds the slice. -/
theorem AW_giveV (b v q : Nat) {c : Code} {n nx : Nat} {E : Nat → SV} {H : Nat → Option ABlk} {ty : TypeId} {cells : List AV} {x y : AV} {p : Prop} (hv : H v = some (.var ty cells)) (hbv : Nat.beq v b = false) (hx : cells[q]? = some x) (h : frzNew H b (.cv (.one x)) = some (.cv (.one y), p)) (hp : p)
    (hw : AW K P c Q ⟨n, E, updH H [(b, none), (v, some (.var ty (cells.set q y)))], nx⟩) : AW K P c Q ⟨n, E, H, nx⟩ := by
  intro C μ a w hR
  have hne : v ≠ b := fun e => by rw [e] at hbv; simp at hbv
  have hle : Le ⟨n, E, H, nx⟩ ⟨n, E, updH H [(b, none)], nx⟩ := ⟨rfl, fun _ => .inr rfl, fun k => by
    show updH H [(b, none)] k = none ∨ updH H [(b, none)] k = H k
    rw [updH_one]
    split
    · exact .inl rfl
    · exact .inr rfl, Nat.le_refl _⟩
  have hR1 := hle.rel hR
  have hv1 : updH H [(b, none)] v = some (.var ty cells) := by rw [updH_one, if_neg hne]; exact hv
  have hB1 := (hR1.heap.blk v _ hv1).2
  have hB : BRel w (Own C.F (updH H [(b, none)]) μ) μ v (.var ty (cells.set q y)) := by
    obtain ⟨m, cur, h1, h2, h3⟩ := hB1
    refine ⟨m, cur, h1, h2, by simpa using h3.1, fun i z u hz hu => ?_⟩
    by_cases hiq : i = q
    · subst hiq
      have hlt : i < cells.length := (List.getElem?_eq_some_iff.1 hx).1
      rw [List.getElem?_set_self hlt] at hz
      cases hz
      obtain ⟨m2, cur2, g1, g2, g3⟩ := (hR.heap.blk v _ hv).2
      obtain rfl : m2 = m := by rw [h1] at g1; exact (Option.some.inj g1).symm
      rw [h2] at g2
      simp only [Option.some.injEq, Obj.cells.injEq] at g2
      obtain ⟨rfl, _⟩ := g2
      have hxr : ARel w (Own C.F H μ) μ x u := g3.2 i x u hx hu
      exact frzNew_rel hR.heap (x := .cv (.one x)) (v := u) h hp hxr
    · rw [List.getElem?_set_ne (Ne.symm hiq)] at hz
      exact h3.2 i z u hz hu
  obtain ⟨q1, q2⟩ := step_replace (w := w) hR1.heap hv1 hB
  have hfin := hR1.step q1 q2
  have e : updH (updH H [(b, none)]) [(v, some (.var ty (cells.set q y)))] = updH H [(b, none), (v, some (.var ty (cells.set q y)))] := rfl
  rw [← e] at hw
  exact hw C μ a w hfin

theorem CLe.empty {e' b e : Nat} {c' : Nat → Nat → IV} {app : Bool} : CLe (.one (.imm (.sl e' 0 true c'))) (.one (.osl b e 0 0 0 app)) := by
  rintro w O μ v (⟨h, _⟩ | ⟨b', o, cap, h, _, _, hex, _⟩)
  · exact .inl ⟨rfl, h⟩
  · rw [hex rfl] at h
    exact .inl ⟨rfl, _, h⟩

def LLe : List AV → List AV → Prop
  | [], [] => True
  | x :: l, y :: m => CLe (.one x) (.one y) ∧ LLe l m
  | _, _ => False

theorem LLe.rel {w : World} {O : Nat → Prop} {μ : Nat → Option Nat} : ∀ {l m : List AV}, LLe l m → ∀ {cs : List Value}, LRel w O μ l cs → LRel w O μ m cs
  | [], [], _, _, h => h
  | x :: l, y :: m, h, cs, hr => by
    obtain ⟨hl, hr⟩ := hr
    have h1 := h.1
    have h2 := h.2
    cases cs with
    | nil => simp at hl
    | cons u cs =>
      have := LLe.rel h2 (cs := cs) ⟨by simpa using hl, fun i a b ha hb => hr (i + 1) a b (by simpa using ha) (by simpa using hb)⟩
      refine ⟨by simp [this.1], fun i a b ha hb => ?_⟩
      cases i with
      | zero => simp at ha hb; subst ha; subst hb; exact h1 _ _ _ _ (hr 0 x u rfl rfl)
      | succ i => simp at ha hb; exact this.2 i a b ha hb

theorem BLe.var {ty : TypeId} {l m : List AV} (h : LLe l m) : BLe (.var ty l) (.var ty m) := by
  rintro w O μ k ⟨b, cur, h1, h2, h3⟩
  exact ⟨b, cur, h1, h2, h.rel h3⟩
theorem CLe.aggL {l m : List AV} (h : LLe l m) : CLe (.agg l) (.agg m) := by
  rintro w O μ v ⟨cs, hv, hr⟩
  exact ⟨cs, hv, h.rel hr⟩

/-- One row more. -/
theorem app_last {f : Nat → Nat → IV} {xs : List IV} {e q i j : Nat} (hq : q < i + 1) (h : q = i → xs.getD j ivDef = f i j) : (bif Nat.blt q i then f q j else xs.getD ((0 + (q - i)) * e + j) ivDef) = f q j := by
  rcases Nat.lt_or_ge q i with h1 | h1
  · have hb : Nat.blt q i = true := Nat.ble_eq_true_of_le h1
    rw [hb]
    rfl
  · have hqi : q = i := by omega
    have hb : Nat.blt q i = false := by
      cases hb : Nat.blt q i with
      | false => rfl
      | true => have : q < i := Nat.le_of_ble_eq_true hb; omega
    rw [hb]
    subst hqi
    simp only [cond_false, Nat.sub_self, Nat.add_zero, Nat.zero_mul, Nat.zero_add]
    exact h rfl

theorem exec_copy {w : World} {a : Act} {o : Oper} {t t' : TypeId} {x y : Operand} (ho : o.op = .call { callee := .builtin .copy, args := #[x, y], argTypes := #[t, t'] }) {v : Value} {w' : World}
    (h : (Builtin.copy_ #[t, t'] o.type #[a.eval x, a.eval y]).run P w = .ok v w') : (execOp a.eval o).run P w = .ok (.value v) w' := by
  simp [execOp, ho, resolve, invoke, builtin, h]

/-- Rows of one cell are copied into a row of our own. -/
theorem does_copy {F : Nat → Prop} {w : World} {μ : Nat → Option Nat} {H : Nat → Option ABlk} {nx : Nat} {E : Nat → SV} {a : Act} {o : Oper} {t t' e : TypeId} {x y : Operand} {sz by_ : Nat} {z : List Value} {L : Lay} {b n m : Nat} {app ex : Bool} {cell cellr : Nat → Nat → IV} (hT : LayOk P T) (hH : HRel F w μ H nx) (hE : ERel w (Own F H μ) μ E a)
    (ho : o.op = .call { callee := .builtin .copy, args := #[x, y], argTypes := #[t, t'] }) (hL : T t = some ⟨.sl e, sz, by_, z⟩) (hF : T e = some L) (h1 : L.size = 1)
    (hx : rd E x = .cv (.one (.osl b 1 0 0 n app))) (hb : H b = some (.rows e 1 n cell)) (hy : rd E y = .cv (.one (.imm (.sl 1 m ex cellr)))) (hnx : need E x) (hny : need E y) :
    Does P F w H μ nx a o (.cv (iint (Nat.min m n : Nat))) (updH H [(b, some (.rows e 1 n fun i j => bif Nat.blt i m then cellr i j else cell i j))]) (nx + 1) := by
  have hu := under_sl (hT t _ hL)
  obtain ⟨i, d, hi, hsz, hby, _, _, _⟩ := lay_info (hT e L hF)
  have hs1 : (P.info? e).map (·.size) = some 1 := by rw [hi]; simp [hsz, h1]
  have hR := rows_sound hH (rd_one hE hy hny) (r := .imm (.sl 1 m ex cellr)) rfl trivial
  -- nothing is copied
  have none_ : Nat.min m n = 0 → (∃ d dl dc, a.eval x = .slice d dl dc ∧ dl = n) → (∃ s sc, a.eval y = .slice s m sc) → Does P F w H μ nx a o (.cv (iint (Nat.min m n : Nat))) (updH H [(b, some (.rows e 1 n fun i j => bif Nat.blt i m then cellr i j else cell i j))]) (nx + 1) := by
    rintro h0 ⟨dd, dl, dc, hvx, rfl⟩ ⟨s, sc, hvy⟩
    have hrun := exec_copy (P := P) (w := w) ho (by rw [hvx, hvy]; exact run_copy_none (P := P) w t t' o.type e dd s dl dc m sc hu hs1 h0)
    obtain ⟨q1, q2⟩ := step_replace (nx := nx) (w := w) hH hb (B := .rows e 1 dl fun i j => bif Nat.blt i m then cellr i j else cell i j) (by
      rcases (hH.blk b _ hb).2 with ⟨g1, g2⟩ | ⟨g, cur, g1, g2, g3, g4⟩
      · exact .inl ⟨g1, g2⟩
      · refine .inr ⟨g, cur, g1, g2, g3, fun i hi j hj => ?_⟩
        have hm0 : m = 0 := by
          rcases Nat.eq_zero_or_pos m with h | h
          · exact h
          · have : 0 < Nat.min m dl := Nat.lt_min.2 ⟨h, by omega⟩
            omega
        subst hm0
        have : Nat.blt i 0 = false := by cases i <;> rfl
        simp only [this, cond_false]
        exact g4 i hi j hj)
    exact ⟨goInt 0, w, μ, .inl hrun, q1, q2.more (by omega), by rw [h0]; exact ⟨rfl, rfl⟩⟩
  rcases rd_one hE hx hnx with ⟨hn0, ⟨a0, hv⟩⟩ | ⟨g, cap, hg, hv, c1, c2, c3⟩
  · subst hn0
    refine none_ (Nat.min_zero m) ⟨a0, 0, 0, hv, rfl⟩ ?_
    rcases hR with ⟨hm0, a', c', hyv⟩ | ⟨b', off, c', hyv, _⟩
    · subst hm0; exact ⟨a', c', hyv⟩
    · exact ⟨_, c', hyv⟩
  · rcases hR with ⟨hm0, a', c', hyv⟩ | ⟨b', off, c', hyv, news, hnl, hncell, hnrel, hn1⟩
    · subst hm0
      exact none_ (Nat.zero_min n) ⟨_, n, cap, hv, rfl⟩ ⟨a', c', hyv⟩
    · rcases (hH.blk b _ hb).2 with ⟨g1, g2⟩ | ⟨g', cur, g1, g2, g3, g4⟩
      · rw [hg] at g1; cases g1
      obtain rfl : g' = g := by rw [hg] at g1; exact (Option.some.inj g1).symm
      have hv' : a.eval x = .slice (some ⟨g', 0, none⟩) n cap := by rw [hv]
      have hlt : (news.take (Nat.min m n)).length = Nat.min m n := by
        rw [List.length_take, hnl]
        have := Nat.min_le_left m n
        have : Nat.min m n ≤ m := this
        omega
      have hmn : Nat.min m n ≤ n := Nat.min_le_right m n
      have hrun := exec_copy (P := P) (w := w) ho (by
        rw [hv', hyv]
        exact run_copy_row (P := P) w t t' o.type e g' 0 n cap ⟨b', off, none⟩ m c' cur e (news.take (Nat.min m n)) hu hs1 (by
          obtain ⟨ty, q⟩ : ∃ ty, w.heap[g']? = some (.cells cur ty (0, 0)) := ⟨_, g2⟩
          exact g2) hlt (fun j v hj => by
            rw [Addr.add_lit]
            rw [List.getElem?_take] at hj
            split at hj
            · exact hncell j v hj
            · cases hj) (by rw [hlt]; omega) fun v hv => hn1 v (List.mem_of_mem_take hv))
      simp only [List.take_zero, List.nil_append, hlt, Nat.zero_add] at hrun
      obtain ⟨q1, q2⟩ := step_write (nx := nx) (w := w) hH hb g1 g2 (cur' := (news.take (Nat.min m n) ++ cur.toList.drop (Nat.min m n)).toArray) (by
          simp only [List.size_toArray, List.length_append, List.length_drop, hlt, Array.length_toList]
          omega) (B := .rows e 1 n fun i j => bif Nat.blt i m then cellr i j else cell i j) fun hext => .inr ⟨g', _, g1, setRow_heap w g' cur _ e _ g2, by
            simp only [List.size_toArray, List.length_append, List.length_drop, hlt, Array.length_toList]
            omega, fun i hi j hj => by
              obtain rfl : j = 0 := by omega
              simp only [List.getElem?_toArray, Nat.mul_one, Nat.add_zero]
              cases hb' : Nat.blt i m with
              | true =>
                have him : i < m := Nat.le_of_ble_eq_true hb'
                have hmin : i < Nat.min m n := Nat.lt_min.2 ⟨him, hi⟩
                obtain ⟨u, hu1, hu2⟩ := hnrel i him 0 (by omega)
                refine ⟨u, ?_, IRel.mono hext _ _ hu2⟩
                rw [List.getElem?_append_left (by rw [hlt]; exact hmin), List.getElem?_take, if_pos hmin]
                simpa using hu1
              | false =>
                have him : ¬ i < m := fun h => by
                  have : Nat.blt i m = true := Nat.ble_eq_true_of_le h
                  rw [hb'] at this
                  cases this
                have hmin : Nat.min m n = m := Nat.min_eq_left (by omega)
                obtain ⟨u, hu1, hu2⟩ := g4 i hi 0 (by omega)
                refine ⟨u, ?_, IRel.mono hext _ _ hu2⟩
                rw [hmin] at hlt ⊢
                rw [List.getElem?_append_right (by omega), hlt, List.getElem?_drop]
                rw [show m + (i - m) = i from by omega]
                simpa using hu1⟩
      exact ⟨goInt (Nat.min m n : Nat), _, μ, .inl hrun, q1, q2, rfl, rfl⟩

theorem AL_copy (G : Good P T) {ops : Array Oper} {o : Oper} {rest : List Oper} {t t' e : TypeId} {x y : Operand} {sz by_ : Nat} {z : List Value} {L : Lay} {b n m k nx : Nat} {app ex : Bool} {cell cellr : Nat → Nat → IV} {E : Nat → SV} {H : Nat → Option ABlk} (hg : o.guard = none) (ho : o.op = .call { callee := .builtin .copy, args := #[x, y], argTypes := #[t, t'] }) (hL : T t = some ⟨.sl e, sz, by_, z⟩) (hF : T e = some L) (h1 : L.size = 1)
    (hx : rd E x = .cv (.one (.osl b 1 0 0 n app))) (hb : H b = some (.rows e 1 n cell)) (hy : rd E y = .cv (.one (.imm (.sl 1 m ex cellr)))) (hnx : need E x) (hny : need E y) (hd : dstOk o.dst k = true)
    (h : AL K P ops rest Q ⟨k, putE E o.dst (.cv (iint (Nat.min m n : Nat))), updH H [(b, some (.rows e 1 n fun i j => bif Nat.blt i m then cellr i j else cell i j))], nx + 1⟩) : AL K P ops (o :: rest) Q ⟨k, E, H, nx⟩ := by
  intro C μ a w hR
  obtain ⟨v, w', μ', hrun, hext, hH', hs⟩ := does_copy (P := P) G.lay hR.heap hR.env ho hL hF h1 hx hb hy hnx hny
  unfold wpL
  rw [if_pos (by simp [Region.wanted, hg])]
  unfold Oper.wp
  have hR' := (hR.step hext hH').put (d := o.dst) (v := v) hs hd
  rcases hrun with hrun | ⟨hrun, rfl⟩
  · rw [hrun]; exact h C μ' _ w' hR'
  · rw [hrun]; exact h C μ' _ w' hR'
end
end Go.Proofs.YtmpddomgiplnmaaDoor.Abs
