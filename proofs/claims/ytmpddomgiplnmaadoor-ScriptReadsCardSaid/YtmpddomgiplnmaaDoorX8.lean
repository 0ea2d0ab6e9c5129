/-
  REGIONS OF OPEN ORDER, THE GENERAL RULE: what changes memory (allocations, stores, calls with effects) stands in one order; each other operation is reckoned at every state of memory in which it may be done.
-/
import Derived.Test.YtmpddomgiplnmaaDoorX6
namespace Go.Proofs.YtmpddomgiplnmaaDoor.Abs
open Go

section
variable {K : Nat} {P : Program} {T : Lays} {S : St} {Q : Exit → St → Prop}

/-- A step that changes no memory of ours; calls on what is lent, too. -/
def stepG (P : Program) (T : Lays) (orc : Tab) (fz : List Nat) (H : Nat → Option ABlk) (i : Nat) (E : Nat → SV) (o : Oper) (g : Option Bool) : Option (SV × Prop) :=
  match stepF P T orc fz H i E o g with
  | some r => some r
  | none => lentV orc H E o g

theorem stepG_sound {w : World} {μ : Nat → Option Nat} {a : Act} (G : Good P T) {orc : Tab} (hTab : TabOk P orc) {fz : List Nat} {C : Ctx K} {ops : Array Oper} {Q : Exit → Act → World → Prop} {E : Nat → SV} {i k : Nat} {o : Oper} {g : Option Bool} {x : SV} {vc : Prop} {l : List Nat}
    (hi : ops[i]? = some o) (hall : (ops.toList.all fun o => dstOk o.dst S.size) = true) (hR : Rel C μ { S with env := E } a w) (hg : guardOf ops.toList (restr E l) o.guard = some g) (hd : dstOk o.dst S.size = true)
    (h : stepG P T orc fz S.heap k (restr E l) o g = some (x, vc)) (hv : vc) {K' : Act → World → Prop} (hK : ∀ v w', Rel C μ { S with env := putE E o.dst x } (a.put o.dst v) w' → K' (a.put o.dst v) w') : wpOpL P ops Q i K' a w := by
  unfold stepG at h
  split at h
  · rename_i r hs
    simp only [Option.some.injEq] at h
    subst h
    exact stepF_sound G hTab hi hall hR hg hd hs hv hK
  · unfold lentV at h
    split at h
    · rename_i c ho
      split at h
      · rename_i f cvs q hl
        split at h
        · rename_i r q2 horc
          cases hf : flatS r with
          | false => rw [hf] at h; simp at h
          | true =>
            rw [hf] at h
            simp only [cond_true, Option.some.injEq, Prod.mk.injEq] at h
            obtain ⟨rfl, rfl⟩ := h
            have hR' := (restr_le (S := S) E l).rel hR
            have hall' : ∀ (j : Nat) o', ops[j]? = some o' → dstOk o'.dst S.size = true := by
              intro j o' hj
              rw [List.all_eq_true] at hall
              exact hall o' (List.mem_of_getElem? (show ops.toList[j]? = some o' by simpa using hj))
            have hw := guardOf_sound hR'.env hg hR'.size hall'
            have key : (q ∧ (lendP S.heap cvs ∧ q2)) → (∀ v w', Rel C μ { S with env := E } a w' → SRel w' (Own C.F S.heap μ) μ r v → K' (a.put o.dst v) w') → o.wp P a w K' Q := by
              rintro ⟨h1, h2, h3⟩ hK'
              obtain ⟨hok, hcall⟩ := hTab _ _ _ _ horc h3
              obtain ⟨vals, hA0, hrun⟩ := callOf_sound hR'.env hl h1 hok ho
              have hA : TRel w C.F noneμ (lendT S.heap cvs) vals := by
                unfold lendT
                unfold lendP at h2
                cases hz : frzT S.heap cvs with
                | none => rw [hz] at h2; exact h2.elim
                | some y =>
                  obtain ⟨cvs', p⟩ := y
                  rw [hz] at h2
                  exact frzT_sound hR.heap noneμ cvs cvs' p vals hz h2 hA0
              unfold Oper.wp
              rw [hrun]
              refine (hcall _ w _ hR.heap.frn (hR.gok.less fun _ h => .inl h) hA).mono ?_
              rintro e w' ⟨v, rfl, hext, hs⟩
              exact hK' v w' (lent_step hR hext) (flatS_rel hf hs)
            unfold wpOpL
            rw [hi]
            simp only
            cases g with
            | none =>
              rw [if_pos (by rw [hw]; rfl)]
              exact (key hv fun v w' h1 h2 => hK v w' (h1.put h2 hd))
            | some b =>
              cases b with
              | true =>
                rw [if_pos (by rw [hw]; rfl)]
                exact (key (hv rfl) fun v w' h1 h2 => hK v w' (h1.put (x := .gd true r) (by unfold SRel; simpa using h2) hd))
              | false =>
                rw [if_neg (by rw [hw]; simp)]
                exact hK _ w (hR.put (x := .gd false r) (by unfold SRel; simp) hd)
        · cases h
      · cases h
    · cases h

/-- An operation that changes memory: one of its own, or a call with effects. -/
def effV (T : Lays) (et : ETab) (H : Nat → Option ABlk) (nx : Nat) (E : Nat → SV) (o : Oper) : Option (SV × (Nat → Option ABlk) × Nat × Prop) :=
  match evalM T nx H E o.op with
  | some (x, U, vc) => some (x, updH H U, nx + 1, vc)
  | none => match o.op with
    | .call c => match callOf E c with
      | some (f, cvs, q) => match et f cvs H with
        | some e => some (renS (rho e.blks nx) e.res, updH H (e.upd.map fun p => (rho e.blks nx p.1, p.2.map (renB (rho e.blks nx)))), nx + e.cnt, q ∧ e.vc)
        | none => none
      | none => none
    | _ => none

theorem effV_sound {n nx nx' : Nat} {E E0 : Nat → SV} {H H' : Nat → Option ABlk} {w : World} {μ : Nat → Option Nat} {a : Act} (G : Good P T) {et : ETab} (hE : ETabOk P et) {C : Ctx K} {Q : Exit → Act → World → Prop} {o : Oper} {x : SV} {vc : Prop}
    (hR : Rel C μ ⟨n, E, H, nx⟩ a w) (hR0 : Rel C μ ⟨n, E0, H, nx⟩ a w) (hd : dstOk o.dst n = true) (h : effV T et H nx E0 o = some (x, H', nx', vc)) (hv : vc) {K' : Act → World → Prop}
    (hK : ∀ v μ' w', Rel C μ' ⟨n, putE E o.dst x, H', nx'⟩ (a.put o.dst v) w' → K' (a.put o.dst v) w') : o.wp P a w K' Q := by
  unfold effV at h
  split at h
  · rename_i y U p hM
    simp only [Option.some.injEq, Prod.mk.injEq] at h
    obtain ⟨rfl, rfl, rfl, rfl⟩ := h
    obtain ⟨v, w', μ', hrun, hext, hH', hs⟩ := evalM_sound G hR.heap hR0.env hM hv
    unfold Oper.wp
    have hR' := (hR.step hext hH').put (d := o.dst) (x := y) (v := v) hs hd
    rcases hrun with hrun | ⟨hrun, rfl⟩
    · rw [hrun]; exact hK v μ' w' hR'
    · rw [hrun]; exact hK _ μ' w' hR'
  · split at h
    · rename_i c ho
      split at h
      · rename_i f cvs q hc
        split at h
        · rename_i e he
          simp only [Option.some.injEq, Prod.mk.injEq] at h
          obtain ⟨rfl, rfl, rfl, rfl⟩ := h
          obtain ⟨vals, hA, hrun⟩ := callOf_sound hR0.env hc hv.1 (hE f cvs H e he hv.2).1 ho
          unfold Oper.wp
          rw [hrun]
          refine (call_eff hE he hv.2 hR hA).mono ?_
          rintro ex w' ⟨v, μ', rfl, hR', hs⟩
          exact hK v μ' w' (hR'.put (d := o.dst) hs hd)
        · cases h
      · cases h
    · cases h

def drawG (P : Program) (T : Lays) (orc : Tab) (et : ETab) (fz : List Nat) (ops : List Oper) (n : Nat) : Nat → List Oper → (Nat → SV) → (Nat → Option ABlk) → Nat → Option (List Tr × (Nat → SV) × (Nat → Option ABlk) × Nat × Prop)
  | _, [], E, H, nx => some ([], E, H, nx, True)
  | i, o :: rest, E, H, nx => match guardOf ops (restr E (looks ops o)) o.guard with
    | none => none
    | some g => bif dstOk o.dst n then match stepG P T orc fz H i (restr E (looks ops o)) o g with
      | some (x, vc) => match drawG P T orc et fz ops n (i + 1) rest (putE E o.dst x) H nx with
        | some (tr, Ef, Hf, nf, p) => some (⟨o.dst, x, H, nx, false⟩ :: tr, Ef, Hf, nf, vc ∧ p)
        | none => none
      | none => match g, effV T et H nx (restr E (looks ops o)) o with
        | none, some (x, H', nx', vc) => match drawG P T orc et fz ops n (i + 1) rest (putE E o.dst x) H' nx' with
          | some (tr, Ef, Hf, nf, p) => some (⟨o.dst, x, H', nx', true⟩ :: tr, Ef, Hf, nf, vc ∧ p)
          | none => none
        | _, _ => none
      else none

theorem drawG_get {orc : Tab} {et : ETab} {fz : List Nat} {ops : List Oper} {n : Nat} : ∀ (rest : List Oper) (k0 : Nat) (E : Nat → SV) (H : Nat → Option ABlk) (nx : Nat) (tr : List Tr) (Ef : Nat → SV) (Hf : Nat → Option ABlk) (nf : Nat) (p : Prop), drawG P T orc et fz ops n k0 rest E H nx = some (tr, Ef, Hf, nf, p) → p →
    tr.length = rest.length ∧ Ef = envD (fun _ => true) (trE tr) E ∧ (Hf, nf) = lastH (fun _ => true) 0 tr (H, nx) ∧ ∀ (j : Nat) o, rest[j]? = some o → ∃ g t, guardOf ops (restr (envD (fun i => Nat.blt i j) (trE tr) E) (looks ops o)) o.guard = some g ∧ dstOk o.dst n = true ∧ tr[j]? = some t ∧ t.d = o.dst ∧
      ((t.eff = false ∧ ∃ vc, stepG P T orc fz (lastH (fun i => Nat.blt i j) 0 tr (H, nx)).1 (k0 + j) (restr (envD (fun i => Nat.blt i j) (trE tr) E) (looks ops o)) o g = some (t.x, vc) ∧ vc) ∨
       (t.eff = true ∧ g = none ∧ ∃ vc, effV T et (lastH (fun i => Nat.blt i j) 0 tr (H, nx)).1 (lastH (fun i => Nat.blt i j) 0 tr (H, nx)).2 (restr (envD (fun i => Nat.blt i j) (trE tr) E) (looks ops o)) o = some (t.x, t.H, t.nx, vc) ∧ vc)) := by
  intro rest
  induction rest with
  | nil =>
    intro k0 E H nx tr Ef Hf nf p h hp
    simp only [drawG, Option.some.injEq, Prod.mk.injEq] at h
    obtain ⟨rfl, rfl, rfl, rfl, _⟩ := h
    exact ⟨rfl, by funext t; rfl, rfl, fun j o hj => by simp at hj⟩
  | cons o rest ih =>
    intro k0 E H nx tr Ef Hf nf p h hp
    -- what both kinds have in common
    have step : ∀ (x : SV) (H' : Nat → Option ABlk) (nx' : Nat) (eff : Bool) (tr' : List Tr) (p' : Prop), drawG P T orc et fz ops n (k0 + 1) rest (putE E o.dst x) H' nx' = some (tr', Ef, Hf, nf, p') → p' → tr = ⟨o.dst, x, H', nx', eff⟩ :: tr' → (eff = false → H' = H ∧ nx' = nx) →
        tr.length = (o :: rest).length ∧ Ef = envD (fun _ => true) (trE tr) E ∧ (Hf, nf) = lastH (fun _ => true) 0 tr (H, nx) ∧ ∀ (j : Nat) o', rest[j]? = some o' → envD (fun i => Nat.blt i (j + 1)) (trE tr) E = envD (fun i => Nat.blt i j) (trE tr') (putE E o.dst x) ∧ lastH (fun i => Nat.blt i (j + 1)) 0 tr (H, nx) = lastH (fun i => Nat.blt i j) 0 tr' (H', nx') := by
      intro x H' nx' eff tr' p' hrest hp' htr hne
      subst htr
      obtain ⟨h1, h2, h3, _⟩ := ih _ _ H' nx' tr' Ef Hf nf p' hrest hp'
      refine ⟨by simp [h1], ?_, ?_, fun j o' hj => ⟨?_, ?_⟩⟩
      · rw [h2]
        funext t
        simp only [envD, trE, List.map_cons, valD]
        rw [show valD (fun _ => true) (0 + 1) (List.map (fun t => (t.d, t.x)) tr') t = valD (fun _ => true) 0 (List.map (fun t => (t.d, t.x)) tr') t from valD_shift _ _ _ fun i => rfl]
        cases valD (fun _ => true) 0 (List.map (fun t => (t.d, t.x)) tr') t with
        | some y => simp
        | none =>
          simp only [Option.getD_none, putE_get]
          by_cases hd' : o.dst = some t <;> simp [hd']
      · rw [h3]
        simp only [lastH, Bool.and_true]
        rw [lastH_shift (D' := fun _ => true) tr' 0 1 _ fun j => rfl]
        cases eff with
        | true => rfl
        | false => obtain ⟨rfl, rfl⟩ := hne rfl; rfl
      · funext t
        simp only [envD, trE, List.map_cons, valD]
        rw [show valD (fun i => Nat.blt i (j + 1)) (0 + 1) (List.map (fun t => (t.d, t.x)) tr') t = valD (fun i => Nat.blt i j) 0 (List.map (fun t => (t.d, t.x)) tr') t from valD_shift _ _ _ fun i => by
          simp only [Nat.blt]
          rw [show (0 + 1 + i).succ = (0 + i).succ.succ from by omega]
          rfl]
        cases valD (fun i => Nat.blt i j) 0 (List.map (fun t => (t.d, t.x)) tr') t with
        | some y => simp
        | none =>
          simp only [Option.getD_none, putE_get]
          have : Nat.blt 0 (j + 1) = true := rfl
          by_cases hd' : o.dst = some t <;> simp [hd', this]
      · have : Nat.blt 0 (j + 1) = true := rfl
        simp only [lastH, this, Bool.and_true]
        rw [lastH_shift (D := fun i => Nat.blt i (j + 1)) (D' := fun i => Nat.blt i j) tr' (0 + 1) 0 _ fun i => by
          simp only [Nat.blt]
          rw [show (0 + 1 + i).succ = (0 + i).succ.succ from by omega]
          rfl]
        cases eff with
        | true => rfl
        | false => obtain ⟨rfl, rfl⟩ := hne rfl; rfl
    have e0 : ∀ (tr : List Tr), envD (fun i => Nat.blt i 0) (trE tr) E = E := by
      intro tr
      funext t
      simp only [envD]
      rw [valD_none _ _ fun j => rfl]
      rfl
    have l0 : ∀ (tr : List Tr), lastH (fun i => Nat.blt i 0) 0 tr (H, nx) = (H, nx) := fun tr => lastH_none _ _ _ fun j t _ _ => rfl
    simp only [drawG] at h
    split at h
    · cases h
    · rename_i g hg
      cases hd : dstOk o.dst n with
      | false => rw [hd] at h; simp at h
      | true =>
        rw [hd] at h
        simp only [cond_true] at h
        split at h
        · rename_i x vc hs
          split at h
          · rename_i tr' Ef' Hf' nf' p' hrest
            simp only [Option.some.injEq, Prod.mk.injEq] at h
            obtain ⟨htr, rfl, rfl, rfl, rfl⟩ := h
            obtain ⟨q1, q2, q3, q4⟩ := step x H nx false tr' p' hrest hp.2 htr.symm fun _ => ⟨rfl, rfl⟩
            refine ⟨q1, q2, q3, fun j o' hj => ?_⟩
            cases j with
            | zero =>
              simp at hj
              subst hj
              rw [e0, l0]
              exact ⟨g, _, hg, hd, by rw [← htr]; rfl, rfl, .inl ⟨rfl, vc, hs, hp.1⟩⟩
            | succ j =>
              obtain ⟨_, _, _, q5⟩ := ih _ _ H nx tr' Ef' Hf' nf' p' hrest hp.2
              have hj' : rest[j]? = some o' := by simpa using hj
              obtain ⟨g', t, r1, r2, r3, r4⟩ := q5 j o' hj'
              obtain ⟨s1, s2⟩ := q4 j o' hj'
              rw [s1, s2, show k0 + (j + 1) = k0 + 1 + j from by omega]
              exact ⟨g', t, r1, r2, by rw [← htr]; simpa using r3, r4⟩
          · cases h
        · split at h
          · rename_i x H1 nx1 vc hM _
            split at h
            · rename_i tr' Ef' Hf' nf' p' hrest
              simp only [Option.some.injEq, Prod.mk.injEq] at h
              obtain ⟨htr, rfl, rfl, rfl, rfl⟩ := h
              obtain ⟨q1, q2, q3, q4⟩ := step x H1 nx1 true tr' p' hrest hp.2 htr.symm fun h => by cases h
              refine ⟨q1, q2, q3, fun j o' hj => ?_⟩
              cases j with
              | zero =>
                simp at hj
                subst hj
                rw [e0, l0]
                exact ⟨none, _, hg, hd, by rw [← htr]; rfl, rfl, .inr ⟨rfl, rfl, vc, hM, hp.1⟩⟩
              | succ j =>
                obtain ⟨_, _, _, q5⟩ := ih _ _ H1 nx1 tr' Ef' Hf' nf' p' hrest hp.2
                have hj' : rest[j]? = some o' := by simpa using hj
                obtain ⟨g', t, r1, r2, r3, r4⟩ := q5 j o' hj'
                obtain ⟨s1, s2⟩ := q4 j o' hj'
                rw [s1, s2, show k0 + (j + 1) = k0 + 1 + j from by omega]
                exact ⟨g', t, r1, r2, by rw [← htr]; simpa using r3, r4⟩
            · cases h
          · cases h



/-- Two that change memory are bound, each to the other. -/
def effOkG (c : List Nat) (fl : List Bool) (m : Nat) : Bool :=
  (List.range m).all fun k => !(fl.getD k false) || (List.range m).all fun i => Nat.beq i k || !(fl.getD i false) || (bif Nat.blt i k then (c.getD k 0).testBit i else (c.getD i 0).testBit k)

/-- Is there a change of memory, behind k and ahead of i, to which i is bound? -/
def betw (c : List Nat) (fl : List Bool) (i : Nat) (from_ : Nat) : Bool := (List.range i).any fun q => Nat.ble from_ q && (fl.getD q false && (c.getD i 0).testBit q)
/-- May i be done when k was the last change of memory? -/
def posG (c : List Nat) (fl : List Bool) (i k : Nat) : Bool := !((Nat.blt i k && (c.getD k 0).testBit i) || betw c fl i (k + 1))

def stagesP (f : (Nat → Option ABlk) → Prop) (pos : Nat → Bool) : Nat → List Tr → Prop
  | _, [] => True
  | k, t :: l => bif t.eff && pos k then f t.H ∧ stagesP f pos (k + 1) l else stagesP f pos (k + 1) l

theorem stagesP_get {f : (Nat → Option ABlk) → Prop} {pos : Nat → Bool} : ∀ (l : List Tr) (k : Nat), stagesP f pos k l → ∀ (j : Nat) t, l[j]? = some t → t.eff = true → pos (k + j) = true → f t.H
  | [], _, _, j, t, h, _, _ => by simp at h
  | t :: l, k, h, j, t', hj, he, hp => by
    simp only [stagesP] at h
    cases j with
    | zero =>
      simp at hj
      subst hj
      simp only [Nat.add_zero] at hp
      rw [he, hp] at h
      exact h.1
    | succ j =>
      have hj' : l[j]? = some t' := by simpa using hj
      have hp' : pos (k + 1 + j) = true := by rwa [show k + (j + 1) = k + 1 + j from by omega] at hp
      cases hb : (t.eff && pos k) with
      | true => rw [hb] at h; exact stagesP_get l (k + 1) h.2 j t' hj' he hp'
      | false => rw [hb] at h; exact stagesP_get l (k + 1) h j t' hj' he hp'

def sameAtG (P : Program) (T : Lays) (orc : Tab) (fz : List Nat) (i : Nat) (E : Nat → SV) (o : Oper) (g : Option Bool) (x : SV) (H : Nat → Option ABlk) : Prop := match stepG P T orc fz H i E o g with
  | some (y, vc) => y = x ∧ vc
  | none => False

/-- Each operation that changes no memory yields the same at every state in which it may be done. -/
def checkG (P : Program) (T : Lays) (orc : Tab) (fz : List Nat) (ops : List Oper) (c : List Nat) (fl : List Bool) (all : List Tr) (H0 : Nat → Option ABlk) : Nat → List Oper → (Nat → SV) → List Tr → Prop
  | i, o :: rest, E, t :: ts => bif t.eff || heapFree o then checkG P T orc fz ops c fl all H0 (i + 1) rest (putE E o.dst t.x) ts else match guardOf ops (restr E (looks ops o)) o.guard with
    | some g => (bif betw c fl i 0 then True else sameAtG P T orc fz i (restr E (looks ops o)) o g t.x H0) ∧ (stagesP (sameAtG P T orc fz i (restr E (looks ops o)) o g t.x) (posG c fl i) 0 all ∧ checkG P T orc fz ops c fl all H0 (i + 1) rest (putE E o.dst t.x) ts)
    | none => False
  | _, _, _, _ => True

theorem heapFree_stepG {orc : Tab} {fz : List Nat} {H H' : Nat → Option ABlk} {k : Nat} {E : Nat → SV} {o : Oper} {g : Option Bool} (h : heapFree o = true) : stepG P T orc fz H k E o g = stepG P T orc fz H' k E o g := by
  have h1 : ∀ H, lentV orc H E o g = none := fun H => by
    unfold lentV
    unfold heapFree at h
    cases ho : o.op <;> first | rfl | (rw [ho] at h; simp at h)
  unfold stepG
  rw [heapFree_step (H := H) (H' := H') h, h1, h1]

theorem checkG_get {orc : Tab} {fz : List Nat} {ops : List Oper} {c : List Nat} {fl : List Bool} {all : List Tr} {H0 : Nat → Option ABlk} : ∀ (rest : List Oper) (k0 : Nat) (E : Nat → SV) (tr : List Tr), tr.length = rest.length → (∀ (j : Nat) o t, rest[j]? = some o → tr[j]? = some t → t.d = o.dst) → checkG P T orc fz ops c fl all H0 k0 rest E tr →
    ∀ (j : Nat) o t g, rest[j]? = some o → tr[j]? = some t → t.eff = false → heapFree o = false → guardOf ops (restr (envD (fun i => Nat.blt i j) (trE tr) E) (looks ops o)) o.guard = some g →
      (betw c fl (k0 + j) 0 = true ∨ sameAtG P T orc fz (k0 + j) (restr (envD (fun i => Nat.blt i j) (trE tr) E) (looks ops o)) o g t.x H0) ∧ stagesP (sameAtG P T orc fz (k0 + j) (restr (envD (fun i => Nat.blt i j) (trE tr) E) (looks ops o)) o g t.x) (posG c fl (k0 + j)) 0 all
  | [], _, _, _, _, _, _, j, o, _, _, h, _, _, _, _ => by simp at h
  | _ :: _, _, _, [], hl, _, _, _, _, _, _, _, h, _, _, _ => by simp at h
  | o :: rest, k0, E, t :: ts, hl, hd, h, j, o', t', g, ho, ht, he, hf, hg => by
    have hd0 : t.d = o.dst := hd 0 o t rfl rfl
    have e0 : ∀ (tr : List Tr), envD (fun i => Nat.blt i 0) (trE tr) E = E := by
      intro tr
      funext t
      simp only [envD]
      rw [valD_none _ _ fun j => rfl]
      rfl
    have eS : ∀ j, envD (fun i => Nat.blt i (j + 1)) (trE (t :: ts)) E = envD (fun i => Nat.blt i j) (trE ts) (putE E o.dst t.x) := by
      intro j
      funext q
      simp only [envD, trE, List.map_cons, valD]
      rw [show valD (fun i => Nat.blt i (j + 1)) (0 + 1) (List.map (fun t => (t.d, t.x)) ts) q = valD (fun i => Nat.blt i j) 0 (List.map (fun t => (t.d, t.x)) ts) q from valD_shift _ _ _ fun i => by
        simp only [Nat.blt]
        rw [show (0 + 1 + i).succ = (0 + i).succ.succ from by omega]
        rfl]
      cases valD (fun i => Nat.blt i j) 0 (List.map (fun t => (t.d, t.x)) ts) q with
      | some y => simp
      | none =>
        simp only [Option.getD_none, putE_get, hd0]
        have : Nat.blt 0 (j + 1) = true := rfl
        by_cases hd' : o.dst = some q <;> simp [hd', this]
    have tail : checkG P T orc fz ops c fl all H0 (k0 + 1) rest (putE E o.dst t.x) ts := by
      simp only [checkG] at h
      cases hb : (t.eff || heapFree o) with
      | true => rw [hb] at h; exact h
      | false =>
        rw [hb] at h
        simp only [cond_false] at h
        split at h
        · exact h.2.2
        · exact h.elim
    cases j with
    | zero =>
      simp at ho ht
      subst ho
      subst ht
      rw [e0] at hg ⊢
      simp only [checkG, he, hf, Bool.or_self, cond_false, hg] at h
      refine ⟨?_, h.2.1⟩
      show betw c fl k0 0 = true ∨ _
      rcases Bool.eq_false_or_eq_true (betw c fl k0 0) with hb | hb
      · exact .inl hb
      · have := h.1
        rw [hb] at this
        exact .inr this
    | succ j =>
      have ho' : rest[j]? = some o' := by simpa using ho
      have ht' : ts[j]? = some t' := by simpa using ht
      rw [eS] at hg ⊢
      have := checkG_get rest (k0 + 1) (putE E o.dst t.x) ts (by simpa using hl) (fun j o t h1 h2 => hd (j + 1) o t (by simpa using h1) (by simpa using h2)) tail j o' t' g ho' ht' he hf hg
      rwa [show k0 + (j + 1) = k0 + 1 + j from by omega]

theorem lastH_cases {D : Nat → Bool} : ∀ (l : List Tr) (k : Nat) (acc : (Nat → Option ABlk) × Nat), (lastH D k l acc = acc ∧ ∀ (j : Nat) t, l[j]? = some t → t.eff = true → D (k + j) = false) ∨ ∃ (j : Nat) (t : Tr), l[j]? = some t ∧ t.eff = true ∧ D (k + j) = true ∧ lastH D k l acc = (t.H, t.nx) ∧ ∀ (i : Nat) t', l[i]? = some t' → t'.eff = true → j < i → D (k + i) = false
  | [], _, acc => .inl ⟨rfl, fun j t h => by simp at h⟩
  | t :: l, k, acc => by
    rcases lastH_cases (D := D) l (k + 1) (bif t.eff && D k then (t.H, t.nx) else acc) with ⟨h1, h2⟩ | ⟨j, t', h1, h2, h3, h4, h5⟩
    · cases hb : (t.eff && D k) with
      | true =>
        rw [hb] at h1
        rw [Bool.and_eq_true] at hb
        refine .inr ⟨0, t, rfl, hb.1, hb.2, by simp only [lastH, hb.1, hb.2, Bool.and_self]; exact h1, fun i t' hi he hlt => ?_⟩
        cases i with
        | zero => omega
        | succ i => rw [show k + (i + 1) = k + 1 + i from by omega]; exact h2 i t' (by simpa using hi) he
      | false =>
        rw [hb] at h1
        refine .inl ⟨by simp only [lastH, hb]; exact h1, fun j t' hj he => ?_⟩
        cases j with
        | zero =>
          simp at hj
          subst hj
          rw [he, Bool.true_and] at hb
          exact hb
        | succ j => rw [show k + (j + 1) = k + 1 + j from by omega]; exact h2 j t' (by simpa using hj) he
    · refine .inr ⟨j + 1, t', by simpa using h1, h2, by rwa [show k + (j + 1) = k + 1 + j from by omega], by simp only [lastH]; exact h4, fun i t'' hi he hlt => ?_⟩
      cases i with
      | zero => omega
      | succ i => rw [show k + (i + 1) = k + 1 + i from by omega]; exact h5 i t'' (by simpa using hi) he (by omega)


/-- A list of bits that is right: what it tells of each is what the edges tell, by the list itself. -/
def cOk (c : List Nat) : Nat → List Oper → Bool
  | _, [] => true
  | k, o :: rest => Nat.beq (cloOf c o) (c.getD k 0) && cOk c (k + 1) rest
theorem cOk_get {c : List Nat} : ∀ (l : List Oper) (k : Nat), cOk c k l = true → ∀ (j : Nat) o, l[j]? = some o → cloOf c o = c.getD (k + j) 0
  | [], _, _, j, o, h => by simp at h
  | o' :: l, k, h, j, o, hj => by
    simp only [cOk, Bool.and_eq_true] at h
    cases j with
    | zero => simp at hj; subst hj; exact Nat.eq_of_beq_eq_true h.1
    | succ j =>
      have := cOk_get l (k + 1) h.2 j o (by simpa using hj)
      rwa [show k + (j + 1) = k + 1 + j from by omega]
theorem foldl_bitsC {ops : Array Oper} {acc : List Nat} {j : Nat} {o : Oper} (ho : ops[j]? = some o) (hacc : ∀ e ∈ o.after, Region.binds .any e = true → ∀ i, (acc.getD e.on 0).testBit i = true → Reach ops e.on i) : ∀ (l : List Edge) (s : Nat), (∀ e ∈ l, e ∈ o.after) → (∀ i, s.testBit i = true → Reach ops j i) →
    ∀ i, (l.foldl (fun s e => bif Region.binds .any e then s ||| 2 ^ e.on ||| acc.getD e.on 0 else s) s).testBit i = true → Reach ops j i
  | [], s, _, hs, i, h => hs i h
  | e :: l, s, hl, hs, i, h => by
    refine foldl_bitsC ho hacc l _ (fun e' he' => hl e' (List.mem_cons_of_mem _ he')) ?_ i h
    intro i' hi'
    cases hb : Region.binds .any e with
    | false =>
      dsimp only at hi'
      rw [hb] at hi'
      exact hs i' hi'
    | true =>
      dsimp only at hi'
      rw [hb] at hi'
      simp only [cond_true, Nat.testBit_or, Bool.or_eq_true] at hi'
      rcases hi' with (h1 | h1) | h1
      · exact hs i' h1
      · rw [Nat.testBit_two_pow] at h1
        have := of_decide_eq_true h1
        subst this
        exact .one ho (hl e (List.mem_cons_self ..)) hb
      · exact .more ho (hl e (List.mem_cons_self ..)) hb (hacc e (hl e (List.mem_cons_self ..)) hb i' h1)
theorem cOk_reach {ops : Array Oper} {c : List Nat} (hc : cOk c 0 ops.toList = true) (he : edgesOk ops.toList 0 ops.toList = true) (hl : c.length = ops.size) : ∀ k i, (c.getD k 0).testBit i = true → Reach ops k i := by
  intro k
  induction k using Nat.strongRecOn with
  | _ k ih =>
    intro i hi
    rcases Nat.lt_or_ge k ops.size with hk | hk
    · have ho : ops[k]? = some ops[k] := by simp [hk]
      have ho' : ops.toList[k]? = some ops[k] := by simp [hk]
      have h1 := cOk_get ops.toList 0 hc k _ ho'
      rw [Nat.zero_add] at h1
      rw [← h1] at hi
      refine foldl_bitsC ho (fun e hem hb q hq => ih e.on ?_ q hq) _ 0 (fun e hem => Array.mem_toList_iff.1 hem) (fun q hq => by simp at hq) i hi
      have := edgesOk_get ops.toList 0 he k _ ho' e hem hb
      omega
    · rw [List.getD_eq_getElem?_getD, List.getElem?_eq_none (by omega)] at hi
      simp at hi

theorem AW_drwG (G : Good P T) (hm : P.follows .mixedOrders = true) {id n nx : Nat} {E : Nat → SV} {H : Nat → Option ABlk} {ops : Array Oper} (orc : Tab) (hTab : TabOk P orc) (et : ETab) (hE : ETabOk P et) (fz c : List Nat) (fl : List Bool) {tr : List Tr} {Ef : Nat → SV} {Hf : Nat → Option ABlk} {nf : Nat} {p : Prop} (hall : (ops.toList.all fun o => dstOk o.dst n) = true) (hord : (edgesOk ops.toList 0 ops.toList && (cOk c 0 ops.toList && (Nat.beq c.length ops.toList.length && pairsOk ops.toList c 0 ops.toList))) = true)
    (h : drawG P T orc et fz ops.toList n 0 ops.toList E H nx = some (tr, Ef, Hf, nf, p)) (hfl : tr.map (·.eff) = fl) (heff : effOkG c fl ops.toList.length = true) (hp : p) (hck : checkG P T orc fz ops.toList c fl tr H 0 ops.toList E tr) (hQ : Q .normal ⟨n, Ef, Hf, nf⟩) (hnd : noDefer ops.toList = true := by rfl) : AW K P (.region id ops true) Q ⟨n, E, H, nx⟩ := by
  subst hfl
  intro C μ a w hR
  obtain ⟨hlen, hEf, hHf, hget⟩ := drawG_get (orc := orc) (et := et) ops.toList 0 E H nx tr Ef Hf nf p h hp
  simp only [Bool.and_eq_true] at hord
  have hedges := edgesOk_get ops.toList 0 hord.1
  have hpairs := pairsOk_get ops.toList 0 hord.2.2.2
  have hclo : ∀ k i, (c.getD k 0).testBit i = true → Reach ops k i := cOk_reach hord.2.1 hord.1 ((Nat.eq_of_beq_eq_true hord.2.2.1).trans (by simp))
  have hget' : ∀ (j : Nat) o, ops[j]? = some o → ops.toList[j]? = some o := fun j o hj => by simpa using hj
  have hall' : ∀ (j : Nat) o', ops[j]? = some o' → dstOk o'.dst n = true := by
    intro j o' hj
    rw [List.all_eq_true] at hall
    exact hall o' (List.mem_of_getElem? (hget' j o' hj))
  have htrop : ∀ (j : Nat) t, tr[j]? = some t → ∃ o : Oper, ops[j]? = some o ∧ o.dst = t.d := by
    intro j t hj
    have hlt : j < ops.toList.length := by
      rw [← hlen]
      exact (List.getElem?_eq_some_iff.1 hj).1
    obtain ⟨g, t', _, _, q, q', _⟩ := hget j _ (List.getElem?_eq_getElem hlt)
    rw [hj] at q
    cases q
    exact ⟨_, by rw [← Array.getElem?_toList]; exact List.getElem?_eq_getElem hlt, q'.symm⟩
  have htr : ∀ (j : Nat) d x, (trE tr)[j]? = some (d, x) → ∃ o : Oper, ops[j]? = some o ∧ o.dst = d := by
    intro j d x hj
    simp only [trE, List.getElem?_map, Option.map_eq_some_iff, Prod.mk.injEq] at hj
    obtain ⟨t, ht, rfl, rfl⟩ := hj
    exact htrop j t ht
  have hflg : ∀ (k : Nat) tk, tr[k]? = some tk → (tr.map (·.eff)).getD k false = tk.eff := fun k tk hk => by simp [List.getD, hk]
  have hlen' : ops.size = tr.length := by rw [hlen]; simp
  -- two that change memory are bound
  have hbnd : ∀ (k i : Nat) tk ti, tr[k]? = some tk → tk.eff = true → tr[i]? = some ti → i ≠ k → ti.eff = true → (i < k → Reach ops k i) ∧ (k < i → Reach ops i k) := by
    intro k i tk ti hk hek hi hne hei
    have hkl : k < ops.toList.length := by rw [← hlen]; exact (List.getElem?_eq_some_iff.1 hk).1
    have hil : i < ops.toList.length := by rw [← hlen]; exact (List.getElem?_eq_some_iff.1 hi).1
    have h1 := List.all_eq_true.1 heff k (List.mem_range.2 hkl)
    rw [hflg k tk hk, hek, Bool.not_true, Bool.false_or] at h1
    have h2 := List.all_eq_true.1 h1 i (List.mem_range.2 hil)
    have e2 : Nat.beq i k = false := by
      cases hb : Nat.beq i k with
      | false => rfl
      | true => exact absurd (Nat.eq_of_beq_eq_true hb) hne
    rw [e2, hflg i ti hi, hei, Bool.not_true, Bool.or_false, Bool.false_or] at h2
    constructor
    · intro hlt
      have : Nat.blt i k = true := Nat.ble_eq_true_of_le hlt
      rw [this] at h2
      exact hclo _ _ h2
    · intro hlt
      have : Nat.blt i k = false := by
        cases hb : Nat.blt i k with
        | false => rfl
        | true => have : i < k := Nat.le_of_ble_eq_true hb; omega
      rw [this] at h2
      exact hclo _ _ h2
  let I : Array Bool → Act → World → Prop := fun listed a w => listed.size = ops.size ∧ (∀ j o, ops[j]? = some o → listed.getD j false = true → ∀ e ∈ o.after, Region.binds .any e = true → listed.getD e.on false = true) ∧
    ∃ μ, Rel C μ ⟨n, envD (fun j => listed.getD j false) (trE tr) E, (lastH (fun j => listed.getD j false) 0 tr (H, nx)).1, (lastH (fun j => listed.getD j false) 0 tr (H, nx)).2⟩ a w
  refine wpIn_region_anyL hm hnd (wpAny_inv I ?_ ?_ ops.size (Array.replicate ops.size false) a _ (by simp) ?_ ?_)
  · -- a step
    rintro listed a w i ⟨hs, hclosed, μ, hRi⟩ hi
    rw [mem_ready] at hi
    obtain ⟨hfalse, o, ho, hedge⟩ := hi
    have hlt : i < ops.size := (Array.getElem?_eq_some_iff.1 ho).1
    have hl : i < listed.size := by omega
    have hfi : listed.getD i false = false := by simpa [Array.getD, hl] using hfalse
    obtain ⟨g, t, hg, hd, hti, htd, hcase⟩ := hget i o (hget' i o ho)
    have hadd : ∀ j, (listed.setIfInBounds i true).getD j false = (listed.getD j false || j == i) := by
      intro j
      by_cases hji : i = j
      · subst hji
        simp [Array.getD_eq_getD_getElem?, hl]
      · rw [getD_set_ne false hji]
        have : (j == i) = false := by simpa using Ne.symm hji
        rw [this]
        simp
    have hclosed' : ∀ j o, ops[j]? = some o → (listed.setIfInBounds i true).getD j false = true → ∀ e ∈ o.after, Region.binds .any e = true → (listed.setIfInBounds i true).getD e.on false = true := by
      intro j oj hoj hj e he hb
      by_cases hji : i = j
      · subst hji
        rw [ho] at hoj
        cases hoj
        exact getD_set_true (hedge e he hb)
      · rw [getD_set_ne false hji] at hj
        exact getD_set_true (hclosed j oj hoj hj e he hb)
    have ahead : ∀ j, Reach ops i j → listed.getD j false = true := fun j hr => reach_listed hclosed hr fun o' ho' => by rw [ho] at ho'; cases ho'; exact hedge
    have afterw : ∀ j oj, ops[j]? = some oj → Reach ops j i → listed.getD j false = false := by
      intro j oj hoj hr
      cases hl : listed.getD j false with
      | false => rfl
      | true =>
        have := reach_listed hclosed hr fun o' ho' => by rw [hoj] at ho'; cases ho'; exact hclosed j oj hoj hl
        rw [hfi] at this
        cases this
    have before : ∀ j oj, ops[j]? = some oj → j < i → touch ops.toList oj o = true → listed.getD j false = true := by
      intro j oj hoj hji ht
      have := hpairs i o (hget' i o ho) j oj (by omega) (hget' j oj hoj) ht
      rw [Nat.zero_add] at this
      exact ahead j (hclo _ _ this)
    have behind : ∀ j oj, ops[j]? = some oj → i < j → touch ops.toList o oj = true → listed.getD j false = false := by
      intro j oj hoj hij ht
      have := hpairs j oj (hget' j oj hoj) i o (by omega) (hget' i o ho) ht
      rw [Nat.zero_add] at this
      exact afterw j oj hoj (hclo _ _ this)
    have hrestr : restr (envD (fun j => listed.getD j false) (trE tr) E) (looks ops.toList o) = restr (envD (fun j => Nat.blt j i) (trE tr) E) (looks ops.toList o) := by
      funext t
      unfold restr
      cases hmem : memN (looks ops.toList o) t with
      | false => rfl
      | true =>
        simp only [cond_true, envD]
        congr 1
        refine valD_congr (trE tr) 0 fun j d y hj hdt => ?_
        subst hdt
        obtain ⟨oj, hoj, hdj⟩ := htr j _ y hj
        simp only [Nat.zero_add]
        rcases Nat.lt_trichotomy j i with h1 | h1 | h1
        · rw [before j oj hoj h1 (by unfold touch; rw [hdj]; simp [hmem])]
          have : Nat.blt j i = true := Nat.ble_eq_true_of_le h1
          rw [this]
        · subst h1
          rw [hfi]
          cases hb : Nat.blt j j with
          | false => rfl
          | true => have : j < j := Nat.le_of_ble_eq_true hb; omega
        · rw [behind j oj hoj h1 (by unfold touch; rw [hdj]; simp [hmem])]
          cases hb : Nat.blt j i with
          | false => rfl
          | true => have : j < i := Nat.le_of_ble_eq_true hb; omega
    have hmemory : t.eff = true → lastH (fun j => listed.getD j false) 0 tr (H, nx) = lastH (fun j => Nat.blt j i) 0 tr (H, nx) := by
      intro hor
      refine lastH_congr tr 0 _ fun k tk hk hek => ?_
      simp only [Nat.zero_add]
      rcases Nat.lt_trichotomy k i with h1 | h1 | h1
      · rw [ahead k ((hbnd k i tk t hk hek hti (by omega) hor).2 h1)]
        have : Nat.blt k i = true := Nat.ble_eq_true_of_le h1
        rw [this]
      · subst h1
        rw [hfi]
        cases hb : Nat.blt k k with
        | false => rfl
        | true => have : k < k := Nat.le_of_ble_eq_true hb; omega
      · obtain ⟨ok, hok, _⟩ := htrop k tk hk
        rw [afterw k ok hok ((hbnd k i tk t hk hek hti (by omega) hor).1 h1)]
        cases hb : Nat.blt k i with
        | false => rfl
        | true => have : k < i := Nat.le_of_ble_eq_true hb; omega
    have hval := valD_add (D := fun j => listed.getD j false) (D' := fun j => (listed.setIfInBounds i true).getD j false) (i := i) (di := t.d) (xi := t.x) hadd (trE tr) 0 (Nat.zero_le _) (by simp [trE, hti]) fun j d y hj hij hdd hn => by
      obtain ⟨oj, hoj, hdj⟩ := htr j d y hj
      rw [Nat.zero_add] at hij ⊢
      refine behind j oj hoj hij ?_
      unfold touch
      rw [hdj]
      subst hdd
      rw [← htd]
      cases hod : t.d with
      | none => exact absurd hod hn
      | some d' => simp
    have henv : envD (fun j => (listed.setIfInBounds i true).getD j false) (trE tr) E = putE (envD (fun j => listed.getD j false) (trE tr) E) o.dst t.x := by
      funext t'
      rw [putE_get, ← htd]
      simp only [envD, hval t']
      by_cases hdt : t.d = some t' <;> simp [hdt]
    rw [← hrestr] at hg hcase
    rcases hcase with ⟨hne, vc, hst, hvc⟩ | ⟨hef, rfl, vc, hM, hvc⟩
    · have hst' : ∃ vc', stepG P T orc fz (lastH (fun j => listed.getD j false) 0 tr (H, nx)).1 (0 + i) (restr (envD (fun j => listed.getD j false) (trE tr) E) (looks ops.toList o)) o g = some (t.x, vc') ∧ vc' := by
        cases hf : heapFree o with
        | true => exact ⟨vc, by rw [← hst]; exact heapFree_stepG hf, hvc⟩
        | false =>
          have hck' := checkG_get (orc := orc) ops.toList 0 E tr hlen (fun j oj tj hj htj => by
            obtain ⟨oj', hoj', hd'⟩ := htrop j tj htj
            rw [hget' j oj' hoj'] at hj
            cases hj
            exact hd'.symm) hck i o t g (hget' i o ho) hti hne hf (by rw [← hrestr]; exact hg)
          rw [← hrestr] at hck'
          have fin : ∀ Hs, sameAtG P T orc fz (0 + i) (restr (envD (fun j => listed.getD j false) (trE tr) E) (looks ops.toList o)) o g t.x Hs → ∃ vc', stepG P T orc fz Hs (0 + i) (restr (envD (fun j => listed.getD j false) (trE tr) E) (looks ops.toList o)) o g = some (t.x, vc') ∧ vc' := by
            intro Hs hs
            unfold sameAtG at hs
            split at hs
            · rename_i y vc' hy
              obtain ⟨rfl, h2⟩ := hs
              exact ⟨vc', hy, h2⟩
            · exact hs.elim
          have nobetw : ∀ m, (∀ q, q < i → m ≤ q → ∀ tq, tr[q]? = some tq → tq.eff = true → listed.getD q false = false) → betw (c) (tr.map (·.eff)) (0 + i) m = false := by
            intro m hm
            cases hb : betw (c) (tr.map (·.eff)) (0 + i) m with
            | false => rfl
            | true =>
              unfold betw at hb
              rw [List.any_eq_true] at hb
              obtain ⟨q, hq, hq2⟩ := hb
              simp only [Bool.and_eq_true] at hq2
              obtain ⟨hq2, hq3, hq4⟩ := hq2
              have hqi : q < i := by have := List.mem_range.1 hq; omega
              have hmq : m ≤ q := Nat.le_of_ble_eq_true hq2
              have hqt : q < tr.length := by omega
              rw [hflg q _ (List.getElem?_eq_getElem hqt)] at hq3
              have h1 := hm q hqi hmq _ (List.getElem?_eq_getElem hqt) hq3
              rw [Nat.zero_add] at hq4
              rw [ahead q (hclo _ _ hq4)] at h1
              cases h1
          rcases lastH_cases (D := fun j => listed.getD j false) tr 0 (H, nx) with ⟨h1, h2⟩ | ⟨j, tj, h1, h2, h3, h4, h5⟩
          · rw [h1]
            rcases hck'.1 with hb | hs
            · rw [nobetw 0 fun q _ _ tq hq heq => by have := h2 q tq hq heq; rwa [Nat.zero_add] at this] at hb
              cases hb
            · exact fin _ hs
          · rw [h4]
            refine fin _ (stagesP_get tr 0 hck'.2 j tj h1 h2 ?_)
            have hnb := nobetw (j + 1) fun q _ hmq tq hq heq => by have := h5 q tq hq heq (by omega); rwa [Nat.zero_add] at this
            rw [Nat.zero_add] at h3 hnb ⊢
            rw [Nat.zero_add]
            unfold posG
            rw [hnb, Bool.or_false]
            cases hb : (Nat.blt i j && ((c).getD j 0).testBit i) with
            | false => rfl
            | true =>
              rw [Bool.and_eq_true] at hb
              obtain ⟨oj, hoj, _⟩ := htrop j tj h1
              rw [afterw j oj hoj (hclo _ _ hb.2)] at h3
              cases h3
      obtain ⟨vc', hst', hvc⟩ := hst'
      refine stepG_sound (S := ⟨n, E, (lastH (fun j => listed.getD j false) 0 tr (H, nx)).1, (lastH (fun j => listed.getD j false) 0 tr (H, nx)).2⟩) G hTab ho hall hRi hg hd hst' hvc fun v w' hR' => ?_
      refine ⟨by simpa using hs, hclosed', μ, ?_⟩
      have hLH : lastH (fun j => (listed.setIfInBounds i true).getD j false) 0 tr (H, nx) = lastH (fun j => listed.getD j false) 0 tr (H, nx) := lastH_congr tr 0 _ fun k tk hk hek => by
        rw [Nat.zero_add, hadd]
        have : (k == i) = false := by
          simp only [beq_eq_false_iff_ne]
          intro e
          subst e
          rw [hti] at hk
          cases hk
          rw [hne] at hek
          cases hek
        rw [this, Bool.or_false]
      rw [henv, hLH]
      exact hR'
    · rw [← hmemory hef] at hM
      have hR0 := (restr_le (S := ⟨n, envD (fun j => listed.getD j false) (trE tr) E, (lastH (fun j => listed.getD j false) 0 tr (H, nx)).1, (lastH (fun j => listed.getD j false) 0 tr (H, nx)).2⟩) (envD (fun j => listed.getD j false) (trE tr) E) (looks ops.toList o)).rel hRi
      have hw := guardOf_sound hR0.env hg hR0.size hall'
      unfold wpOpL
      rw [ho]
      simp only
      rw [if_pos (by rw [hw]; rfl)]
      refine (effV_sound G hE hRi hR0 hd hM hvc fun v μ' w' hR' => ?_)
      refine ⟨by simpa using hs, hclosed', μ', ?_⟩
      have hLH : lastH (fun j => (listed.setIfInBounds i true).getD j false) 0 tr (H, nx) = (t.H, t.nx) := by
        refine lastH_at (i := i) hef (by rw [hadd]; simp) tr 0 _ (Nat.zero_le _) (by simpa using hti) fun k tk hk hek hik => ?_
        rw [Nat.zero_add] at hik ⊢
        rw [hadd]
        obtain ⟨ok, hok, _⟩ := htrop k tk hk
        rw [afterw k ok hok ((hbnd k i tk t hk hek hti (by omega) hef).1 hik)]
        have : (k == i) = false := by simp; omega
        rw [this]
        rfl
      rw [henv, hLH]
      exact hR'
  · -- the end
    rintro listed a w ⟨hs, hclosed, μ, hRi⟩ hr
    have hdone : ∀ n, n < ops.size → listed.getD n false = true := by
      intro n
      induction n using Nat.strongRecOn with
      | _ n ih =>
        intro hn
        cases hl : listed.getD n false with
        | true => rfl
        | false =>
          have hlt : n < listed.size := by omega
          have hmem : n ∈ Region.ready .any ops listed := by
            rw [mem_ready]
            refine ⟨by simpa [Array.getD, hlt] using hl, ops[n], by simp [hn], fun e he hb => ?_⟩
            have := hedges n ops[n] (hget' n _ (by simp [hn])) e he hb
            exact ih e.on (by omega) (by omega)
          rw [hr] at hmem
          cases hmem
    have h1 : envD (fun j => listed.getD j false) (trE tr) E = Ef := by
      rw [hEf]
      funext t
      simp only [envD]
      congr 1
      refine valD_congr (trE tr) 0 fun j d y hj _ => ?_
      obtain ⟨oj, hoj, _⟩ := htr j d y hj
      rw [Nat.zero_add, hdone j (Array.getElem?_eq_some_iff.1 hoj).1]
    have h2 : lastH (fun j => listed.getD j false) 0 tr (H, nx) = (Hf, nf) := by
      rw [hHf]
      refine lastH_congr tr 0 _ fun k tk hk _ => ?_
      obtain ⟨ok, hok, _⟩ := htrop k tk hk
      rw [Nat.zero_add, hdone k (Array.getElem?_eq_some_iff.1 hok).1]
    rw [h1, h2] at hRi
    exact ⟨C, .refl C, μ, _, hRi, hQ⟩
  · refine Nat.le_trans (List.length_filter_le _ _) (by simp)
  · refine ⟨by simp, fun j o _ hj => ?_, μ, ?_⟩
    · rw [rep_false] at hj; cases hj
    have h1 : envD (fun j => (Array.replicate ops.size false).getD j false) (trE tr) E = E := by
      funext t
      simp only [envD]
      rw [valD_none _ _ fun j => by rw [rep_false]]
      rfl
    have h2 : lastH (fun j => (Array.replicate ops.size false).getD j false) 0 tr (H, nx) = (H, nx) := lastH_none _ _ _ fun j t _ _ => by rw [rep_false]
    rw [h1, h2]
    exact hR.drew rfl rfl rfl rfl


end
end Go.Proofs.YtmpddomgiplnmaaDoor.Abs

/-
  LOOPS AND JOINS, TOLD BY WHAT CHANGES: the slots and blocks that stay are named by their numbers alone.
-/
namespace Go.Proofs.YtmpddomgiplnmaaDoor.Abs
open Go

section
variable {K : Nat} {P : Program} {T : Lays} {S : St} {Q : Exit → St → Prop}

theorem blkQ_normal {id : Nat} {Q : Exit → St → Prop} {S : St} (h : Q .normal S) : blkQ id Q .normal S := h
theorem blkQ_exit {id : Nat} {Q : Exit → St → Prop} {S : St} (h : Q .normal S) : blkQ id Q (.exit id) S := by
  simp only [blkQ, Nat.beq_refl, cond_true]
  exact h
theorem blkQ_pass {id id' : Nat} {Q : Exit → St → Prop} {S : St} (hb : Nat.beq id' id = false) (h : Q (.exit id') S) : blkQ id Q (.exit id') S := by
  simp only [blkQ, hb, cond_false]
  exact h
def findE : List (Nat × SV) → Nat → Option SV
  | [], _ => none
  | (k, x) :: l, t => bif Nat.beq t k then some x else findE l t
def findB : List (Nat × ABlk) → Nat → Option ABlk
  | [], _ => none
  | (k, x) :: l, t => bif Nat.beq t k then some x else findB l t
/-- The slots of the list, and those of the numbers as they were. -/
def envX (E : Nat → SV) (fs : List Nat) (l : List (Nat × SV)) : Nat → SV := fun t => match findE l t with
  | some x => x
  | none => bif memN fs t then E t else .undef
def heapX (H : Nat → Option ABlk) (bs : List Nat) (hp : List (Nat × ABlk)) : Nat → Option ABlk := fun k => match findB hp k with
  | some B => some B
  | none => bif memN bs k then H k else none

def allF (ρ : Nat → Nat) (E' E : Nat → SV) : List Nat → Prop
  | [] => True
  | k :: fs => SLe (E' k) (renS ρ (E k)) ∧ allF ρ E' E fs
def allG (ρ : Nat → Nat) (n : Nat) (H' H : Nat → Option ABlk) : List Nat → Prop
  | [] => True
  | k :: bs => (Nat.blt k n = true ∧ ∃ B B0, H k = some B ∧ H' (ρ k) = some B0 ∧ BLe B0 (renB ρ B)) ∧ allG ρ n H' H bs

theorem allF_get {ρ : Nat → Nat} {E' E : Nat → SV} : ∀ (fs : List Nat), allF ρ E' E fs → ∀ t, memN fs t = true → SLe (E' t) (renS ρ (E t))
  | [], _, t, h => by simp [memN] at h
  | k :: fs, h, t, hm => by
    simp only [memN] at hm
    cases hb : Nat.beq t k with
    | true => obtain rfl := Nat.eq_of_beq_eq_true hb; exact h.1
    | false => rw [hb] at hm; exact allF_get fs h.2 t hm
theorem allG_get {ρ : Nat → Nat} {n : Nat} {H' H : Nat → Option ABlk} : ∀ (bs : List Nat), allG ρ n H' H bs → ∀ k B, memN bs k = true → H k = some B → k < n ∧ ∃ B0, H' (ρ k) = some B0 ∧ BLe B0 (renB ρ B)
  | [], _, k, B, h, _ => by simp [memN] at h
  | q :: bs, h, k, B, hm, hB => by
    simp only [memN] at hm
    cases hb : Nat.beq k q with
    | true =>
      obtain rfl := Nat.eq_of_beq_eq_true hb
      obtain ⟨h1, B1, B0, h2, h3, h4⟩ := h.1
      rw [hB] at h2
      cases h2
      exact ⟨Nat.le_of_ble_eq_true h1, B0, h3, h4⟩
    | false => rw [hb] at hm; exact allG_get bs h.2 k B hm hB
theorem allLe_get {ρ : Nat → Nat} {E : Nat → SV} : ∀ (l : List (Nat × SV)), allLe ρ E l → ∀ t x, findE l t = some x → SLe (E t) (renS ρ x)
  | [], _, _, _, h => by cases h
  | (k, y) :: l, h, t, x, hx => by
    simp only [findE] at hx
    cases hb : Nat.beq t k with
    | true => rw [hb] at hx; cases hx; rw [Nat.eq_of_beq_eq_true hb]; exact h.1
    | false => rw [hb] at hx; exact allLe_get l h.2 t x hx
theorem allBLe_get {ρ : Nat → Nat} {n : Nat} {H : Nat → Option ABlk} : ∀ (l : List (Nat × ABlk)), allBLe ρ n H l → ∀ k B, findB l k = some B → k < n ∧ ∃ B0, H (ρ k) = some B0 ∧ BLe B0 (renB ρ B)
  | [], _, _, _, h => by cases h
  | (k, x) :: l, h, t, B, hB => by
    simp only [findB] at hB
    cases hb : Nat.beq t k with
    | true => rw [hb] at hB; cases hB; rw [Nat.eq_of_beq_eq_true hb]; exact ⟨Nat.le_of_ble_eq_true h.1.1, h.1.2⟩
    | false => rw [hb] at hB; exact allBLe_get l h.2 t B hB

/-- A state in the names and words of a head. -/
theorem leX_mk {n nx nx0 : Nat} {E' E : Nat → SV} {H' H : Nat → Option ABlk} {fs bs : List Nat} {l : List (Nat × SV)} {hp : List (Nat × ABlk)} (L : List Nat) (hL : L.length = nx0) (hnd : (nodupB L && ltB L nx && keptB L K) = true)
    (hE : allLe (rho L nx) E' l) (hF : allF (rho L nx) E' E fs) (hH : allBLe (rho L nx) nx0 H' hp) (hB : allG (rho L nx) nx0 H' H bs) : LeR K L ⟨n, E', H', nx⟩ ⟨n, envX E fs l, heapX H bs hp, nx0⟩ := by
  subst hL
  simp only [Bool.and_eq_true] at hnd
  refine ⟨rfl, rfl, hnd.1.1, fun b hb => ?_, keptB_iff K hnd.2, fun t => ?_, fun k B hk => ?_⟩
  · have := List.all_eq_true.1 hnd.1.2 b hb
    exact Nat.le_of_ble_eq_true this
  · show SLe (E' t) (renS (rho L nx) (envX E fs l t))
    unfold envX
    cases h : findE l t with
    | some x => exact allLe_get l hE t x h
    | none =>
      cases hm : memN fs t with
      | true => exact allF_get fs hF t hm
      | false => exact fun _ _ _ _ _ => trivial
  · show k < L.length ∧ ∃ B0, H' (rho L nx k) = some B0 ∧ BLe B0 (renB (rho L nx) B)
    have hk : heapX H bs hp k = some B := hk
    unfold heapX at hk
    cases h : findB hp k with
    | some x =>
      rw [h] at hk
      obtain rfl : x = B := Option.some.inj hk
      exact allBLe_get hp hH k x h
    | none =>
      rw [h] at hk
      cases hm : memN bs k with
      | true => rw [hm] at hk; exact allG_get bs hB k B hm hk
      | false => rw [hm] at hk; cases hk

def allW (E : Nat → SV) : List (Nat × SV) → Prop
  | [] => True
  | (k, x) :: l => SLe (E k) x ∧ allW E l
def allBW (H : Nat → Option ABlk) : List (Nat × ABlk) → Prop
  | [] => True
  | (k, B) :: l => (∃ B0, H k = some B0 ∧ BLe B0 B) ∧ allBW H l
theorem allW_get {E : Nat → SV} : ∀ (l : List (Nat × SV)), allW E l → ∀ t x, findE l t = some x → SLe (E t) x
  | [], _, _, _, h => by cases h
  | (k, y) :: l, h, t, x, hx => by
    simp only [findE] at hx
    cases hb : Nat.beq t k with
    | true => rw [hb] at hx; cases hx; rw [Nat.eq_of_beq_eq_true hb]; exact h.1
    | false => rw [hb] at hx; exact allW_get l h.2 t x hx
theorem allBW_get {H : Nat → Option ABlk} : ∀ (l : List (Nat × ABlk)), allBW H l → ∀ k B, findB l k = some B → ∃ B0, H k = some B0 ∧ BLe B0 B
  | [], _, _, _, h => by cases h
  | (k, x) :: l, h, t, B, hB => by
    simp only [findB] at hB
    cases hb : Nat.beq t k with
    | true => rw [hb] at hB; cases hB; rw [Nat.eq_of_beq_eq_true hb]; exact h.1
    | false => rw [hb] at hB; exact allBW_get l h.2 t B hB

theorem leW_mk {n nx : Nat} {E : Nat → SV} {H : Nat → Option ABlk} {fs bs : List Nat} {l : List (Nat × SV)} {hp : List (Nat × ABlk)} (hE : allW E l) (hH : allBW H hp) : LeW ⟨n, E, H, nx⟩ ⟨n, envX E fs l, heapX H bs hp, nx⟩ := by
  refine ⟨rfl, fun t => ?_, fun k B hk => ?_, rfl⟩
  · show SLe (E t) (envX E fs l t)
    unfold envX
    cases h : findE l t with
    | some x => exact allW_get l hE t x h
    | none =>
      cases hm : memN fs t with
      | true => exact fun _ _ _ _ h => h
      | false => exact fun _ _ _ _ _ => trivial
  · have hk : heapX H bs hp k = some B := hk
    show ∃ B0, H k = some B0 ∧ BLe B0 B
    unfold heapX at hk
    cases h : findB hp k with
    | some x =>
      rw [h] at hk
      obtain rfl : x = B := Option.some.inj hk
      exact allBW_get hp hH k x h
    | none =>
      rw [h] at hk
      cases hm : memN bs k with
      | true => rw [hm] at hk; exact ⟨B, hk, fun _ _ _ _ h => h⟩
      | false => rw [hm] at hk; cases hk

/-- A loop: at its head the slots of the list (by what counts the rounds), those of fs as they were ahead of it; the blocks likewise. -/
theorem AW_loopX {c : Code} {n nx : Nat} {E : Nat → SV} {H : Nat → Option ABlk} {ι : Type} (fs bs : List Nat) (l : ι → List (Nat × SV)) (hp : ι → List (Nat × ABlk)) (m : ι → Nat) (i : ι) (hE : allW E (l i)) (hH : allBW H (hp i))
    (round : ∀ j, AW K P c (loopQR K (fun j => ⟨n, envX E fs (l j), heapX H bs (hp j), nx⟩) m j Q) ⟨n, envX E fs (l j), heapX H bs (hp j), nx⟩) : AW K P (.loop c) Q ⟨n, E, H, nx⟩ := by
  intro C μ a w hR
  refine wpIn_loop_ghost (fun q a w => ∃ C1, C.Le C1 ∧ ∃ j μ, m j = q ∧ Rel C1 μ ⟨n, envX E fs (l j), heapX H bs (hp j), nx⟩ a w) (m i) ⟨C, .refl C, i, μ, rfl, (leW_mk hE hH).rel hR⟩ ?_
  rintro q a' w' ⟨C1, hC, j, μ', rfl, hR'⟩
  refine wpIn_ro hC.ro (wpIn_mono (round j C1 μ' a' w' hR') ?_)
  rintro e a2 w2 ⟨C2, hC2, μ2, S2, hR2, hq⟩
  cases e with
  | normal =>
    obtain ⟨j', L', hle, hlt⟩ := hq
    exact ⟨m j', hlt, C2, hC.trans hC2, j', _, rfl, hle.rel hR2⟩
  | _ => exact ⟨C2, hC.trans hC2, μ2, S2, hR2, hq⟩

/-- The end of a round: L tells which block stands for each of the head's now. -/
theorem loopX_next {n nx nx0 : Nat} {E' E : Nat → SV} {H' H : Nat → Option ABlk} {fs bs : List Nat} {ι : Type} {l : ι → List (Nat × SV)} {hp : ι → List (Nat × ABlk)} {m : ι → Nat} {i : ι} (j : ι) (L : List Nat) (hL : L.length = nx0) (hnd : (nodupB L && ltB L nx && keptB L K) = true)
    (hE : allLe (rho L nx) E' (l j)) (hF : allF (rho L nx) E' E fs) (hH : allBLe (rho L nx) nx0 H' (hp j)) (hB : allG (rho L nx) nx0 H' H bs) (hm : m j < m i) :
    loopQR K (fun j => ⟨n, envX E fs (l j), heapX H bs (hp j), nx0⟩) m i Q .normal ⟨n, E', H', nx⟩ :=
  ⟨j, L, leX_mk L hL hnd hE hF hH hB, hm⟩

/-- A piece of code by what it changes. -/
theorem AW_viaX {c : Code} {n nx : Nat} {E : Nat → SV} {H : Nat → Option ABlk} {ι : Type} (fs bs : List Nat) (l : ι → List (Nat × SV)) (hp : ι → List (Nat × ABlk)) (hq : ∀ j, Q .normal ⟨n, envX E fs (l j), heapX H bs (hp j), nx⟩) (h : AW K P c (joinQ K (fun j => ⟨n, envX E fs (l j), heapX H bs (hp j), nx⟩) Q) ⟨n, E, H, nx⟩) : AW K P c Q ⟨n, E, H, nx⟩ :=
  AW_via _ hq h
theorem joinX_end {n nx nx0 : Nat} {E' E : Nat → SV} {H' H : Nat → Option ABlk} {fs bs : List Nat} {ι : Type} {l : ι → List (Nat × SV)} {hp : ι → List (Nat × ABlk)} (j : ι) (L : List Nat) (hL : L.length = nx0) (hnd : (nodupB L && ltB L nx && keptB L K) = true)
    (hE : allLe (rho L nx) E' (l j)) (hF : allF (rho L nx) E' E fs) (hH : allBLe (rho L nx) nx0 H' (hp j)) (hB : allG (rho L nx) nx0 H' H bs) :
    ∃ j L, LeR K L ⟨n, E', H', nx⟩ ⟨n, envX E fs (l j), heapX H bs (hp j), nx0⟩ :=
  ⟨j, L, leX_mk L hL hnd hE hF hH hB⟩
/-- The state told anew: some slots and blocks in other words, the others of the numbers as they were. -/
theorem AW_tellX {c : Code} {n nx : Nat} {E : Nat → SV} {H : Nat → Option ABlk} (fs bs : List Nat) (l : List (Nat × SV)) (hp : List (Nat × ABlk)) (hE : allW E l) (hH : allBW H hp) (h : AW K P c Q ⟨n, envX E fs l, heapX H bs hp, nx⟩) : AW K P c Q ⟨n, E, H, nx⟩ :=
  fun C μ a w hR => h C μ a w ((leW_mk hE hH).rel hR)
/-- A block in other words. -/
theorem AW_blk (b : Nat) {c : Code} {n nx : Nat} {E : Nat → SV} {H : Nat → Option ABlk} {B0 B : ABlk} (hb : H b = some B0) (hB : BLe B0 B) (h : AW K P c Q ⟨n, E, updH H [(b, some B)], nx⟩) : AW K P c Q ⟨n, E, H, nx⟩ := by
  intro C μ a w hR
  refine h C μ a w ((LeW.mk rfl (fun t _ _ _ _ h => h) (fun k B' hk => ?_) rfl : LeW ⟨n, E, H, nx⟩ ⟨n, E, updH H [(b, some B)], nx⟩).rel hR)
  have hk : updH H [(b, some B)] k = some B' := hk
  rw [updH_one] at hk
  split at hk
  · rename_i e
    cases hk
    subst e
    exact ⟨B0, hb, hB⟩
  · exact ⟨B', hk, fun _ _ _ _ h => h⟩
end
end Go.Proofs.YtmpddomgiplnmaaDoor.Abs

/-
  TYPED DATA: how a Lean type stands in cells, how it is read off; contracts told over typed data as entries of tables.
-/
namespace Go.Proofs.YtmpddomgiplnmaaDoor.Abs
open Go

/-- The same, but not to be reckoned. -/
noncomputable def lock {α : Type} (x : α) : α := Classical.choose (⟨x, rfl⟩ : ∃ y, y = x)
theorem lock_eq {α : Type} (x : α) : lock x = x := Classical.choose_spec (⟨x, rfl⟩ : ∃ y, y = x)

/-- A slice: how many, and each. -/
structure Sl (α : Type) where
  n : Nat
  at_ : Nat → α

/-- How a type stands in k cells (f), how it is read off any (g), which cells are one (ok). -/
structure Enc (α : Type) where
  k : Nat
  f : α → Nat → IV
  g : (Nat → IV) → α
  ok : (Nat → IV) → Prop
  lit : ∀ x, ok (f x)
  le : ∀ c, ok c → ∀ j, j < k → ILe (c j) (f (g c) j)

def ivN : IV → Nat
  | .sl _ n _ _ => n
  | _ => 0
def ivC : IV → Nat → Nat → IV
  | .sl _ _ _ c => c
  | _ => fun _ _ => ivDef
/-- A slice in a cell. -/
def slI {α : Type} (e : Enc α) (s : Sl α) : IV := .sl e.k s.n false fun i j => e.f (s.at_ i) j
def slG {α : Type} (e : Enc α) (x : IV) : Sl α := ⟨ivN x, fun i => e.g (ivC x i)⟩
def slOk {α : Type} (e : Enc α) : IV → Prop
  | .sl k n _ c => n = 0 ∨ (k = e.k ∧ ∀ i, i < n → e.ok (c i))
  | _ => False
theorem slOk_lit {α : Type} {e : Enc α} {s : Sl α} : slOk e (slI e s) := .inr ⟨rfl, fun _ _ => e.lit _⟩
theorem slOk_f {α : Type} {e : Enc α} {n : Nat} {ex : Bool} {f : Nat → α} : slOk e (.sl e.k n ex fun i j => e.f (f i) j) := .inr ⟨rfl, fun _ _ => e.lit _⟩
theorem slOk_nil {α : Type} {e : Enc α} {k : Nat} {ex : Bool} {c : Nat → Nat → IV} : slOk e (.sl k 0 ex c) := .inl rfl
theorem slI_le {α : Type} {e : Enc α} : ∀ {x : IV}, slOk e x → ILe x (slI e (slG e x))
  | .sl k n ex c, h => ILe.sl rfl (by simp) (by
    rcases h with h | ⟨rfl, h⟩
    · exact .inl h
    · exact .inr ⟨rfl, fun i j hi hj => e.le (c i) (h i hi) j hj⟩)

/-- Integers, truth values, strings in a cell. -/
def encInt (k : IntKind) : Enc Int := ⟨1, fun x _ => .val (.int k x), fun c => ivInt (c 0), fun c => c 0 = .val (.int k (ivInt (c 0))), fun _ => rfl, fun c h j hj => by
  obtain rfl : j = 0 := by omega
  exact ILe.of_eq h⟩
def encBool : Enc Bool := ⟨1, fun x _ => .val (.bool x), fun c => ivBool (c 0), fun c => c 0 = .val (.bool (ivBool (c 0))), fun _ => rfl, fun c h j hj => by
  obtain rfl : j = 0 := by omega
  exact ILe.of_eq h⟩
def encStr : Enc ByteArray := ⟨1, fun x _ => .val (.string x), fun c => ivStr (c 0), fun c => c 0 = .val (.string (ivStr (c 0))), fun _ => rfl, fun c h j hj => by
  obtain rfl : j = 0 := by omega
  exact ILe.of_eq h⟩
/-- Cells by a list. -/
def lI (l : List IV) : Nat → IV := fun j => l.getD j ivDef

/-- How a type stands as an argument or an answer, how it is read off one. -/
structure Cod (α : Type) where
  enc : α → CV
  dec : CV → Option (α × Prop)
  le : ∀ c x p, dec c = some (x, p) → p → CLe c (enc x)

def getIV : AV → IV
  | .imm x => x
  | _ => ivDef
def isImm : AV → Bool
  | .imm _ => true
  | _ => false

theorem imm_get {x : AV} (h : isImm x = true) : x = .imm (getIV x) := by
  cases x <;> first | rfl | cases h

def codI (k : IntKind) : Cod Int := ⟨fun x => .one (.imm (.val (.int k x))), fun c => match c with
    | .one (.imm (.val (.int k' n))) => bif kindEq k k' then some (n, True) else none
    | _ => none, fun c x p h _ => by
  split at h
  · rename_i k' n
    cases hb : kindEq k k' with
    | false => rw [hb] at h; cases h
    | true =>
      rw [hb] at h
      simp only [cond_true, Option.some.injEq, Prod.mk.injEq] at h
      obtain ⟨rfl, _⟩ := h
      have : k = k' := by cases k <;> cases k' <;> first | rfl | cases hb
      subst this
      exact CLe.refl _
  · cases h⟩
def codB : Cod Bool := ⟨fun x => .one (.imm (.val (.bool x))), fun c => match c with
    | .one (.imm (.val (.bool b))) => some (b, True)
    | _ => none, fun c x p h _ => by
  split at h
  · simp only [Option.some.injEq, Prod.mk.injEq] at h
    obtain ⟨rfl, _⟩ := h
    exact CLe.refl _
  · cases h⟩
def codStr : Cod ByteArray := ⟨fun x => .one (.imm (.val (.string x))), fun c => match c with
    | .one (.imm (.val (.string b))) => some (b, True)
    | _ => none, fun c x p h _ => by
  split at h
  · simp only [Option.some.injEq, Prod.mk.injEq] at h
    obtain ⟨rfl, _⟩ := h
    exact CLe.refl _
  · cases h⟩
/-- A slice. -/
def codSl {α : Type} (e : Enc α) : Cod (Sl α) := ⟨fun s => .one (.imm (slI e s)), fun c => match c with
    | .one (.imm (.sl k n ex cell)) => some (slG e (.sl k n ex cell), slOk e (.sl k n ex cell))
    | _ => none, fun c x p h hp => by
  split at h
  · simp only [Option.some.injEq, Prod.mk.injEq] at h
    obtain ⟨rfl, rfl⟩ := h
    exact CLe.imm (slI_le hp)
  · cases h⟩

def agL {α : Type} (e : Enc α) (x : α) : List AV := (List.range e.k).map fun j => .imm (e.f x j)
theorem agL_le {α : Type} {e : Enc α} {l : List AV} (hl : l.length = e.k) (hi : l.all isImm = true) (h : e.ok fun j => getIV (l.getD j avDef)) : CLe (.agg l) (.agg (agL e (e.g fun j => getIV (l.getD j avDef)))) := by
  rintro w O μ v ⟨cs, hv, hr⟩
  refine ⟨cs, hv, by rw [hr.1, hl, agL]; simp, fun i x u hx hu => ?_⟩
  simp only [agL, List.getElem?_map, Option.map_eq_some_iff] at hx
  obtain ⟨j, hj, rfl⟩ := hx
  have hik : i < e.k := by
    have := (List.getElem?_eq_some_iff.1 hj).1
    simpa using this
  have hji : j = i := by
    rw [List.getElem?_range hik] at hj
    exact (Option.some.inj hj).symm
  subst hji
  have hjl : j < l.length := by omega
  have h1 := hr.2 j l[j] u (List.getElem?_eq_getElem hjl) hu
  have h2 : l[j] = .imm (getIV l[j]) := imm_get (List.all_eq_true.1 hi _ (List.getElem_mem hjl))
  rw [h2] at h1
  refine e.le _ h j hik _ _ _ ?_
  have h3 : l.getD j avDef = l[j] := by simp [List.getD, List.getElem?_eq_getElem hjl]
  show IRel w O (getIV (l.getD j avDef)) u
  rw [h3]
  exact h1

/-- A struct. -/
def codAg {α : Type} (e : Enc α) : Cod α := ⟨fun x => .agg (agL e x), fun c => match c with
    | .agg l => bif lenIs l e.k && l.all isImm then some (e.g fun j => getIV (l.getD j avDef), e.ok fun j => getIV (l.getD j avDef)) else none
    | _ => none, fun c x p h hp => by
  split at h
  · rename_i l
    cases hb : (lenIs l e.k && l.all isImm) with
    | false => rw [hb] at h; cases h
    | true =>
      rw [hb] at h
      simp only [cond_true, Option.some.injEq, Prod.mk.injEq] at h
      obtain ⟨rfl, rfl⟩ := h
      rw [Bool.and_eq_true] at hb
      exact agL_le (lenIs_eq _ _ hb.1) hb.2 hp
  · cases h⟩
/-- A pointer to cells that stay. -/
def codPtr {α : Type} (e : Enc α) : Cod α := ⟨fun x => .one (.vptr e.k (e.f x)), fun c => match c with
    | .one (.vptr n cell) => bif Nat.ble e.k n then some (e.g cell, e.ok cell) else none
    | _ => none, fun c x p h hp => by
  split at h
  · rename_i n cell
    cases hb : Nat.ble e.k n with
    | false => rw [hb] at h; cases h
    | true =>
      rw [hb] at h
      simp only [cond_true, Option.some.injEq, Prod.mk.injEq] at h
      obtain ⟨rfl, rfl⟩ := h
      have hle : e.k ≤ n := Nat.le_of_ble_eq_true hb
      rintro w O μ v ⟨b, o, hv, h1, h2, h3⟩
      refine ⟨b, o, hv, h1, h2, fun j hj => ?_⟩
      obtain ⟨u, hu, hr⟩ := h3 j (by omega)
      exact ⟨u, hu, e.le _ hp j hj _ _ _ hr⟩
  · cases h⟩

section
variable {P : Program} {α β γ δ ε : Type}

def tabC0 (F : FuncId) (r : SV) (q : Prop) (t : Tab) : Tab := tabAdd F (fun args => match args with
  | [] => some (r, q)
  | _ => none) t
theorem tabC0_ok {F : FuncId} {r : SV} {q : Prop} {t : Tab} (hf : CallOk P F) (h : q → PCall P F [] r) (ht : TabOk P t) : TabOk P (tabC0 F r q t) := by
  refine tabAdd_ok hf (fun args r p hc hp => ?_) ht
  split at hc
  · simp only [Option.some.injEq, Prod.mk.injEq] at hc; obtain ⟨rfl, rfl⟩ := hc
    exact h hp
  · cases hc
def tabC1 (F : FuncId) (A : Cod α) (r : α → SV) (q : α → Prop) (t : Tab) : Tab := tabAdd F (fun args => match args with
  | [a] => match A.dec a with
    | some (x, p) => some (r x, p ∧ q x)
    | none => none
  | _ => none) t
theorem tabC1_ok {F : FuncId} {A : Cod α} {r : α → SV} {q : α → Prop} {t : Tab} (hf : CallOk P F) (h : ∀ x, q x → PCall P F [A.enc x] (r x)) (ht : TabOk P t) : TabOk P (tabC1 F A r q t) := by
  refine tabAdd_ok hf (fun args r p hc hp => ?_) ht
  split at hc
  · split at hc
    · rename_i h1
      simp only [Option.some.injEq, Prod.mk.injEq] at hc; obtain ⟨rfl, rfl⟩ := hc
      exact (h _ hp.2).args (TLe.cons (A.le _ _ _ h1 hp.1) TLe.nil)
    · cases hc
  · cases hc
def tabC2 (F : FuncId) (A : Cod α) (B : Cod β) (r : α → β → SV) (q : α → β → Prop) (t : Tab) : Tab := tabAdd F (fun args => match args with
  | [a, b] => match A.dec a, B.dec b with
    | some (x, p), some (y, p') => some (r x y, p ∧ (p' ∧ q x y))
    | _, _ => none
  | _ => none) t
theorem tabC2_ok {F : FuncId} {A : Cod α} {B : Cod β} {r : α → β → SV} {q : α → β → Prop} {t : Tab} (hf : CallOk P F) (h : ∀ x y, q x y → PCall P F [A.enc x, B.enc y] (r x y)) (ht : TabOk P t) : TabOk P (tabC2 F A B r q t) := by
  refine tabAdd_ok hf (fun args r p hc hp => ?_) ht
  split at hc
  · split at hc
    · rename_i h1 h2
      simp only [Option.some.injEq, Prod.mk.injEq] at hc; obtain ⟨rfl, rfl⟩ := hc
      exact (h _ _ hp.2.2).args (TLe.cons (A.le _ _ _ h1 hp.1) (TLe.cons (B.le _ _ _ h2 hp.2.1) TLe.nil))
    · cases hc
  · cases hc
def tabC3 (F : FuncId) (A : Cod α) (B : Cod β) (C : Cod γ) (r : α → β → γ → SV) (q : α → β → γ → Prop) (t : Tab) : Tab := tabAdd F (fun args => match args with
  | [a, b, c] => match A.dec a, B.dec b, C.dec c with
    | some (x, p), some (y, p'), some (z, p2) => some (r x y z, p ∧ (p' ∧ (p2 ∧ q x y z)))
    | _, _, _ => none
  | _ => none) t
theorem tabC3_ok {F : FuncId} {A : Cod α} {B : Cod β} {C : Cod γ} {r : α → β → γ → SV} {q : α → β → γ → Prop} {t : Tab} (hf : CallOk P F) (h : ∀ x y z, q x y z → PCall P F [A.enc x, B.enc y, C.enc z] (r x y z)) (ht : TabOk P t) : TabOk P (tabC3 F A B C r q t) := by
  refine tabAdd_ok hf (fun args r p hc hp => ?_) ht
  split at hc
  · split at hc
    · rename_i h1 h2 h3
      simp only [Option.some.injEq, Prod.mk.injEq] at hc; obtain ⟨rfl, rfl⟩ := hc
      exact (h _ _ _ hp.2.2.2).args (TLe.cons (A.le _ _ _ h1 hp.1) (TLe.cons (B.le _ _ _ h2 hp.2.1) (TLe.cons (C.le _ _ _ h3 hp.2.2.1) TLe.nil)))
    · cases hc
  · cases hc
def tabC4 (F : FuncId) (A : Cod α) (B : Cod β) (C : Cod γ) (D : Cod δ) (r : α → β → γ → δ → SV) (q : α → β → γ → δ → Prop) (t : Tab) : Tab := tabAdd F (fun args => match args with
  | [a, b, c, d] => match A.dec a, B.dec b, C.dec c, D.dec d with
    | some (x, p), some (y, p'), some (z, p2), some (u, p3) => some (r x y z u, p ∧ (p' ∧ (p2 ∧ (p3 ∧ q x y z u))))
    | _, _, _, _ => none
  | _ => none) t
theorem tabC4_ok {F : FuncId} {A : Cod α} {B : Cod β} {C : Cod γ} {D : Cod δ} {r : α → β → γ → δ → SV} {q : α → β → γ → δ → Prop} {t : Tab} (hf : CallOk P F) (h : ∀ x y z u, q x y z u → PCall P F [A.enc x, B.enc y, C.enc z, D.enc u] (r x y z u)) (ht : TabOk P t) : TabOk P (tabC4 F A B C D r q t) := by
  refine tabAdd_ok hf (fun args r p hc hp => ?_) ht
  split at hc
  · split at hc
    · rename_i h1 h2 h3 h4
      simp only [Option.some.injEq, Prod.mk.injEq] at hc; obtain ⟨rfl, rfl⟩ := hc
      exact (h _ _ _ _ hp.2.2.2.2).args (TLe.cons (A.le _ _ _ h1 hp.1) (TLe.cons (B.le _ _ _ h2 hp.2.1) (TLe.cons (C.le _ _ _ h3 hp.2.2.1) (TLe.cons (D.le _ _ _ h4 hp.2.2.2.1) TLe.nil))))
    · cases hc
  · cases hc
def tabC5 (F : FuncId) (A : Cod α) (B : Cod β) (C : Cod γ) (D : Cod δ) (E : Cod ε) (r : α → β → γ → δ → ε → SV) (q : α → β → γ → δ → ε → Prop) (t : Tab) : Tab := tabAdd F (fun args => match args with
  | [a, b, c, d, e] => match A.dec a, B.dec b, C.dec c, D.dec d, E.dec e with
    | some (x, p), some (y, p'), some (z, p2), some (u, p3), some (v, p4) => some (r x y z u v, p ∧ (p' ∧ (p2 ∧ (p3 ∧ (p4 ∧ q x y z u v)))))
    | _, _, _, _, _ => none
  | _ => none) t
theorem tabC5_ok {F : FuncId} {A : Cod α} {B : Cod β} {C : Cod γ} {D : Cod δ} {E : Cod ε} {r : α → β → γ → δ → ε → SV} {q : α → β → γ → δ → ε → Prop} {t : Tab} (hf : CallOk P F) (h : ∀ x y z u v, q x y z u v → PCall P F [A.enc x, B.enc y, C.enc z, D.enc u, E.enc v] (r x y z u v)) (ht : TabOk P t) : TabOk P (tabC5 F A B C D E r q t) := by
  refine tabAdd_ok hf (fun args r p hc hp => ?_) ht
  split at hc
  · split at hc
    · rename_i h1 h2 h3 h4 h5
      simp only [Option.some.injEq, Prod.mk.injEq] at hc; obtain ⟨rfl, rfl⟩ := hc
      exact (h _ _ _ _ _ hp.2.2.2.2.2).args (TLe.cons (A.le _ _ _ h1 hp.1) (TLe.cons (B.le _ _ _ h2 hp.2.1) (TLe.cons (C.le _ _ _ h3 hp.2.2.1) (TLe.cons (D.le _ _ _ h4 hp.2.2.2.1) (TLe.cons (E.le _ _ _ h5 hp.2.2.2.2.1) TLe.nil)))))
    · cases hc
  · cases hc
end
/-- A call whose function is told by a number that is no literal. -/
theorem imm_clos1 (f nc : Nat) (first caps : Nat → AV) {c : CV} (hc : immCV c = true) (h : immAV (.fn (.func f) 0 first nc caps) = true) : (fnList 0 first ++ ([c] ++ fnList nc caps)).all immCV = true := by
  simp only [immAV, Bool.and_eq_true, List.all_eq_true, List.mem_range] at h
  simp only [fnList, List.range_zero, List.map_nil, List.nil_append, List.singleton_append, List.all_cons, List.all_map, Bool.and_eq_true, List.all_eq_true, List.mem_range, Function.comp_apply]
  exact ⟨hc, h.2⟩
theorem AL_pcallv {K : Nat} {P : Program} {Q : Exit → St → Prop} {ops : Array Oper} {o : Oper} {rest : List Oper} {n nx : Nat} {E : Nat → SV} {H : Nat → Option ABlk} {c : Call} {f : FuncId} {cvs : List CV} {q : Prop} {r : SV} (hg : o.guard = none) (ho : o.op = .call c) (hc : callOf E c = some (f, cvs, q)) (hq : q) (hok : CallOk P f)
    (hi : cvs.all immCV = true) (hcall : PCall P f cvs r) (hr : immSV r = true) (hd : dstOk o.dst n = true) (h : AL K P ops rest Q ⟨n, putE E o.dst r, H, nx⟩) : AL K P ops (o :: rest) Q ⟨n, E, H, nx⟩ := by
  intro C μ a w hR
  obtain ⟨vals, hA0, hrun⟩ := callOf_sound hR.env hc hq hok ho
  have hA := immT_rel (μ' := noneμ) hi hA0
  unfold wpL
  rw [if_pos (by simp [Region.wanted, hg])]
  unfold Oper.wp
  rw [hrun]
  refine (hcall _ w _ (own_lt hR) hR.gok hA).mono ?_
  rintro e w' ⟨v, rfl, hext, hs⟩
  obtain ⟨hR', hs'⟩ := pcall_step hR hext hs hr
  exact h C μ _ w' (hR'.put hs' hd)

theorem imm_ren {x : SV} {ρ : Nat → Nat} (h : immSV x = true) : SLe x (renS ρ x) := fun _ _ _ v hx => (renS_rel x v).2 (immS_rel h hx)

theorem plusN_0 (x : Nat) : plusN 0 x = x := rfl
theorem andt {a b : Bool} (h1 : a = true) (h2 : b = true) : (a && b) = true := by rw [h1, h2]; rfl
theorem eqf {b : Bool} (h : b = false) : (b == false) = true := by rw [h]; rfl
theorem eqt {b : Bool} (h : b = true) : (b == true) = true := by rw [h]; rfl
theorem bytes_ok {n b : Nat} (hn : n ≤ 65536) (hb : b ≤ 1048576) : n * b ≤ 140737488355328 := Nat.le_trans (Nat.mul_le_mul hn hb) (by decide)
theorem bytes_okI {n : Int} {b : Nat} (hn : n ≤ 65536) (h0 : 0 ≤ n) (hb : b ≤ 1048576) : (b : Int) * n ≤ 281474976710656 := by
  obtain ⟨k, rfl⟩ : ∃ k : Nat, n = k := ⟨n.toNat, by omega⟩
  have := bytes_ok (n := k) (b := b) (by omega) hb
  rw [Nat.mul_comm] at this
  have h2 : ((b * k : Nat) : Int) ≤ ((140737488355328 : Nat) : Int) := Int.ofNat_le.2 this
  rw [Int.natCast_mul] at h2
  omega

/-! Function values as arguments. -/
structure CodA (α : Type) where
  enc : α → AV
  dec : AV → Option (α × Prop)
  le : ∀ c x p, dec c = some (x, p) → p → CLe (.one c) (.one (enc x))
def ptrA {α : Type} (e : Enc α) : CodA α := ⟨fun x => .vptr e.k (e.f x), fun c => (codPtr e).dec (.one c), fun c x p h hp => (codPtr e).le (.one c) x p h hp⟩
def oneA {α : Type} (e : Enc α) (x : α) : CV := .one (.imm (e.f x 0))
def aggA {α : Type} (e : Enc α) (x : α) : CV := .agg (agL e x)

theorem CLe.fn {f nf nc : Nat} {first first' caps caps' : Nat → AV} (h1 : ∀ i, i < nf → CLe (.one (first i)) (.one (first' i))) (h2 : ∀ i, i < nc → CLe (.one (caps i)) (.one (caps' i))) : CLe (.one (.fn (.func f) nf first nc caps)) (.one (.fn (.func f) nf first' nc caps')) := by
  rintro w O μ v ⟨fs, cs, hv, l1, l2, r1, r2⟩
  exact ⟨fs, cs, hv, l1, l2, fun i u hu => h1 i (by rw [← l1]; exact (List.getElem?_eq_some_iff.1 hu).1) w O μ u (r1 i u hu), fun i u hu => h2 i (by rw [← l2]; exact (List.getElem?_eq_some_iff.1 hu).1) w O μ u (r2 i u hu)⟩
/-- A function, with what it captured. -/
def fnV (g : FuncId) (l : List AV) : AV := .fn (.func g) 0 (fun _ => avDef) l.length fun i => l.getD i avDef

section
variable {P : Program} {α β γ δ : Type}
/-- On a value and a function that captured nothing. -/
def tabF0 (F G : FuncId) (A : Cod α) (r : α → SV) (q : α → Prop) (t : Tab) : Tab := tabAdd F (fun args => match args with
  | [a, .one (.fn (.func g) 0 _ 0 _)] => bif Nat.beq g G then match A.dec a with
    | some (x, p) => some (r x, p ∧ q x)
    | none => none
    else t F args
  | _ => t F args) t
theorem tabF0_ok {F G : FuncId} {A : Cod α} {r : α → SV} {q : α → Prop} {t : Tab} (hf : CallOk P F) (h : ∀ x, q x → PCall P F [A.enc x, .one (fnV G [])] (r x)) (ht : TabOk P t) : TabOk P (tabF0 F G A r q t) := by
  refine tabAdd_ok hf (fun args r p hc hp => ?_) ht
  split at hc
  · rename_i a g first caps
    cases hb : Nat.beq g G with
    | true =>
      rw [hb] at hc
      simp only [cond_true] at hc
      obtain rfl := Nat.eq_of_beq_eq_true hb
      split at hc
      · rename_i h1
        simp only [Option.some.injEq, Prod.mk.injEq] at hc; obtain ⟨rfl, rfl⟩ := hc
        exact (h _ hp.2).args (TLe.cons (A.le _ _ _ h1 hp.1) (TLe.cons (CLe.fn (fun i hi => absurd hi (Nat.not_lt_zero i)) (fun i hi => absurd hi (Nat.not_lt_zero i))) TLe.nil))
      · cases hc
    | false => rw [hb] at hc; exact (ht _ _ _ _ hc hp).2
  · exact (ht _ _ _ _ hc hp).2
/-- On a value and a function that captured one thing. -/
def tabF1 (F G : FuncId) (A : Cod α) (C : CodA γ) (r : α → γ → SV) (q : α → γ → Prop) (t : Tab) : Tab := tabAdd F (fun args => match args with
  | [a, .one (.fn (.func g) 0 _ 1 caps)] => bif Nat.beq g G then match A.dec a, C.dec (caps 0) with
    | some (x, p), some (z, p2) => some (r x z, p ∧ (p2 ∧ q x z))
    | _, _ => none
    else t F args
  | _ => t F args) t
theorem tabF1_ok {F G : FuncId} {A : Cod α} {C : CodA γ} {r : α → γ → SV} {q : α → γ → Prop} {t : Tab} (hf : CallOk P F) (h : ∀ x z, q x z → PCall P F [A.enc x, .one (fnV G [C.enc z])] (r x z)) (ht : TabOk P t) : TabOk P (tabF1 F G A C r q t) := by
  refine tabAdd_ok hf (fun args r p hc hp => ?_) ht
  split at hc
  · rename_i a g first caps
    cases hb : Nat.beq g G with
    | true =>
      rw [hb] at hc
      simp only [cond_true] at hc
      obtain rfl := Nat.eq_of_beq_eq_true hb
      split at hc
      · rename_i h1 h2
        simp only [Option.some.injEq, Prod.mk.injEq] at hc; obtain ⟨rfl, rfl⟩ := hc
        refine (h _ _ hp.2.2).args (TLe.cons (A.le _ _ _ h1 hp.1) (TLe.cons (CLe.fn (fun i hi => absurd hi (Nat.not_lt_zero i)) (fun i hi => ?_)) TLe.nil))
        obtain rfl : i = 0 := by omega
        exact C.le _ _ _ h2 hp.2.1
      · cases hc
    | false => rw [hb] at hc; exact (ht _ _ _ _ hc hp).2
  · exact (ht _ _ _ _ hc hp).2
/-- On a value and a function that captured two things. -/
def tabF2 (F G : FuncId) (A : Cod α) (C : CodA γ) (D : CodA δ) (r : α → γ → δ → SV) (q : α → γ → δ → Prop) (t : Tab) : Tab := tabAdd F (fun args => match args with
  | [a, .one (.fn (.func g) 0 _ 2 caps)] => bif Nat.beq g G then match A.dec a, C.dec (caps 0), D.dec (caps 1) with
    | some (x, p), some (z, p2), some (u, p3) => some (r x z u, p ∧ (p2 ∧ (p3 ∧ q x z u)))
    | _, _, _ => none
    else t F args
  | _ => t F args) t
theorem tabF2_ok {F G : FuncId} {A : Cod α} {C : CodA γ} {D : CodA δ} {r : α → γ → δ → SV} {q : α → γ → δ → Prop} {t : Tab} (hf : CallOk P F) (h : ∀ x z u, q x z u → PCall P F [A.enc x, .one (fnV G [C.enc z, D.enc u])] (r x z u)) (ht : TabOk P t) : TabOk P (tabF2 F G A C D r q t) := by
  refine tabAdd_ok hf (fun args r p hc hp => ?_) ht
  split at hc
  · rename_i a g first caps
    cases hb : Nat.beq g G with
    | true =>
      rw [hb] at hc
      simp only [cond_true] at hc
      obtain rfl := Nat.eq_of_beq_eq_true hb
      split at hc
      · rename_i h1 h2 h3
        simp only [Option.some.injEq, Prod.mk.injEq] at hc; obtain ⟨rfl, rfl⟩ := hc
        refine (h _ _ _ hp.2.2.2).args (TLe.cons (A.le _ _ _ h1 hp.1) (TLe.cons (CLe.fn (fun i hi => absurd hi (Nat.not_lt_zero i)) (fun i hi => ?_)) TLe.nil))
        match i, hi with
        | 0, _ => exact C.le _ _ _ h2 hp.2.1
        | 1, _ => exact D.le _ _ _ h3 hp.2.2.1
      · cases hc
    | false => rw [hb] at hc; exact (ht _ _ _ _ hc hp).2
  · exact (ht _ _ _ _ hc hp).2
/-- On two values and a function that captured nothing. -/
def tabG0 (F G : FuncId) (A : Cod α) (B : Cod β) (r : α → β → SV) (q : α → β → Prop) (t : Tab) : Tab := tabAdd F (fun args => match args with
  | [a, b, .one (.fn (.func g) 0 _ 0 _)] => bif Nat.beq g G then match A.dec a, B.dec b with
    | some (x, p), some (y, p1) => some (r x y, p ∧ (p1 ∧ q x y))
    | _, _ => none
    else t F args
  | _ => t F args) t
theorem tabG0_ok {F G : FuncId} {A : Cod α} {B : Cod β} {r : α → β → SV} {q : α → β → Prop} {t : Tab} (hf : CallOk P F) (h : ∀ x y, q x y → PCall P F [A.enc x, B.enc y, .one (fnV G [])] (r x y)) (ht : TabOk P t) : TabOk P (tabG0 F G A B r q t) := by
  refine tabAdd_ok hf (fun args r p hc hp => ?_) ht
  split at hc
  · rename_i a b g first caps
    cases hb : Nat.beq g G with
    | true =>
      rw [hb] at hc
      simp only [cond_true] at hc
      obtain rfl := Nat.eq_of_beq_eq_true hb
      split at hc
      · rename_i h1 h2
        simp only [Option.some.injEq, Prod.mk.injEq] at hc; obtain ⟨rfl, rfl⟩ := hc
        exact (h _ _ hp.2.2).args (TLe.cons (A.le _ _ _ h1 hp.1) (TLe.cons (B.le _ _ _ h2 hp.2.1) (TLe.cons (CLe.fn (fun i hi => absurd hi (Nat.not_lt_zero i)) (fun i hi => absurd hi (Nat.not_lt_zero i))) TLe.nil)))
      · cases hc
    | false => rw [hb] at hc; exact (ht _ _ _ _ hc hp).2
  · exact (ht _ _ _ _ hc hp).2
/-- On two values and a function that captured one thing. -/
def tabG1 (F G : FuncId) (A : Cod α) (B : Cod β) (C : CodA γ) (r : α → β → γ → SV) (q : α → β → γ → Prop) (t : Tab) : Tab := tabAdd F (fun args => match args with
  | [a, b, .one (.fn (.func g) 0 _ 1 caps)] => bif Nat.beq g G then match A.dec a, B.dec b, C.dec (caps 0) with
    | some (x, p), some (y, p1), some (z, p2) => some (r x y z, p ∧ (p1 ∧ (p2 ∧ q x y z)))
    | _, _, _ => none
    else t F args
  | _ => t F args) t
theorem tabG1_ok {F G : FuncId} {A : Cod α} {B : Cod β} {C : CodA γ} {r : α → β → γ → SV} {q : α → β → γ → Prop} {t : Tab} (hf : CallOk P F) (h : ∀ x y z, q x y z → PCall P F [A.enc x, B.enc y, .one (fnV G [C.enc z])] (r x y z)) (ht : TabOk P t) : TabOk P (tabG1 F G A B C r q t) := by
  refine tabAdd_ok hf (fun args r p hc hp => ?_) ht
  split at hc
  · rename_i a b g first caps
    cases hb : Nat.beq g G with
    | true =>
      rw [hb] at hc
      simp only [cond_true] at hc
      obtain rfl := Nat.eq_of_beq_eq_true hb
      split at hc
      · rename_i h1 h2 h3
        simp only [Option.some.injEq, Prod.mk.injEq] at hc; obtain ⟨rfl, rfl⟩ := hc
        refine (h _ _ _ hp.2.2.2).args (TLe.cons (A.le _ _ _ h1 hp.1) (TLe.cons (B.le _ _ _ h2 hp.2.1) (TLe.cons (CLe.fn (fun i hi => absurd hi (Nat.not_lt_zero i)) (fun i hi => ?_)) TLe.nil)))
        obtain rfl : i = 0 := by omega
        exact C.le _ _ _ h3 hp.2.2.1
      · cases hc
    | false => rw [hb] at hc; exact (ht _ _ _ _ hc hp).2
  · exact (ht _ _ _ _ hc hp).2
/-- On two values and a function that captured two things. -/
def tabG2 (F G : FuncId) (A : Cod α) (B : Cod β) (C : CodA γ) (D : CodA δ) (r : α → β → γ → δ → SV) (q : α → β → γ → δ → Prop) (t : Tab) : Tab := tabAdd F (fun args => match args with
  | [a, b, .one (.fn (.func g) 0 _ 2 caps)] => bif Nat.beq g G then match A.dec a, B.dec b, C.dec (caps 0), D.dec (caps 1) with
    | some (x, p), some (y, p1), some (z, p2), some (u, p3) => some (r x y z u, p ∧ (p1 ∧ (p2 ∧ (p3 ∧ q x y z u))))
    | _, _, _, _ => none
    else t F args
  | _ => t F args) t
theorem tabG2_ok {F G : FuncId} {A : Cod α} {B : Cod β} {C : CodA γ} {D : CodA δ} {r : α → β → γ → δ → SV} {q : α → β → γ → δ → Prop} {t : Tab} (hf : CallOk P F) (h : ∀ x y z u, q x y z u → PCall P F [A.enc x, B.enc y, .one (fnV G [C.enc z, D.enc u])] (r x y z u)) (ht : TabOk P t) : TabOk P (tabG2 F G A B C D r q t) := by
  refine tabAdd_ok hf (fun args r p hc hp => ?_) ht
  split at hc
  · rename_i a b g first caps
    cases hb : Nat.beq g G with
    | true =>
      rw [hb] at hc
      simp only [cond_true] at hc
      obtain rfl := Nat.eq_of_beq_eq_true hb
      split at hc
      · rename_i h1 h2 h3 h4
        simp only [Option.some.injEq, Prod.mk.injEq] at hc; obtain ⟨rfl, rfl⟩ := hc
        refine (h _ _ _ _ hp.2.2.2.2).args (TLe.cons (A.le _ _ _ h1 hp.1) (TLe.cons (B.le _ _ _ h2 hp.2.1) (TLe.cons (CLe.fn (fun i hi => absurd hi (Nat.not_lt_zero i)) (fun i hi => ?_)) TLe.nil)))
        match i, hi with
        | 0, _ => exact C.le _ _ _ h3 hp.2.2.1
        | 1, _ => exact D.le _ _ _ h4 hp.2.2.2.1
      · cases hc
    | false => rw [hb] at hc; exact (ht _ _ _ _ hc hp).2
  · exact (ht _ _ _ _ hc hp).2
end
end Go.Proofs.YtmpddomgiplnmaaDoor.Abs

/-
  ROWS OF INTEGERS; the first place that is so; small facts of numbers.
-/
namespace Go.Proofs.YtmpddomgiplnmaaDoor.Abs
open Go
set_option maxRecDepth 10000

def u64 (n : Int) : CV := .one (.imm (.val (.int .u64 n)))
def intsAt (cell : Nat → Nat → IV) (i : Nat) : Int := ivInt (cell i 0)
def iS (n : Nat) (ex : Bool) (g : Nat → Int) : AV := .imm (.sl 1 n ex fun i _ => .val (.int .i64 (g i)))
def isInts (n : Nat) (cell : Nat → Nat → IV) : Prop := ∀ i, i < n → cell i 0 = .val (.int .i64 (intsAt cell i))
theorem ints_le {n : Nat} {ex : Bool} {cell : Nat → Nat → IV} (h : isInts n cell) : CLe (.one (.imm (.sl 1 n ex cell))) (.one (iS n ex (intsAt cell))) :=
  CLe.imm (ILe.sl rfl id (.inr ⟨rfl, fun i j hi hj => by
    obtain rfl : j = 0 := by omega
    exact ILe.of_eq (h i hi)⟩))
theorem ints_lit {n : Nat} {g : Nat → Int} : isInts n fun i _ => .val (.int .i64 (g i)) := fun _ _ => rfl

/-- The first place that is so; -1: there is none. -/
def idxOf (g : Nat → Bool) (n : Nat) : Int := match (List.range n).find? g with
  | some i => i
  | none => -1
theorem idx_found {g : Nat → Bool} {n i : Nat} (hi : i < n) (hg : g i = true) (hb : ∀ k, k < i → g k = false) : idxOf g n = i := by
  have : (List.range n).find? g = some i := by
    rw [List.find?_range_eq_some]
    exact ⟨hg, List.mem_range.2 hi, fun j hj => by simp [hb j hj]⟩
  unfold idxOf
  rw [this]
theorem idx_none {g : Nat → Bool} {n : Nat} (hb : ∀ k, k < n → g k = false) : idxOf g n = -1 := by
  have : (List.range n).find? g = none := by
    rw [List.find?_eq_none]
    intro x hx
    simp [hb x (List.mem_range.1 hx)]
  unfold idxOf
  rw [this]
theorem idx_cases (g : Nat → Bool) (n : Nat) : (idxOf g n = -1 ∧ ∀ k, k < n → g k = false) ∨ ∃ i : Nat, idxOf g n = i ∧ i < n ∧ g i = true ∧ ∀ k, k < i → g k = false := by
  unfold idxOf
  cases h : (List.range n).find? g with
  | none =>
    rw [List.find?_eq_none] at h
    exact .inl ⟨rfl, fun k hk => by simpa using h k (List.mem_range.2 hk)⟩
  | some i =>
    rw [List.find?_range_eq_some] at h
    obtain ⟨h1, h2, h3⟩ := h
    exact .inr ⟨i, rfl, List.mem_range.1 h2, h1, fun k hk => by simpa using h3 k hk⟩
theorem blt_t {i n : Nat} (h : i < n) : Nat.blt i n = true := Nat.ble_eq_true_of_le h
theorem blt_f {i n : Nat} (h : n ≤ i) : Nat.blt i n = false := by
  cases hb : Nat.blt i n with
  | false => rfl
  | true => have : i < n := Nat.le_of_ble_eq_true hb; omega
theorem beq_f {i n : Nat} (h : i ≠ n) : Nat.beq i n = false := by
  cases hb : Nat.beq i n with
  | false => rfl
  | true => exact absurd (Nat.eq_of_beq_eq_true hb) h

theorem beq_ff {b : Bool} (h : (b == false) = true) : b = false := by cases b <;> first | rfl | cases h
theorem bor_f {a b : Bool} (h : (bif a then true else b) = false) : a = false ∧ b = false := by cases a <;> first | exact ⟨rfl, h⟩ | cases h
theorem band_t {a b : Bool} (h : (bif a then b else false) = true) : a = true ∧ b = true := by cases a <;> first | exact ⟨rfl, h⟩ | cases h
theorem nbor {a b : Bool} (h : ((bif a then true else b) == false) = true) : (a == false) = true := by cases a <;> first | rfl | cases h
theorem bnot_t {b : Bool} (h : (!b) = true) : b = false := by cases b <;> first | rfl | cases h
theorem bnot_f {b : Bool} (h : (!b) = false) : b = true := by cases b <;> first | rfl | cases h
def anyB (g : Nat → Bool) (n : Nat) : Bool := (List.range n).any g
theorem idx_any (g : Nat → Bool) (n : Nat) : decide (idxOf g n ≥ 0) = anyB g n := by
  unfold anyB idxOf
  cases h : (List.range n).find? g with
  | none =>
    rw [List.find?_eq_none] at h
    have : (List.range n).any g = false := by
      rw [List.any_eq_false]
      exact h
    rw [this]
    rfl
  | some i =>
    have h1 := List.find?_some h
    have h2 := List.mem_of_find?_eq_some h
    have : (List.range n).any g = true := List.any_eq_true.2 ⟨i, h2, h1⟩
    rw [this]
    simp
/-- One row more. -/
theorem app_one {f : Nat → Nat → IV} {xs : List IV} {e q i j : Nat} (hq : q < i + 1) (h : q = i → xs.getD j ivDef = f i j) : (bif Nat.blt q i then f q j else xs.getD ((q - i) * e + j) ivDef) = f q j := by
  rcases Nat.lt_or_ge q i with h1 | h1
  · rw [blt_t h1]
    rfl
  · have e1 : q = i := by omega
    rw [blt_f h1, e1, Nat.sub_self, Nat.zero_mul, Nat.zero_add]
    exact h e1
theorem anyB_congr {f g : Nat → Bool} {n : Nat} (h : ∀ i, i < n → f i = g i) : anyB f n = anyB g n := by
  unfold anyB
  induction n with
  | zero => rfl
  | succ n ih =>
    rw [List.range_succ, List.any_append, List.any_append, ih fun i hi => h i (by omega)]
    simp [h n (by omega)]
theorem anyB_false {g : Nat → Bool} {n : Nat} : anyB g n = false ↔ ∀ i, i < n → g i = false := by
  unfold anyB
  rw [List.any_eq_false]
  constructor
  · intro h i hi
    have := h i (List.mem_range.2 hi)
    simpa using this
  · intro h i hi
    simp [h i (List.mem_range.1 hi)]
theorem anyB_true {g : Nat → Bool} {n : Nat} : anyB g n = true ↔ ∃ i, i < n ∧ g i = true := by
  unfold anyB
  rw [List.any_eq_true]
  constructor
  · rintro ⟨i, h1, h2⟩
    exact ⟨i, List.mem_range.1 h1, h2⟩
  · rintro ⟨i, h1, h2⟩
    exact ⟨i, List.mem_range.2 h1, h2⟩
end Go.Proofs.YtmpddomgiplnmaaDoor.Abs

/-
  CALLS WITH EFFECTS ON ANY BLOCKS: the blocks that the arguments reach, named in the order in which they are met; contracts told in these names.
-/
namespace Go.Proofs.YtmpddomgiplnmaaDoor.Abs
open Go

def posN : List Nat → Nat → Option Nat
  | [], _ => none
  | x :: l, b => bif Nat.beq b x then some 0 else match posN l b with
    | some k => some (k + 1)
    | none => none
def nameN (l : List Nat) (b : Nat) : Nat × List Nat := match posN l b with
  | some k => (k, l)
  | none => (l.length, l ++ [b])
def canN : Nat → (Nat → List Nat → AV × List Nat) → List Nat → (Nat → AV) × List Nat
  | 0, _, l => (fun _ => avDef, l)
  | n + 1, c, l => (fun i => bif Nat.beq i n then (c n (canN n c l).2).1 else (canN n c l).1 i, (c n (canN n c l).2).2)
def canA : AV → List Nat → AV × List Nat
  | .imm x, l => (.imm x, l)
  | .own b e i j, l => (.own (nameN l b).1 e i j, (nameN l b).2)
  | .osl b e r j len app, l => (.osl (nameN l b).1 e r j len app, (nameN l b).2)
  | .omp b, l => (.omp (nameN l b).1, (nameN l b).2)
  | .vptr n c, l => (.vptr n c, l)
  | .fn f nf first nc caps, l => (.fn f nf (canN nf (fun i => canA (first i)) l).1 nc (canN nc (fun i => canA (caps i)) (canN nf (fun i => canA (first i)) l).2).1, (canN nc (fun i => canA (caps i)) (canN nf (fun i => canA (first i)) l).2).2)
def canL : List AV → List Nat → List AV × List Nat
  | [], l => ([], l)
  | x :: xs, l => ((canA x l).1 :: (canL xs (canA x l).2).1, (canL xs (canA x l).2).2)
def canC : CV → List Nat → CV × List Nat
  | .one x, l => (.one (canA x l).1, (canA x l).2)
  | .agg xs, l => (.agg (canL xs l).1, (canL xs l).2)
def canT : List CV → List Nat → List CV × List Nat
  | [], l => ([], l)
  | x :: xs, l => ((canC x l).1 :: (canT xs (canC x l).2).1, (canT xs (canC x l).2).2)
def canB : ABlk → List Nat → ABlk × List Nat
  | .var ty cells, l => (.var ty (canL cells l).1, (canL cells l).2)
  | B, l => (B, l)
def canH (H : Nat → Option ABlk) : Nat → Nat → List Nat → Option (List ABlk × List Nat)
  | 0, _, _ => none
  | fuel + 1, k, l => match l[k]? with
    | none => some ([], l)
    | some b => match H b with
      | none => none
      | some B => match canH H fuel (k + 1) (canB B l).2 with
        | some (Bs, l') => some ((canB B l).1 :: Bs, l')
        | none => none

def Sub (l L : List Nat) : Prop := ∀ (k b : Nat), l[k]? = some b → L[k]? = some b
theorem Sub.refl (l : List Nat) : Sub l l := fun _ _ h => h
theorem Sub.trans {a b c : List Nat} (h : Sub a b) (h' : Sub b c) : Sub a c := fun k x hx => h' k x (h k x hx)
theorem posN_get : ∀ (l : List Nat) (b k : Nat), posN l b = some k → l[k]? = some b
  | [], _, _, h => by cases h
  | x :: l, b, k, h => by
    simp only [posN] at h
    cases hb : Nat.beq b x with
    | true => rw [hb] at h; cases h; rw [Nat.eq_of_beq_eq_true hb]; rfl
    | false =>
      rw [hb] at h
      simp only [cond_false] at h
      split at h
      · rename_i k' hk
        cases h
        simpa using posN_get l b k' hk
      · cases h
theorem posN_none : ∀ (l : List Nat) (b : Nat), posN l b = none → b ∉ l
  | [], _, _ => by simp
  | x :: l, b, h => by
    simp only [posN] at h
    cases hb : Nat.beq b x with
    | true => rw [hb] at h; cases h
    | false =>
      rw [hb] at h
      simp only [cond_false] at h
      split at h
      · cases h
      · rename_i hk
        intro hm
        rcases List.mem_cons.1 hm with e | e
        · rw [e, Nat.beq_refl] at hb; cases hb
        · exact posN_none l b hk e
theorem nameN_get (l : List Nat) (b : Nat) : (nameN l b).2[(nameN l b).1]? = some b := by
  unfold nameN
  split
  · rename_i k hk
    exact posN_get l b k hk
  · simp
theorem nameN_sub (l : List Nat) (b : Nat) : Sub l (nameN l b).2 := by
  unfold nameN
  split
  · exact Sub.refl l
  · intro k x hx
    have := (List.getElem?_eq_some_iff.1 hx).1
    show (l ++ [b])[k]? = some x
    rw [List.getElem?_append_left this]
    exact hx
theorem nameN_nodup {l : List Nat} (b : Nat) (h : l.Nodup) : (nameN l b).2.Nodup := by
  unfold nameN
  split
  · exact h
  · rename_i hk
    have := posN_none l b hk
    rw [List.nodup_append]
    refine ⟨h, by simp, fun x hx y hy => ?_⟩
    simp only [List.mem_singleton] at hy
    subst hy
    exact fun e => this (e ▸ hx)

theorem CLe.fn' {f : Fn} {nf nc : Nat} {first first' caps caps' : Nat → AV} (h1 : ∀ i, i < nf → CLe (.one (first i)) (.one (first' i))) (h2 : ∀ i, i < nc → CLe (.one (caps i)) (.one (caps' i))) : CLe (.one (.fn f nf first nc caps)) (.one (.fn f nf first' nc caps')) := by
  rintro w O μ v ⟨fs, cs, hv, l1, l2, r1, r2⟩
  exact ⟨fs, cs, hv, l1, l2, fun i u hu => h1 i (by rw [← l1]; exact (List.getElem?_eq_some_iff.1 hu).1) w O μ u (r1 i u hu), fun i u hu => h2 i (by rw [← l2]; exact (List.getElem?_eq_some_iff.1 hu).1) w O μ u (r2 i u hu)⟩

/-- What canonical names are worth. -/
structure CanOk (x : AV) (l : List Nat) (r : AV × List Nat) : Prop where
  sub : Sub l r.2
  nd : l.Nodup → r.2.Nodup
  le : ∀ L, Sub r.2 L → ∀ nx, CLe (.one x) (.one (renA (rho L nx) r.1))

theorem canN_ok {x : Nat → AV} {c : Nat → List Nat → AV × List Nat} (hc : ∀ i l, CanOk (x i) l (c i l)) : ∀ (n : Nat) (l : List Nat), Sub l (canN n c l).2 ∧ (l.Nodup → (canN n c l).2.Nodup) ∧ ∀ L, Sub (canN n c l).2 L → ∀ nx i, i < n → CLe (.one (x i)) (.one (renA (rho L nx) ((canN n c l).1 i)))
  | 0, l => ⟨Sub.refl l, id, fun _ _ _ i hi => absurd hi (Nat.not_lt_zero i)⟩
  | n + 1, l => by
    obtain ⟨h1, h2, h3⟩ := canN_ok hc n l
    have h := hc n (canN n c l).2
    refine ⟨h1.trans h.sub, fun hn => h.nd (h2 hn), fun L hL nx i hi => ?_⟩
    simp only [canN]
    cases hb : Nat.beq i n with
    | true => obtain rfl := Nat.eq_of_beq_eq_true hb; exact h.le L hL nx
    | false =>
      refine h3 L (h.sub.trans hL) nx i ?_
      have : i ≠ n := fun e => by rw [e, Nat.beq_refl] at hb; cases hb
      omega

theorem canA_ok : ∀ (x : AV) (l : List Nat), CanOk x l (canA x l)
  | .imm x, l => ⟨Sub.refl l, id, fun _ _ _ => CLe.refl _⟩
  | .vptr n c, l => ⟨Sub.refl l, id, fun _ _ _ => CLe.refl _⟩
  | .own b e i j, l => ⟨nameN_sub l b, nameN_nodup b, fun L hL nx => CLe.of_eq (by
      show CV.one (AV.own b e i j) = .one (.own (rho L nx (nameN l b).1) e i j)
      rw [rho_old (hL _ _ (nameN_get l b))])⟩
  | .osl b e r j len app, l => ⟨nameN_sub l b, nameN_nodup b, fun L hL nx => CLe.of_eq (by
      show CV.one (AV.osl b e r j len app) = .one (.osl (rho L nx (nameN l b).1) e r j len app)
      rw [rho_old (hL _ _ (nameN_get l b))])⟩
  | .omp b, l => ⟨nameN_sub l b, nameN_nodup b, fun L hL nx => CLe.of_eq (by
      show CV.one (AV.omp b) = .one (.omp (rho L nx (nameN l b).1))
      rw [rho_old (hL _ _ (nameN_get l b))])⟩
  | .fn f nf first nc caps, l => by
    obtain ⟨h1, h2, h3⟩ := canN_ok (fun i l => canA_ok (first i) l) nf l
    obtain ⟨k1, k2, k3⟩ := canN_ok (fun i l => canA_ok (caps i) l) nc (canN nf (fun i => canA (first i)) l).2
    exact ⟨h1.trans k1, fun hn => k2 (h2 hn), fun L hL nx => CLe.fn' (fun i hi => h3 L (k1.trans hL) nx i hi) (fun i hi => k3 L hL nx i hi)⟩

theorem canL_ok : ∀ (xs : List AV) (l : List Nat), Sub l (canL xs l).2 ∧ (l.Nodup → (canL xs l).2.Nodup) ∧ ∀ L, Sub (canL xs l).2 L → ∀ nx, LLe xs ((canL xs l).1.map (renA (rho L nx)))
  | [], l => ⟨Sub.refl l, id, fun _ _ _ => trivial⟩
  | x :: xs, l => by
    have h := canA_ok x l
    obtain ⟨h1, h2, h3⟩ := canL_ok xs (canA x l).2
    exact ⟨h.sub.trans h1, fun hn => h2 (h.nd hn), fun L hL nx => ⟨h.le L (h1.trans hL) nx, h3 L hL nx⟩⟩
theorem canC_ok (x : CV) (l : List Nat) : Sub l (canC x l).2 ∧ (l.Nodup → (canC x l).2.Nodup) ∧ ∀ L, Sub (canC x l).2 L → ∀ nx, CLe x (renC (rho L nx) (canC x l).1) := by
  cases x with
  | one x => have h := canA_ok x l; exact ⟨h.sub, h.nd, h.le⟩
  | agg xs => obtain ⟨h1, h2, h3⟩ := canL_ok xs l; exact ⟨h1, h2, fun L hL nx => CLe.aggL (h3 L hL nx)⟩
theorem canT_ok : ∀ (xs : List CV) (l : List Nat), Sub l (canT xs l).2 ∧ (l.Nodup → (canT xs l).2.Nodup) ∧ ∀ L, Sub (canT xs l).2 L → ∀ nx, TLe xs ((canT xs l).1.map (renC (rho L nx)))
  | [], l => ⟨Sub.refl l, id, fun _ _ _ => TLe.nil⟩
  | x :: xs, l => by
    obtain ⟨g1, g2, g3⟩ := canC_ok x l
    obtain ⟨h1, h2, h3⟩ := canT_ok xs (canC x l).2
    exact ⟨g1.trans h1, fun hn => h2 (g2 hn), fun L hL nx => TLe.cons (g3 L (h1.trans hL) nx) (h3 L hL nx)⟩
theorem canB_ok (B : ABlk) (l : List Nat) : Sub l (canB B l).2 ∧ (l.Nodup → (canB B l).2.Nodup) ∧ ∀ L, Sub (canB B l).2 L → ∀ nx, BLe B (renB (rho L nx) (canB B l).1) := by
  cases B with
  | var ty cells => obtain ⟨h1, h2, h3⟩ := canL_ok cells l; exact ⟨h1, h2, fun L hL nx => BLe.var (h3 L hL nx)⟩
  | rows ty e n c => exact ⟨Sub.refl l, id, fun _ _ _ => BLe.of_eq rfl⟩
  | mp a b c d e f => exact ⟨Sub.refl l, id, fun _ _ _ => BLe.of_eq rfl⟩
  | it a b c d e f g => exact ⟨Sub.refl l, id, fun _ _ _ => BLe.of_eq rfl⟩
theorem canH_ok {H : Nat → Option ABlk} : ∀ (fuel k : Nat) (l : List Nat) (Bs : List ABlk) (l' : List Nat), canH H fuel k l = some (Bs, l') → Sub l l' ∧ (l.Nodup → l'.Nodup) ∧ (k ≤ l.length → k + Bs.length = l'.length) ∧
    ∀ (j b : Nat), k ≤ j → l'[j]? = some b → ∃ B B1, H b = some B ∧ Bs[j - k]? = some B1 ∧ ∀ nx, BLe B (renB (rho l' nx) B1)
  | 0, _, _, _, _, h => by cases h
  | fuel + 1, k, l, Bs, l', h => by
    simp only [canH] at h
    split at h
    · rename_i hk
      simp only [Option.some.injEq, Prod.mk.injEq] at h
      obtain ⟨rfl, rfl⟩ := h
      have hkl := List.getElem?_eq_none_iff.1 hk
      refine ⟨Sub.refl _, id, fun h => by simp; omega, fun j b hj hb => ?_⟩
      have := (List.getElem?_eq_some_iff.1 hb).1
      omega
    · rename_i b0 hk
      split at h
      · cases h
      · rename_i B hB
        split at h
        · rename_i Bs' l2 hrec
          simp only [Option.some.injEq, Prod.mk.injEq] at h
          obtain ⟨rfl, rfl⟩ := h
          obtain ⟨g1, g2, g3⟩ := canB_ok B l
          obtain ⟨h1, h2, h3, h4⟩ := canH_ok fuel (k + 1) (canB B l).2 Bs' l2 hrec
          have hk2 := g1 k b0 hk
          have hkl : k + 1 ≤ (canB B l).2.length := (List.getElem?_eq_some_iff.1 hk2).1
          refine ⟨g1.trans h1, fun hn => h2 (g2 hn), fun _ => by have := h3 hkl; simp only [List.length_cons]; omega, fun j b hj hb => ?_⟩
          rcases Nat.lt_or_ge k j with hlt | hge
          · obtain ⟨B2, B1, q1, q2, q3⟩ := h4 j b hlt hb
            refine ⟨B2, B1, q1, ?_, q3⟩
            rw [show j - k = (j - (k + 1)) + 1 from by omega]
            simpa using q2
          · obtain rfl : j = k := by omega
            have h5 := h1 j b0 hk2
            rw [hb] at h5
            cases h5
            exact ⟨B, (canB B l).1, hB, by simp, fun nx => g3 l2 h1 nx⟩
        · cases h

theorem CLe.ren {x y : CV} (h : CLe x y) (ρ : Nat → Nat) : CLe (renC ρ x) (renC ρ y) := fun w O _ v hx => (renC_rel y v).2 (h w O _ v ((renC_rel x v).1 hx))
theorem TLe.ren : ∀ {l m : List CV}, TLe l m → ∀ (ρ : Nat → Nat), TLe (l.map (renC ρ)) (m.map (renC ρ)) := fun {l m} h ρ => ⟨by simp [h.1], fun i x y hx hy => by
  rw [List.getElem?_map, Option.map_eq_some_iff] at hx hy
  obtain ⟨x', hx', rfl⟩ := hx
  obtain ⟨y', hy', rfl⟩ := hy
  exact (h.2 i x' y' hx' hy').ren ρ⟩
theorem TLe.trans {a b c : List CV} (h : TLe a b) (h' : TLe b c) : TLe a c := ⟨h.1.trans h'.1, fun i x z hx hz => by
  have hi : i < b.length := by rw [← h.1]; exact (List.getElem?_eq_some_iff.1 hx).1
  exact fun w O μ v hv => h'.2 i _ z (List.getElem?_eq_getElem hi) hz w O μ v (h.2 i x _ hx (List.getElem?_eq_getElem hi) w O μ v hv)⟩
/-- A block that says more, by its form. -/
def BkLe : ABlk → ABlk → Prop
  | .var ty l, .var ty' l' => ty = ty' ∧ LLe l l'
  | .rows ty e n c, .rows ty' e' n' c' => ty = ty' ∧ e = e' ∧ n' = n ∧ ∀ i j, i < n → j < e → ILe (c i j) (c' i j)
  | B, B' => B = B'
theorem LLe.ren {ρ : Nat → Nat} : ∀ {l m : List AV}, LLe l m → LLe (l.map (renA ρ)) (m.map (renA ρ))
  | [], [], _ => trivial
  | _ :: _, _ :: _, h => ⟨CLe.ren h.1 ρ, LLe.ren h.2⟩
theorem BkLe.ren {x y : ABlk} (h : BkLe x y) (ρ : Nat → Nat) : BLe (renB ρ x) (renB ρ y) := by
  cases x <;> cases y
  case var.var => obtain ⟨rfl, h⟩ := h; exact BLe.var h.ren
  case rows.rows => obtain ⟨rfl, rfl, h1, h2⟩ := h; exact BLe.rows h1 h2
  all_goals (unfold BkLe at h; first | (cases h; done) | (cases h; exact BLe.of_eq rfl))
theorem BkLe.refl : ∀ (B : ABlk), BkLe B B
  | .var ty l => ⟨rfl, by
    have : ∀ l : List AV, LLe l l := fun l => by induction l with
      | nil => trivial
      | cons x l ih => exact ⟨CLe.refl _, ih⟩
    exact this l⟩
  | .rows _ _ _ _ => ⟨rfl, rfl, rfl, fun _ _ _ _ => ILe.refl _⟩
  | .mp _ _ _ _ _ _ => rfl
  | .it _ _ _ _ _ _ _ => rfl
def BksLe : List ABlk → List ABlk → Prop
  | [], [] => True
  | x :: l, y :: m => BkLe x y ∧ BksLe l m
  | _, _ => False
theorem BksLe.get : ∀ {l m : List ABlk}, BksLe l m → l.length = m.length ∧ ∀ (j : Nat) x, l[j]? = some x → ∃ y, m[j]? = some y ∧ BkLe x y
  | [], [], _ => ⟨rfl, fun j x h => by simp at h⟩
  | x :: l, y :: m, h => by
    obtain ⟨h1, h2⟩ := BksLe.get h.2
    refine ⟨by simp [h1], fun j z hz => ?_⟩
    cases j with
    | zero => simp at hz; subst hz; exact ⟨y, rfl, h.1⟩
    | succ j => simp at hz ⊢; exact h2 j z hz
  | [], _ :: _, h => h.elim
  | _ :: _, [], h => h.elim

/-- Which of the blocks are told anew. -/
def covers (n : Nat) (U : List (Nat × Option ABlk)) : Bool := (List.range n).all fun j => U.any fun p => Nat.beq p.1 j
theorem covers_get {n : Nat} {U : List (Nat × Option ABlk)} (h : covers n U = true) {j : Nat} (hj : j < n) : ∃ C, (j, C) ∈ U := by
  have h1 := List.all_eq_true.1 h j (List.mem_range.2 hj)
  rw [List.any_eq_true] at h1
  obtain ⟨⟨k, C⟩, h2, h3⟩ := h1
  obtain rfl := Nat.eq_of_beq_eq_true h3
  exact ⟨C, h2⟩

/-- What a call comes to, in canonical names: its answer, the blocks behind it, how many new ones, on what condition. -/
abbrev Spec := List CV → List ABlk → Option (SV × List (Nat × Option ABlk) × Nat × Prop)
/-- The same, each step reckoned once. -/
def canNs : Nat → (Nat → List Nat → AV × List Nat) → List Nat → (Nat → AV) × List Nat
  | 0, _, l => (fun _ => avDef, l)
  | n + 1, c, l => match canNs n c l with
    | (f, l1) => match c n l1 with
      | (x, l2) => (fun i => bif Nat.beq i n then x else f i, l2)
def canAs : AV → List Nat → AV × List Nat
  | .imm x, l => (.imm x, l)
  | .own b e i j, l => match nameN l b with
    | (k, l') => (.own k e i j, l')
  | .osl b e r j len app, l => match nameN l b with
    | (k, l') => (.osl k e r j len app, l')
  | .omp b, l => match nameN l b with
    | (k, l') => (.omp k, l')
  | .vptr n c, l => (.vptr n c, l)
  | .fn f nf first nc caps, l => match canNs nf (fun i => canAs (first i)) l with
    | (x, l1) => match canNs nc (fun i => canAs (caps i)) l1 with
      | (y, l2) => (.fn f nf x nc y, l2)
def canLs : List AV → List Nat → List AV × List Nat
  | [], l => ([], l)
  | x :: xs, l => match canAs x l with
    | (y, l1) => match canLs xs l1 with
      | (ys, l2) => (y :: ys, l2)
def canCs : CV → List Nat → CV × List Nat
  | .one x, l => match canAs x l with
    | (y, l') => (.one y, l')
  | .agg xs, l => match canLs xs l with
    | (ys, l') => (.agg ys, l')
def canTs : List CV → List Nat → List CV × List Nat
  | [], l => ([], l)
  | x :: xs, l => match canCs x l with
    | (y, l1) => match canTs xs l1 with
      | (ys, l2) => (y :: ys, l2)
def canBs : ABlk → List Nat → ABlk × List Nat
  | .var ty cells, l => match canLs cells l with
    | (ys, l') => (.var ty ys, l')
  | B, l => (B, l)
def canHs (H : Nat → Option ABlk) : Nat → Nat → List Nat → Option (List ABlk × List Nat)
  | 0, _, _ => none
  | fuel + 1, k, l => match l[k]? with
    | none => some ([], l)
    | some b => match H b with
      | none => none
      | some B => match canBs B l with
        | (B', l1) => match canHs H fuel (k + 1) l1 with
          | some (Bs, l') => some (B' :: Bs, l')
          | none => none
theorem canNs_eq {c c' : Nat → List Nat → AV × List Nat} (h : ∀ i l, c' i l = c i l) : ∀ (n : Nat) (l : List Nat), canNs n c' l = canN n c l
  | 0, _ => rfl
  | n + 1, l => by
    simp only [canNs, canN, canNs_eq h n l, h]
theorem canAs_eq : ∀ (x : AV) (l : List Nat), canAs x l = canA x l
  | .imm _, _ => rfl
  | .own _ _ _ _, _ => rfl
  | .osl _ _ _ _ _ _, _ => rfl
  | .omp _, _ => rfl
  | .vptr _ _, _ => rfl
  | .fn f nf first nc caps, l => by
    simp only [canAs, canA]
    rw [canNs_eq (fun i l => canAs_eq (first i) l) nf l]
    show (AV.fn f nf (canN nf (fun i => canA (first i)) l).1 nc (canNs nc (fun i => canAs (caps i)) (canN nf (fun i => canA (first i)) l).2).1, (canNs nc (fun i => canAs (caps i)) (canN nf (fun i => canA (first i)) l).2).2) = _
    rw [canNs_eq (fun i l => canAs_eq (caps i) l)]
theorem canLs_eq : ∀ (xs : List AV) (l : List Nat), canLs xs l = canL xs l
  | [], _ => rfl
  | x :: xs, l => by
    simp only [canLs, canL, canAs_eq, canLs_eq xs]
theorem canCs_eq (x : CV) (l : List Nat) : canCs x l = canC x l := by
  cases x <;> simp only [canCs, canC, canAs_eq, canLs_eq]
theorem canTs_eq : ∀ (xs : List CV) (l : List Nat), canTs xs l = canT xs l
  | [], _ => rfl
  | x :: xs, l => by
    simp only [canTs, canT, canCs_eq, canTs_eq xs]
theorem canBs_eq (x : ABlk) (l : List Nat) : canBs x l = canB x l := by
  cases x <;> simp only [canBs, canB, canLs_eq]
theorem canHs_eq (H : Nat → Option ABlk) : ∀ (fuel k : Nat) (l : List Nat), canHs H fuel k l = canH H fuel k l
  | 0, _, _ => rfl
  | fuel + 1, k, l => by
    simp only [canHs, canH, canBs_eq, canHs_eq H fuel]
def etC (F : FuncId) (spec : Spec) (et : ETab) : ETab := etAdd F (fun args H => match canTs args [] with
  | (a0, l0) => match canHs H 30 0 l0 with
    | some (Bs, l) => match spec a0 Bs with
      | some (r, U, n, vc) => bif covers Bs.length U then some ⟨l, r, U, n, vc⟩ else none
      | none => none
    | none => none) et
/-- A contract holds for all that says more. -/
def SpecOk (P : Program) (F : FuncId) (spec : Spec) : Prop := ∀ a0 Bs r U n vc, spec a0 Bs = some (r, U, n, vc) → vc → ∃ a1 Bs1, TLe a0 a1 ∧ BksLe Bs Bs1 ∧
  ACall P F a1 (heapOf Bs1) Bs1.length fun x H' n' => x = r ∧ H' = updH (heapOf Bs1) U ∧ n' = Bs1.length + n
theorem nodupB_of : ∀ (l : List Nat), l.Nodup → nodupB l = true
  | [], _ => rfl
  | x :: l, h => by
    obtain ⟨h1, h2⟩ := List.nodup_cons.1 h
    simp only [nodupB, Bool.and_eq_true, Bool.not_eq_true']
    refine ⟨?_, nodupB_of l h2⟩
    cases hm : memN l x with
    | false => rfl
    | true => exact absurd ((memN_iff l x).1 hm) h1
theorem etC_ok {P : Program} {F : FuncId} {spec : Spec} {et : ETab} (hf : CallOk P F) (hs : SpecOk P F spec) (h : ETabOk P et) : ETabOk P (etC F spec et) := by
  refine etAddW_ok hf (fun args H e he hv => ?_) h
  simp only [canTs_eq, canHs_eq] at he
  split at he
  · rename_i Bs l hH
    split at he
    · rename_i r U n vc hsp
      cases hcov : covers Bs.length U with
      | false => rw [hcov] at he; cases he
      | true =>
        rw [hcov] at he
        simp only [cond_true, Option.some.injEq] at he
        subst he
        obtain ⟨a1, Bs1, t1, t2, t3⟩ := hs _ _ _ _ _ _ hsp hv
        obtain ⟨h1, h2, h3⟩ := canT_ok args []
        obtain ⟨k1, k2, k3, k4⟩ := canH_ok 30 0 _ Bs l hH
        obtain ⟨b1, b2⟩ := t2.get
        have hlen : Bs.length = l.length := by have := k3 (Nat.zero_le _); omega
        refine ⟨nodupB_of l (k2 (h2 List.nodup_nil)), a1, Bs1, by rw [← b1]; exact hlen, fun nx => (h3 l k1 nx).trans (t1.ren _), fun nx j b hj => ?_, t3⟩
        have hj : l[j]? = some b := hj
        obtain ⟨B, B1, q1, q2, q3⟩ := k4 j b (Nat.zero_le _) hj
        rw [Nat.sub_zero] at q2
        obtain ⟨B2, q4, q5⟩ := b2 j B1 q2
        refine ⟨B, B2, q1, q4, fun w O μ k hx => q5.ren _ w O μ k (q3 nx w O μ k hx), .inr (covers_get hcov ?_)⟩
        rw [hlen]
        exact (List.getElem?_eq_some_iff.1 hj).1
    · cases he
  · cases he
end Go.Proofs.YtmpddomgiplnmaaDoor.Abs

/-
  CALLS WITH EFFECTS, TOLD OVER TYPED DATA: methods on a variable of ours, functions on some blocks; how such a body ends.
-/
namespace Go.Proofs.YtmpddomgiplnmaaDoor.Abs
open Go

/-- A variable in a block, typed. -/
def bkV {β : Type} (ty : TypeId) (e : Enc β) (x : β) : ABlk := .var ty (agL e x)
def decV {β : Type} (ty : TypeId) (e : Enc β) : ABlk → Option (β × Prop)
  | .var t l => bif Nat.beq t ty && (lenIs l e.k && l.all isImm) then some (e.g fun j => getIV (l.getD j avDef), e.ok fun j => getIV (l.getD j avDef)) else none
  | _ => none
theorem LLe_of_get : ∀ {l m : List AV}, l.length = m.length → (∀ (i : Nat) x y, l[i]? = some x → m[i]? = some y → CLe (.one x) (.one y)) → LLe l m
  | [], [], _, _ => trivial
  | [], _ :: _, h, _ => by cases h
  | _ :: _, [], h, _ => by cases h
  | x :: l, y :: m, h, hc => ⟨hc 0 x y rfl rfl, LLe_of_get (by simpa using h) fun i a b ha hb => hc (i + 1) a b (by simpa using ha) (by simpa using hb)⟩
theorem agL_lle {α : Type} {e : Enc α} {l : List AV} (hl : l.length = e.k) (hi : l.all isImm = true) (h : e.ok fun j => getIV (l.getD j avDef)) : LLe l (agL e (e.g fun j => getIV (l.getD j avDef))) := by
  refine LLe_of_get (by rw [hl, agL]; simp) fun i x y hx hy => ?_
  simp only [agL, List.getElem?_map, Option.map_eq_some_iff] at hy
  obtain ⟨j, hj, rfl⟩ := hy
  have hik : i < e.k := by
    have := (List.getElem?_eq_some_iff.1 hj).1
    simpa using this
  have hji : j = i := by
    rw [List.getElem?_range hik] at hj
    exact (Option.some.inj hj).symm
  subst hji
  have hjl : j < l.length := by omega
  have hx' : l[j] = x := by
    rw [List.getElem?_eq_getElem hjl] at hx
    exact Option.some.inj hx
  have h2 : x = .imm (getIV x) := hx' ▸ imm_get (List.all_eq_true.1 hi _ (List.getElem_mem hjl))
  have h3 : l.getD j avDef = x := by simp [List.getD, hx]
  rw [h2]
  have := e.le _ h j hik
  rw [h3] at this
  exact CLe.imm this
theorem decV_le {β : Type} {ty : TypeId} {e : Enc β} {B : ABlk} {x : β} {p : Prop} (h : decV ty e B = some (x, p)) (hp : p) : BkLe B (bkV ty e x) := by
  unfold decV at h
  split at h
  · rename_i t l
    cases hb : (Nat.beq t ty && (lenIs l e.k && l.all isImm)) with
    | false => rw [hb] at h; cases h
    | true =>
      rw [hb] at h
      simp only [cond_true, Option.some.injEq, Prod.mk.injEq] at h
      obtain ⟨rfl, rfl⟩ := h
      rw [Bool.and_eq_true, Bool.and_eq_true] at hb
      obtain rfl := Nat.eq_of_beq_eq_true hb.1
      exact ⟨rfl, agL_lle (lenIs_eq _ _ hb.2.1) hb.2.2 hp⟩
  · cases h
/-- Rows in a block, typed. -/
def bkR {α : Type} (ty : TypeId) (e : Enc α) (s : Sl α) : ABlk := .rows ty e.k s.n fun i j => e.f (s.at_ i) j
def decR {α : Type} (ty : TypeId) (e : Enc α) : ABlk → Option (Sl α × Prop)
  | .rows t k n c => bif Nat.beq t ty && Nat.beq k e.k then some (⟨n, fun i => e.g (c i)⟩, ∀ i, i < n → e.ok (c i)) else none
  | _ => none
theorem decR_le {α : Type} {ty : TypeId} {e : Enc α} {B : ABlk} {x : Sl α} {p : Prop} (h : decR ty e B = some (x, p)) (hp : p) : BkLe B (bkR ty e x) := by
  unfold decR at h
  split at h
  · rename_i t k n c
    cases hb : (Nat.beq t ty && Nat.beq k e.k) with
    | false => rw [hb] at h; cases h
    | true =>
      rw [hb] at h
      simp only [cond_true, Option.some.injEq, Prod.mk.injEq] at h
      obtain ⟨rfl, rfl⟩ := h
      rw [Bool.and_eq_true] at hb
      obtain rfl := Nat.eq_of_beq_eq_true hb.1
      have hk := Nat.eq_of_beq_eq_true hb.2
      exact ⟨rfl, hk, rfl, fun i j hi hj => e.le (c i) (hp i hi) j (hk ▸ hj)⟩
  · cases h

/-- Arguments, typed. -/
structure CodT (α : Type) where
  enc : α → List CV
  dec : List CV → Option (α × Prop)
  le : ∀ l x p, dec l = some (x, p) → p → TLe l (enc x)
def codT0 : CodT Unit := ⟨fun _ => [], fun l => match l with
  | [] => some ((), True)
  | _ => none, fun l x p h _ => by
  split at h
  · exact TLe.nil
  · cases h⟩
def codT1 {α : Type} (A : Cod α) : CodT α := ⟨fun x => [A.enc x], fun l => match l with
  | [a] => A.dec a
  | _ => none, fun l x p h hp => by
  split at h
  · exact TLe.cons (A.le _ _ _ h hp) TLe.nil
  · cases h⟩
def codTc {α β : Type} (A : Cod α) (B : CodT β) : CodT (α × β) := ⟨fun x => A.enc x.1 :: B.enc x.2, fun l => match l with
  | a :: r => match A.dec a, B.dec r with
    | some (x, p), some (y, q) => some ((x, y), p ∧ q)
    | _, _ => none
  | _ => none, fun l x p h hp => by
  split at h
  · split at h
    · rename_i h1 h2
      simp only [Option.some.injEq, Prod.mk.injEq] at h
      obtain ⟨rfl, rfl⟩ := h
      exact TLe.cons (A.le _ _ _ h1 hp.1) (B.le _ _ _ h2 hp.2)
    · cases h
  · cases h⟩

section
variable {P : Program} {α β γ : Type}
/-- A method on a variable of ours: what it answers, what the variable is then. -/
def spM (ty : TypeId) (e : Enc β) (A : CodT α) (r : β → α → SV) (s : β → α → β) (q : β → α → Prop) : Spec := fun a0 Bs => match a0, Bs with
  | .one (.own 0 0 0 0) :: rest, [B] => match decV ty e B, A.dec rest with
    | some (y, p), some (x, p') => some (r y x, [(0, some (bkV ty e (s y x)))], 0, p ∧ (p' ∧ q y x))
    | _, _ => none
  | _, _ => none
theorem spM_ok {F : FuncId} {ty : TypeId} {e : Enc β} {A : CodT α} {r : β → α → SV} {s : β → α → β} {q : β → α → Prop}
    (h : ∀ y x, q y x → ACall P F (.one (.own 0 0 0 0) :: A.enc x) (heapOf [bkV ty e y]) 1 fun x' H' n' => x' = r y x ∧ H' = updH (heapOf [bkV ty e y]) [(0, some (bkV ty e (s y x)))] ∧ n' = 1 + 0) : SpecOk P F (spM ty e A r s q) := by
  intro a0 Bs r' U n vc hs hv
  unfold spM at hs
  split at hs
  · split at hs
    · rename_i h1 h2
      simp only [Option.some.injEq, Prod.mk.injEq] at hs
      obtain ⟨rfl, rfl, rfl, rfl⟩ := hs
      exact ⟨_, [bkV ty e _], TLe.cons (CLe.refl _) (A.le _ _ _ h2 hv.2.1), ⟨decV_le h1 hv.1, trivial⟩, h _ _ hv.2.2⟩
    · cases hs
  · cases hs
end

/-- The blocks behind a body, by their places. -/
def updL : Nat → List (Option ABlk) → List (Nat × Option ABlk)
  | _, [] => []
  | k, B :: l => (k, B) :: updL (k + 1) l
def endsP (ρ : Nat → Nat) (H' : Nat → Option ABlk) : List Nat → List (Option ABlk) → Prop
  | b :: L, some B :: Us => (∃ B0, H' b = some B0 ∧ BLe B0 (renB ρ B)) ∧ endsP ρ H' L Us
  | _ :: L, none :: Us => endsP ρ H' L Us
  | [], [] => True
  | _, _ => False
theorem updL_get : ∀ (Us : List (Option ABlk)) (k : Nat) (H : Nat → Option ABlk) (j : Nat), updH H (updL k Us) j = if k ≤ j ∧ j < k + Us.length then (Us[j - k]?).getD none else H j
  | [], k, H, j => by
    have : ¬ (k ≤ j ∧ j < k + ([] : List (Option ABlk)).length) := fun h => by have h2 := h.2; simp at h2; omega
    rw [if_neg this]
    rfl
  | B :: l, k, H, j => by
    have e1 : updH H (updL k (B :: l)) = updH (updH H [(k, B)]) (updL (k + 1) l) := rfl
    rw [e1, updL_get l (k + 1), updH_one]
    by_cases hj : j = k
    · subst hj
      rw [if_neg (by omega), if_pos rfl, if_pos (by simp)]
      simp
    · rw [if_neg hj]
      by_cases h2 : k + 1 ≤ j ∧ j < k + 1 + l.length
      · rw [if_pos h2, if_pos ⟨by omega, by simp only [List.length_cons]; omega⟩, show j - k = (j - (k + 1)) + 1 from by omega]
        simp
      · rw [if_neg h2, if_neg fun h => h2 ⟨by omega, by have := h.2; simp only [List.length_cons] at this; omega⟩]
theorem endsP_get {ρ : Nat → Nat} {H' : Nat → Option ABlk} : ∀ (L : List Nat) (Us : List (Option ABlk)), endsP ρ H' L Us → ∀ (j : Nat) b B, L[j]? = some b → Us[j]? = some (some B) → ∃ B0, H' b = some B0 ∧ BLe B0 (renB ρ B)
  | [], [], _, j, b, B, h, _ => by simp at h
  | c :: L, some C :: Us, h, j, b, B, hb, hB => by
    cases j with
    | zero => simp at hb hB; subst hb; subst hB; exact h.1
    | succ j => exact endsP_get L Us h.2 j b B (by simpa using hb) (by simpa using hB)
  | c :: L, none :: Us, h, j, b, B, hb, hB => by
    cases j with
    | zero => simp at hB
    | succ j => exact endsP_get L Us h j b B (by simpa using hb) (by simpa using hB)
  | [], _ :: _, h, _, _, _, _, _ => h.elim
  | _ :: _, [], h, _, _, _, _, _ => by
    unfold endsP at h
    exact h.elim
theorem EndsE.all {Bs : List ABlk} {L : List Nat} {Us : List (Option ABlk)} {res x : SV} {H' : Nat → Option ABlk} {n' : Nat} (hL : L.length = Us.length) (hok : (nodupB L && ltB L n' && keptB L Bs.length) = true) (hlen : Nat.ble Bs.length Us.length = true) (hx : SLe x (renS (rho L n') res)) (hB : endsP (rho L n') H' L Us) :
    EndsE Bs L res (updH (heapOf Bs) (updL 0 Us)) x H' n' := by
  simp only [Bool.and_eq_true] at hok
  refine ⟨hok.1.1, fun b hb => Nat.le_of_ble_eq_true (List.all_eq_true.1 hok.1.2 b hb), keptB_iff Bs.length hok.2, hx, fun j b hj B hBj => ?_, fun j hj => ?_⟩
  · rw [updL_get, Nat.zero_add, Nat.sub_zero] at hBj
    have hjl : j < Us.length := by rw [← hL]; exact (List.getElem?_eq_some_iff.1 hj).1
    rw [if_pos ⟨Nat.zero_le _, hjl⟩, List.getElem?_eq_getElem hjl] at hBj
    exact endsP_get L Us hB j b B hj (by rw [List.getElem?_eq_getElem hjl]; exact congrArg some hBj)
  · rw [updL_get, Nat.zero_add, if_neg (by omega)]
    have := Nat.le_of_ble_eq_true hlen
    exact List.getElem?_eq_none (by omega)
end Go.Proofs.YtmpddomgiplnmaaDoor.Abs
