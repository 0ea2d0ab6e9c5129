/-
  REGIONS IN THE ORDER OF THE TEXT, with calls whose answers are told (by the operation's place).
-/
import Derived.Test.YtndfcbcmeeemfaaB6
namespace Go.Proofs.Ytndfcbcmeeemfaa.Abs
open Go

def putE1 (E : Nat → SV) (d : Nat) (v : SV) : Nat → SV := fun t => bif Nat.beq t d then v else E t

/-- Operations, reckoned one behind the other; a call answers what 'orc' tells. -/
def runOps (P : Program) (T : Lays) (orc : Tab) (ops : List Oper) (n : Nat) : Nat → Nat → (Nat → SV) → (Nat → Option ABlk) → Nat → Prop → List Oper → Option (St × Prop × List Oper)
  | 0, _, E, H, nx, p, l => some (⟨n, E, H, nx⟩, p, l)
  | _ + 1, _, E, H, nx, p, [] => some (⟨n, E, H, nx⟩, p, [])
  | k + 1, i, E, H, nx, p, o :: rest => match guardOf ops E o.guard with
    | none => some (⟨n, E, H, nx⟩, p, o :: rest)
    | some g => bif dstOk o.dst n then match stepV P T orc H i E o g with
      | some (x, vc) => match o.dst with
        | some d => runOps P T orc ops n k (i + 1) (putE1 E d x) H nx (p ∧ vc) rest
        | none => runOps P T orc ops n k (i + 1) E H nx (p ∧ vc) rest
      | none => match g, evalM T nx H E o.op with
        | none, some (x, U, vc) => match o.dst with
          | some d => runOps P T orc ops n k (i + 1) (putE1 E d x) (updH H U) (nx + 1) (p ∧ vc) rest
          | none => runOps P T orc ops n k (i + 1) E (updH H U) (nx + 1) (p ∧ vc) rest
        | _, _ => some (⟨n, E, H, nx⟩, p, o :: rest)
      else some (⟨n, E, H, nx⟩, p, o :: rest)

section
variable {K : Nat} {P : Program} {T : Lays} {S : St} {Q : Exit → St → Prop}

theorem restr_all (E : Nat → SV) (l : List Nat) (h : ∀ t, memN l t = true) : restr E l = E := by
  funext t; simp [restr, h t]

theorem step_wp (G : Good P T) {orc : Tab} (hTab : TabOk P orc) {C : Ctx K} {ops : Array Oper} {Q : Exit → Act → World → Prop} {k : Nat} {o : Oper} {g : Option Bool} {x : SV} {vc : Prop} {w : World} {μ : Nat → Option Nat} {a : Act} {rest : List Oper}
    (hall : (ops.toList.all fun o => dstOk o.dst S.size) = true) (hR : Rel C μ S a w) (hg : guardOf ops.toList S.env o.guard = some g) (hd : dstOk o.dst S.size = true)
    (h : stepV P T orc S.heap k S.env o g = some (x, vc)) (hv : vc) (hK : ∀ v w', Rel C μ { S with env := putE S.env o.dst x } (a.put o.dst v) w' → wpList P ops Q rest (a.put o.dst v) w') : wpList P ops Q (o :: rest) a w := by
  have hall' : ∀ (j : Nat) o', ops[j]? = some o' → dstOk o'.dst S.size = true := by
    intro j o' hj
    rw [List.all_eq_true] at hall
    exact hall o' (List.mem_of_getElem? (show ops.toList[j]? = some o' by simpa using hj))
  have hw := guardOf_sound hR.env hg hR.size hall'
  unfold wpList
  have key : ∀ (y : SV) (p : Prop), (evalV T S.heap S.env o.op = some (y, p) ∨ ∃ c f r cvs q q2, o.op = .call c ∧ callOf S.env c = some (f, cvs, q) ∧ cvs.all immCV = true ∧ immSV r = true ∧ y = r ∧ p = (q ∧ q2) ∧ orc f cvs = some (r, q2)) → p →
      (∀ v w', Rel C μ S a w' → SRel w' (Own C.F S.heap μ) μ y v → wpList P ops Q rest (a.put o.dst v) w') → o.wp P a w (wpList P ops Q rest) Q := by
    intro y p hc hp hK'
    rcases hc with hc | ⟨c, f, r, cvs, q, q2, ho, hl, h1, h2, rfl, rfl, horc⟩
    · obtain ⟨v, hrun, hs⟩ := evalV_sound G.lay G.zero G.fields G.more hR.heap hR.env hc hp
      unfold Oper.wp
      rw [hrun]
      exact hK' v w hR hs
    · obtain ⟨hok, hcall⟩ := hTab _ _ _ _ horc hp.2
      obtain ⟨vals, hA0, hrun⟩ := callOf_sound hR.env hl hp.1 hok ho
      have hA := immT_rel (μ' := noneμ) h1 hA0
      unfold Oper.wp
      rw [hrun]
      refine (hcall _ w _ (own_lt hR) hA).mono ?_
      rintro e w' ⟨v, rfl, hext, hs⟩
      obtain ⟨hR2, hs2⟩ := pcall_step hR hext hs h2
      exact hK' v w' hR2 hs2
  have shape : ∃ y p, x = gdw g y ∧ vc = gdp g p ∧ (evalV T S.heap S.env o.op = some (y, p) ∨ ∃ c f r cvs q q2, o.op = .call c ∧ callOf S.env c = some (f, cvs, q) ∧ cvs.all immCV = true ∧ immSV r = true ∧ y = r ∧ p = (q ∧ q2) ∧ orc f cvs = some (r, q2)) := by
    unfold stepV at h
    split at h
    · rename_i y p hV
      rw [force_eq] at h
      simp only [Option.some.injEq, Prod.mk.injEq] at h
      exact ⟨y, p, h.1.symm, h.2.symm, .inl hV⟩
    · split at h
      · rename_i c ho
        split at h
        · rename_i f cvs q hl
          split at h
          · rename_i r q2 horc
            cases hb : (cvs.all immCV && immSV r) with
            | false => rw [hb] at h; simp at h
            | true =>
              rw [hb] at h
              simp only [cond_true, Option.some.injEq, Prod.mk.injEq] at h
              rw [Bool.and_eq_true] at hb
              exact ⟨r, _, h.1.symm, h.2.symm, .inr ⟨c, f, r, cvs, q, q2, ho, hl, hb.1, hb.2, rfl, rfl, horc⟩⟩
          · cases h
        · cases h
      · cases h
  obtain ⟨y, p, rfl, rfl, hc⟩ := shape
  cases g with
  | none =>
    rw [if_pos (by rw [hw]; rfl)]
    exact .inl (key y p hc hv fun v w' h1 h2 => hK v w' (h1.put h2 hd))
  | some b =>
    cases b with
    | true =>
      rw [if_pos (by rw [hw]; rfl)]
      exact .inl (key y p hc (hv rfl) fun v w' h1 h2 => hK v w' (h1.put (x := .gd true y) (by unfold SRel; simpa using h2) hd))
    | false =>
      rw [if_neg (by rw [hw]; simp)]
      exact hK _ w (hR.put (x := .gd false y) (by unfold SRel; simp) hd)

theorem runOps_sound (G : Good P T) {ops : Array Oper} {orc : Tab} (hTab : TabOk P orc) {Q : Exit → St → Prop} {n : Nat} (hall : (ops.toList.all fun o => dstOk o.dst n) = true) :
    ∀ (k i : Nat) (l : List Oper) (E : Nat → SV) (H : Nat → Option ABlk) (nx : Nat) (S' : St) (p p' : Prop) (l' : List Oper), runOps P T orc ops.toList n k i E H nx p l = some (S', p', l') → p' →
      (p → AL K P ops l' Q S' → AL K P ops l Q ⟨n, E, H, nx⟩) ∧ p := by
  intro k
  induction k with
  | zero => intro i l E H nx S' p p' l' h hp; simp only [runOps, Option.some.injEq, Prod.mk.injEq] at h; obtain ⟨rfl, rfl, rfl⟩ := h; exact ⟨fun _ h => h, hp⟩
  | succ k ih =>
    intro i l E H nx S' p p' l' h hp
    cases l with
    | nil => simp only [runOps, Option.some.injEq, Prod.mk.injEq] at h; obtain ⟨rfl, rfl, rfl⟩ := h; exact ⟨fun _ h => h, hp⟩
    | cons o rest =>
      have hall' : ∀ (j : Nat) o', ops[j]? = some o' → dstOk o'.dst n = true := by
        intro j o' hj
        rw [List.all_eq_true] at hall
        exact hall o' (List.mem_of_getElem? (show ops.toList[j]? = some o' by simpa using hj))
      simp only [runOps] at h
      split at h
      · simp only [Option.some.injEq, Prod.mk.injEq] at h; obtain ⟨rfl, rfl, rfl⟩ := h; exact ⟨fun _ h => h, hp⟩
      · rename_i g hg
        cases hdst : dstOk o.dst n with
        | false => rw [hdst] at h; simp only [cond_false, Option.some.injEq, Prod.mk.injEq] at h; obtain ⟨rfl, rfl, rfl⟩ := h; exact ⟨fun _ h => h, hp⟩
        | true =>
          rw [hdst] at h
          simp only [cond_true] at h
          split at h
          · rename_i x vc hV
            have fin : runOps P T orc ops.toList n k (i + 1) (putE E o.dst x) H nx (p ∧ vc) rest = some (S', p', l') := by
              split at h
              · rename_i d hd; rw [hd]; exact h
              · rename_i hd; rw [hd]; exact h
            obtain ⟨h1, h2⟩ := ih (i + 1) rest (putE E o.dst x) H nx S' _ p' l' fin hp
            exact ⟨fun _ hQ C μ a w hR => step_wp (S := ⟨n, E, H, nx⟩) G hTab hall hR hg hdst hV h2.2 fun v w' hR' => h1 h2 hQ C μ _ w' hR', h2.1⟩
          · split at h
            · rename_i x U vc hM hS
              have fin : runOps P T orc ops.toList n k (i + 1) (putE E o.dst x) (updH H U) (nx + 1) (p ∧ vc) rest = some (S', p', l') := by
                split at h
                · rename_i d hd; rw [hd]; exact h
                · rename_i hd; rw [hd]; exact h
              obtain ⟨h1, h2⟩ := ih (i + 1) rest (putE E o.dst x) (updH H U) (nx + 1) S' _ p' l' fin hp
              refine ⟨fun _ hQ C μ a w hR => ?_, h2.1⟩
              have hw := guardOf_sound hR.env hg hR.size hall'
              obtain ⟨v, w', μ', hrun, hext, hH', hs⟩ := evalM_sound G hR.heap hR.env hM h2.2
              unfold wpList
              rw [if_pos (by rw [hw]; rfl)]
              refine .inl ?_
              unfold Oper.wp
              have hR' := (hR.step hext hH').put (d := o.dst) (x := x) (v := v) hs hdst
              rcases hrun with hrun | ⟨hrun, rfl⟩
              · rw [hrun]; exact h1 h2 hQ C μ' _ w' hR'
              · rw [hrun]; exact h1 h2 hQ C μ' _ w' hR'
            · simp only [Option.some.injEq, Prod.mk.injEq] at h; obtain ⟨rfl, rfl, rfl⟩ := h; exact ⟨fun _ h => h, hp⟩

/-- A whole region in the order of the text. -/
theorem AW_run (G : Good P T) {id n nx : Nat} {E : Nat → SV} {H : Nat → Option ABlk} {ops : Array Oper} (orc : Tab) (hTab : TabOk P orc) (k : Nat) {S' : St} {p : Prop} {l' : List Oper} (hall : (ops.toList.all fun o => dstOk o.dst n) = true) (h : runOps P T orc ops.toList n k 0 E H nx True ops.toList = some (S', p, l')) (hp : p) (hQ : AL K P ops l' Q S') : AW K P (.region id ops false) Q ⟨n, E, H, nx⟩ :=
  AW_region ((runOps_sound G hTab hall k 0 ops.toList E H nx S' True p l' h hp).1 trivial hQ)

/-- The same, when all is reckoned. -/
theorem AW_all (G : Good P T) {id n nx : Nat} {E : Nat → SV} {H : Nat → Option ABlk} {ops : Array Oper} (orc : Tab) (hTab : TabOk P orc) {S' : St} {p : Prop} (hall : (ops.toList.all fun o => dstOk o.dst n) = true) (h : runOps P T orc ops.toList n ops.toList.length 0 E H nx True ops.toList = some (S', p, [])) (hp : p) (hQ : Q .normal S') : AW K P (.region id ops false) Q ⟨n, E, H, nx⟩ :=
  AW_run G orc hTab _ hall h hp (AL_nil hQ)

theorem AW_drw (G : Good P T) (hm : P.follows .mixedOrders = true) {id n nx : Nat} {E : Nat → SV} {H : Nat → Option ABlk} {ops : Array Oper} (orc : Tab) (hTab : TabOk P orc) {tr : List (Option Nat × SV)} {Ef : Nat → SV} {p : Prop} (hall : (ops.toList.all fun o => dstOk o.dst n) = true) (hord : ordOk ops.toList = true)
    (h : drawOps P T orc ops.toList n H 0 E ops.toList = some (tr, Ef, p)) (hp : p) (hQ : Q .normal ⟨n, Ef, H, nx⟩) : AW K P (.region id ops true) Q ⟨n, E, H, nx⟩ :=
  AW_draw (S := ⟨n, E, H, nx⟩) G hm orc hTab hall hord h hp hQ

theorem AW_litr (G : Good P T) (hm : P.follows .mixedOrders = true) {id n nx : Nat} {E : Nat → SV} {H : Nat → Option ABlk} {ops : Array Oper} (orc : Tab) (hTab : TabOk P orc) (m0 : Nat) (ka va : Bool) (kks : List IntKind) (vn : Nat) {tr : List (Option Nat × SV)} {ins : List (Option (List Int × (Nat → IV)))} {Ef : Nat → SV} {p : Prop} (hall : (ops.toList.all fun o => dstOk o.dst n) = true) (hord : ordOk ops.toList = true)
    (h : litOps P T orc nx m0 ka kks va vn (clo [] ops.toList) ops.toList n H 0 E ops.toList = some (tr, ins, Ef, p)) (hp : p) (hap : apart ins = true) (hm0 : Nat.blt m0 ops.toList.length = true)
    (hQ : Q .normal ⟨n, Ef, updH H [(nx, some (.mp ka kks va vn (domD (fun _ => true) 0 ins) (mvalD (fun _ => true) 0 ins)))], nx + 1⟩) : AW K P (.region id ops true) Q ⟨n, E, H, nx⟩ :=
  AW_lit (S := ⟨n, E, H, nx⟩) G hm orc hTab m0 ka va kks vn hall hord h hp hap hm0 hQ
end

def tab0 : Tab := fun _ _ => none
theorem tab0_ok (P : Program) : TabOk P tab0 := fun f args r p h => by cases h

/-- One more function's contract. -/
def tabAdd (f : FuncId) (c : List CV → Option (SV × Prop)) (tab : Tab) : Tab := fun g args => bif Nat.beq g f then c args else tab g args
theorem tabAdd_ok {P : Program} {f : FuncId} {c : List CV → Option (SV × Prop)} {tab : Tab} (hf : CallOk P f) (hc : ∀ args r p, c args = some (r, p) → p → PCall P f args r) (h : TabOk P tab) : TabOk P (tabAdd f c tab) := by
  intro g args r p hg hp
  unfold tabAdd at hg
  cases hb : Nat.beq g f with
  | true => rw [hb] at hg; obtain rfl := Nat.eq_of_beq_eq_true hb; exact ⟨hf, hc args r p hg hp⟩
  | false => rw [hb] at hg; exact h g args r p hg hp
end Go.Proofs.Ytndfcbcmeeemfaa.Abs
