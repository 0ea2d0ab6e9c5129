/-
  STATES, AND THE RULES BY WHICH A FUNCTION IS WALKED: regions by reckoning, code by its form, calls by contracts.
-/
import Derived.Test.YtndfcbcmeeemfaaK2
namespace Go.Proofs.Ytndfcbcmeeemfaa.Abs
open Go

section
variable {K : Nat} {P : Program} {T : Lays} {F : Nat → Prop} {w : World} {μ : Nat → Option Nat} {H : Nat → Option ABlk} {nx : Nat} {E : Nat → SV} {a : Act}

/-- What is known of a program's types: the table of layouts tells them truly. -/
structure Good (P : Program) (T : Lays) : Prop where
  lay : LayOk P T
  zero : ZeroOk T
  size : SizeOk T
  fields : ∀ t fs s b z, T t = some ⟨.st fs, s, b, z⟩ → fieldsIn T fs = true
  more : MoreOk P T

theorem evalM_sound (G : Good P T) (hH : HRel F w μ H nx) (hE : ERel w (Own F H μ) μ E a) {o : Oper} {x : SV} {U : List (Nat × Option ABlk)} {vc : Prop} (h : evalM T nx H E o.op = some (x, U, vc)) (hv : vc) :
    Does P F w H μ nx a o x (updH H U) (nx + 1) := by
  cases ho : o.op with
  | box t y =>
    rw [ho] at h; simp only [evalM] at h
    split at h
    · rename_i c hc
      simp only [Option.some.injEq, Prod.mk.injEq] at h; obtain ⟨rfl, rfl, rfl⟩ := h
      exact does_box hH hE ho hc hv
    · cases h
  | alloc t =>
    rw [ho] at h; simp only [evalM] at h
    split at h
    · rename_i L hL
      simp only [Option.some.injEq, Prod.mk.injEq] at h; obtain ⟨rfl, rfl, rfl⟩ := h
      exact does_alloc G.lay G.zero hH ho hL
    · cases h
  | buildSlice t len parts =>
    rw [ho] at h; simp only [evalM] at h
    split at h
    · rename_i e sz by_ z hL
      split at h
      · rename_i L hF
        cases hc : (Nat.ble (len * L.size) 16777216 && !(Nat.beq L.size 0)) with
        | false => rw [hc] at h; simp at h
        | true =>
          rw [hc] at h; simp only [cond_true] at h
          simp only [Bool.and_eq_true, Bool.not_eq_true'] at hc
          split at h
          · rename_i l p hf
            split at h
            · rename_i xs hxs
              simp only [Option.some.injEq, Prod.mk.injEq] at h; obtain ⟨rfl, rfl, rfl⟩ := h
              exact does_buildSlice G.lay G.zero G.size hH hE ho hL hF (Nat.le_of_ble_eq_true hc.1) (fun e => by simp [e] at hc) hf hxs hv
            · cases h
          · cases h
      · cases h
    · cases h
  | makeSlice t l c =>
    rw [ho] at h; simp only [evalM] at h
    split at h
    · rename_i e sz by_ z kn n km m hL hl hc
      split at h
      · rename_i L hF
        cases h0 : Nat.beq L.size 0 with
        | true => rw [h0] at h; simp at h
        | false =>
          rw [h0] at h; simp only [cond_false, Option.some.injEq, Prod.mk.injEq] at h; obtain ⟨rfl, rfl, rfl⟩ := h
          obtain ⟨q1, q2, q3, q4, q5, q6⟩ := hv
          exact does_makeSlice G.lay G.zero G.size hH hE ho hL hF (fun e => by simp [e] at h0) hl hc q1 q2 q3 q4 q5 q6
      · cases h
    · cases h
  | store t y z =>
    rw [ho] at h; simp only [evalM] at h
    split at h
    · rename_i L b e i j c hL hx hy
      cases hlen : lenIs c.cells L.size with
      | false => rw [hlen] at h; simp at h
      | true =>
        rw [hlen] at h; simp only [cond_true] at h
        split at h
        · rename_i ty cells hB
          cases hfit : Nat.ble (i * e + j + L.size) cells.length with
          | false => rw [hfit] at h; simp at h
          | true =>
            rw [hfit] at h; simp only [cond_true, Option.some.injEq, Prod.mk.injEq] at h; obtain ⟨rfl, rfl, rfl⟩ := h
            exact does_store_var G.lay hH hE ho hL hx hy hv.1 hv.2 hlen hB (Nat.le_of_ble_eq_true hfit)
        · rename_i ty e' n cell hB
          split at h
          · rename_i xs hxs
            cases hc : (Nat.beq e e' && Nat.ble (j + L.size) e') with
            | false => rw [hc] at h; simp at h
            | true =>
              rw [hc] at h; simp only [cond_true, Option.some.injEq, Prod.mk.injEq] at h; obtain ⟨rfl, rfl, rfl⟩ := h
              simp only [Bool.and_eq_true] at hc
              have he := Nat.eq_of_beq_eq_true hc.1
              subst he
              exact does_store_rows G.lay hH hE ho hL hx hy hv.1 hv.2.1 hlen hB hxs (Nat.le_of_ble_eq_true hc.2) hv.2.2
          · cases h
        · cases h
    · cases h
  | makeMap t r =>
    cases r with
    | some r => rw [ho] at h; simp [evalM] at h
    | none =>
      rw [ho] at h; simp only [evalM] at h
      split at h
      · split at h
        · simp only [Option.some.injEq, Prod.mk.injEq] at h; obtain ⟨rfl, rfl, rfl⟩ := h
          exact does_makeMap hH ho
        · cases h
      · cases h
  | mapUpdate t m k y => rw [ho] at h; simp only [evalM] at h; exact does_mapPut G.lay G.more hH hE (.inl ho) h hv
  | insert t m k y => rw [ho] at h; simp only [evalM] at h; exact does_mapPut G.lay G.more hH hE (.inr ho) h hv
  | call c =>
    rw [ho] at h; simp only [evalM] at h
    obtain ⟨callee, args, argTypes⟩ := c
    split at h
    · rename_i t t' x' y' hcal hts has
      simp only at hcal hts has
      subst hcal
      split at h
      · rename_i e sz by_ z s r hL hx hy
        split at h
        · rename_i L e' m cellr pr hF hr
          cases hc : (Nat.beq t t' && !(Nat.beq L.size 0) && Nat.beq e' L.size) with
          | false => rw [hc] at h; simp at h
          | true =>
            rw [hc] at h; simp only [cond_true] at h
            simp only [Bool.and_eq_true, Bool.not_eq_true'] at hc
            obtain ⟨⟨c1, c2⟩, c3⟩ := hc
            have c1 := Nat.eq_of_beq_eq_true c1
            have c3 := Nat.eq_of_beq_eq_true c3
            subst c1; subst c3
            obtain rfl : argTypes = #[t, t] := Array.toList_inj.1 (by simpa using hts)
            obtain rfl : args = #[x', y'] := Array.toList_inj.1 (by simpa using has)
            have h0 : L.size ≠ 0 := fun e => by simp [e] at c2
            split at h
            · rename_i es n ex cell
              simp only [Option.some.injEq, Prod.mk.injEq] at h; obtain ⟨rfl, rfl, rfl⟩ := h
              obtain ⟨q1, q2, q3, q4, q5, q6, q7, q8⟩ := hv
              exact does_append_imm G.lay G.size hH hE ho hL hF h0 hx hy hr q1 q2 q3 q4 q5 q6 q7 q8
            · rename_i b es n
              split at h
              · rename_i ty es' n' cell hB
                cases hc : (Nat.beq es L.size && Nat.beq es' L.size && Nat.beq ty e) with
                | false => rw [hc] at h; simp at h
                | true =>
                  rw [hc] at h; simp only [cond_true, Option.some.injEq, Prod.mk.injEq] at h; obtain ⟨rfl, rfl, rfl⟩ := h
                  simp only [Bool.and_eq_true] at hc
                  obtain ⟨⟨d1, d2⟩, d3⟩ := hc
                  have d1 := Nat.eq_of_beq_eq_true d1
                  have d2 := Nat.eq_of_beq_eq_true d2
                  have d3 := Nat.eq_of_beq_eq_true d3
                  subst d1; subst d2; subst d3
                  obtain ⟨q1, q2, q3, q4, q5, q6⟩ := hv
                  exact does_append_osl G.lay G.size hH hE ho hL hF h0 hx hB hy hr q1 q2 q3 q4 q5 q6
              · cases h
            · cases h
        · cases h
      · cases h
    · cases h
  | _ => rw [ho] at h; simp [evalM] at h

/-- The world in which a call began, and what was owned then. -/
structure Ctx (K : Nat) where
  F : Nat → Prop
  w0 : World
  O0 : Nat → Prop
  μ0 : Nat → Option Nat
  lt0 : ∀ k m, μ0 k = some m → k < K

structure Rel {K : Nat} (C : Ctx K) (μ : Nat → Option Nat) (S : St) (a : Act) (w : World) : Prop where
  defers : a.defers = []
  size : a.tmps.size = S.size
  env : ERel w (Own C.F S.heap μ) μ S.env a
  heap : HRel C.F w μ S.heap S.next
  ext : Ext C.F C.w0 C.O0 C.μ0 w (Own C.F S.heap μ) μ

def Lift {K : Nat} (C : Ctx K) (Q : Exit → St → Prop) : Exit → Act → World → Prop := fun e a w => ∃ μ S, Rel C μ S a w ∧ Q e S

/-- A list of operations, a piece of code: from every related state. -/
def AL (K : Nat) (P : Program) (ops : Array Oper) (l : List Oper) (Q : Exit → St → Prop) (S : St) : Prop := ∀ (C : Ctx K) μ a w, Rel C μ S a w → wpList P ops (Lift C Q) l a w
def AW (K : Nat) (P : Program) (c : Code) (Q : Exit → St → Prop) (S : St) : Prop := ∀ (C : Ctx K) μ a w, Rel C μ S a w → c.wp P (Lift C Q) a w

def putE (E : Nat → SV) (d : Option Nat) (v : SV) : Nat → SV := match d with
  | some d => fun t => bif Nat.beq t d then v else E t
  | none => E

def dstOk (d : Option Nat) (n : Nat) : Bool := match d with
  | some d => Nat.blt d n
  | none => true

theorem putE_rel {O : Nat → Prop} {d : Option Nat} {n : Nat} {x : SV} {v : Value} (hE : ERel w O μ E a) (hx : SRel w O μ x v) (hd : dstOk d n = true) (hn : a.tmps.size = n) : ERel w O μ (putE E d x) (a.put d v) := by
  cases d with
  | none => exact hE
  | some d =>
    intro t
    have hlt : d < a.tmps.size := by rw [hn]; exact Nat.le_of_ble_eq_true hd
    simp only [putE, Act.put]
    by_cases h : t = d
    · subst h
      have hb : Nat.beq t t = true := by simp
      rw [hb]
      simpa [Array.getD_eq_getD_getElem?, Array.getElem?_setIfInBounds, hlt] using hx
    · have hb : Nat.beq t d = false := by
        cases hb : Nat.beq t d with
        | false => rfl
        | true => exact absurd (Nat.eq_of_beq_eq_true hb) h
      rw [hb]
      have := hE t
      simpa [Array.getD_eq_getD_getElem?, Array.getElem?_setIfInBounds, Ne.symm h] using this

theorem put_size (d : Option Nat) (v : Value) : (a.put d v).tmps.size = a.tmps.size := by cases d <;> simp [Act.put]
theorem put_defers (d : Option Nat) (v : Value) : (a.put d v).defers = a.defers := by cases d <;> simp [Act.put]

theorem ERel.mono {w' : World} {O O' : Nat → Prop} {μ' : Nat → Option Nat} (h : ERel w O μ E a) (hx : Ext F w O μ w' O' μ') : ERel w' O' μ' E a := fun t => (h t).mono hx

/-- Is an operation wanted? none: it cannot be told; some none: it has no guard. -/
def guardOf (ops : List Oper) (E : Nat → SV) : Option (Nat × Bool) → Option (Option Bool)
  | none => some none
  | some (j, want) => match ops[j]? with
    | none => none
    | some o => match o.dst with
      | none => none
      | some d => match E d with
        | .cv (.one (.imm (.val (.bool b)))) => some (some (b == want))
        | .gd c (.cv (.one (.imm (.val (.bool b))))) => some (some (c && (b == want)))
        | _ => none

theorem guardOf_sound {O : Nat → Prop} {ops : Array Oper} {n : Nat} (hE : ERel w O μ E a) {o : Oper} {g : Option Bool} (h : guardOf ops.toList E o.guard = some g)
    (hn : a.tmps.size = n) (hd : ∀ (j : Nat) o', ops[j]? = some o' → dstOk o'.dst n = true) : Region.wanted o (yielded ops a.tmps) = g.getD true := by
  unfold guardOf at h
  split at h
  · rename_i hg
    simp only [Option.some.injEq] at h
    subst h
    simp [Region.wanted, hg]
  · rename_i j want hg
    split at h
    · cases h
    · rename_i o' ho'
      have ho2 : ops[j]? = some o' := by simpa using ho'
      split at h
      · cases h
      · rename_i d hdst
        have hlt : d < a.tmps.size := by
          have := hd j o' ho2
          rw [hdst] at this
          rw [hn]
          exact Nat.le_of_ble_eq_true this
        have hv := hE d
        have hget : a.tmps.getD d Go.undef = a.tmps[d] := by simp [Array.getD, hlt]
        have hy : yielded ops a.tmps j = match a.tmps[d] with | .bool b => some b | _ => none := by
          unfold yielded
          simp only [ho2, Option.bind_some, hdst]
          rw [Array.getElem?_eq_getElem hlt]
          cases a.tmps[d] <;> rfl
        split at h
        · rename_i b hb
          simp only [Option.some.injEq] at h
          subst h
          rw [hb, hget] at hv
          have hv : a.tmps[d] = .bool b := hv.1
          rw [hv] at hy
          simp only [Region.wanted, hg, hy, Option.getD_some]
          cases b <;> cases want <;> rfl
        · rename_i c b hb
          simp only [Option.some.injEq] at h
          subst h
          rw [hb, hget] at hv
          unfold SRel at hv
          cases c with
          | true =>
            simp only [if_true] at hv
            have hv : a.tmps[d] = .bool b := hv.1
            rw [hv] at hy
            simp only [Region.wanted, hg, hy, Option.getD_some]
            cases b <;> cases want <;> rfl
          | false =>
            simp only [Bool.false_eq_true, if_false] at hv
            rw [hv] at hy
            simp only [Region.wanted, hg, hy, Option.getD_some]
            rfl
        · cases h

/-- Data, reckoned as far as its head. -/
def forceI {α : Type} (x : IV) (k : IV → α) : α := match x with
  | .val (.int q n) => k (.val (.int q n))
  | .val (.bool b) => k (.val (.bool b))
  | .val v => k (.val v)
  | .sl e n ex c => k (.sl e n ex c)
  | .mp a b c d e f => k (.mp a b c d e f)
def forceA {α : Type} (x : AV) (k : AV → α) : α := match x with
  | .imm x => forceI x fun y => k (.imm y)
  | .own b e i j => k (.own b e i j)
  | .osl b e r j len app => k (.osl b e r j len app)
  | .omp b => k (.omp b)
  | .vptr n c => k (.vptr n c)
  | .fn f nf fi nc ca => k (.fn f nf fi nc ca)
def forceC {α : Type} (x : CV) (k : CV → α) : α := match x with
  | .one x => forceA x fun y => k (.one y)
  | .agg l => k (.agg l)
def force {α : Type} (x : SV) (k : SV → α) : α := match x with
  | .undef => k .undef
  | .cv c => forceC c fun y => k (.cv y)
  | .tup l => k (.tup l)
  | .gd b (.cv c) => forceC c fun y => k (.gd b (.cv y))
  | .gd b s => k (.gd b s)
theorem force_eq {α : Type} (x : SV) (k : SV → α) : force x k = k x := by
  have hI : ∀ (x : IV) (k : IV → α), forceI x k = k x := fun x k => by unfold forceI; split <;> rfl
  have hA : ∀ (x : AV) (k : AV → α), forceA x k = k x := fun x k => by unfold forceA; split <;> first | exact hI _ _ | rfl
  have hC : ∀ (x : CV) (k : CV → α), forceC x k = k x := fun x k => by unfold forceC; split <;> first | exact hA _ _ | rfl
  unfold force
  split <;> first | exact hC _ _ | rfl

/-- Operations, reckoned one behind the other; what must hold is collected. -/
def evalOps (T : Lays) (ops : List Oper) : Nat → St → Prop → List Oper → Option (St × Prop × List Oper)
  | 0, S, p, l => some (S, p, l)
  | _ + 1, S, p, [] => some (S, p, [])
  | k + 1, S, p, o :: rest => match guardOf ops S.env o.guard with
    | none => some (S, p, o :: rest)
    | some g => bif dstOk o.dst S.size then match evalV T S.heap S.env o.op with
      | some (x, vc) => match g with
        | none => force x fun x => evalOps T ops k { S with env := putE S.env o.dst x } (p ∧ vc) rest
        | some b => force x fun x => evalOps T ops k { S with env := putE S.env o.dst (.gd b x) } (p ∧ (b = true → vc)) rest
      | none => match g, evalM T S.next S.heap S.env o.op with
        | none, some (x, U, vc) => evalOps T ops k { S with env := putE S.env o.dst x, heap := updH S.heap U, next := S.next + 1 } (p ∧ vc) rest
        | _, _ => some (S, p, o :: rest)
      else some (S, p, o :: rest)

theorem Rel.put {C : Ctx K} {S : St} {d : Option Nat} {x : SV} {v : Value} (h : Rel C μ S a w) (hx : SRel w (Own C.F S.heap μ) μ x v) (hd : dstOk d S.size = true) : Rel C μ { S with env := putE S.env d x } (a.put d v) w :=
  ⟨by rw [put_defers]; exact h.defers, by rw [put_size]; exact h.size, putE_rel h.env hx hd h.size, h.heap, h.ext⟩

theorem Rel.step {C : Ctx K} {S : St} {w' : World} {μ' : Nat → Option Nat} {H' : Nat → Option ABlk} {nx' : Nat} (h : Rel C μ S a w) (he : Ext C.F w (Own C.F S.heap μ) μ w' (Own C.F H' μ') μ') (hH : HRel C.F w' μ' H' nx') : Rel C μ' { S with heap := H', next := nx' } a w' :=
  ⟨h.defers, h.size, h.env.mono he, hH, h.ext.trans he⟩

theorem evalOps_sound (G : Good P T) {ops : Array Oper} {Q : Exit → St → Prop} :
    ∀ (k : Nat) (l : List Oper) (S S' : St) (p p' : Prop) (l' : List Oper), (ops.toList.all fun o => dstOk o.dst S.size) = true → evalOps T ops.toList k S p l = some (S', p', l') → p' →
      (p → AL K P ops l' Q S' → AL K P ops l Q S) ∧ p := by
  intro k
  induction k with
  | zero => intro l S S' p p' l' hall h hp; simp only [evalOps, Option.some.injEq, Prod.mk.injEq] at h; obtain ⟨rfl, rfl, rfl⟩ := h; exact ⟨fun _ h => h, hp⟩
  | succ k ih =>
    intro l S S' p p' l' hall h hp
    cases l with
    | nil => simp only [evalOps, Option.some.injEq, Prod.mk.injEq] at h; obtain ⟨rfl, rfl, rfl⟩ := h; exact ⟨fun _ h => h, hp⟩
    | cons o rest =>
      have hall' : ∀ (j : Nat) o', ops[j]? = some o' → dstOk o'.dst S.size = true := by
        intro j o' hj
        rw [List.all_eq_true] at hall
        exact hall o' (by
          have : ops.toList[j]? = some o' := by simpa using hj
          exact List.mem_of_getElem? this)
      simp only [evalOps, force_eq] at h
      split at h
      · simp only [Option.some.injEq, Prod.mk.injEq] at h; obtain ⟨rfl, rfl, rfl⟩ := h; exact ⟨fun _ h => h, hp⟩
      · rename_i g hg
        cases hdst : dstOk o.dst S.size with
        | false => rw [hdst] at h; simp only [cond_false, Option.some.injEq, Prod.mk.injEq] at h; obtain ⟨rfl, rfl, rfl⟩ := h; exact ⟨fun _ h => h, hp⟩
        | true =>
          rw [hdst] at h
          simp only [cond_true] at h
          split at h
          · rename_i x vc hV
            cases g with
            | none =>
              obtain ⟨h1, h2⟩ := ih rest { S with env := putE S.env o.dst x } S' _ p' l' hall h hp
              refine ⟨fun _ hQ C μ a w hR => ?_, h2.1⟩
              have hw := guardOf_sound hR.env hg hR.size hall'
              obtain ⟨v, hrun, hs⟩ := evalV_sound G.lay G.zero G.fields G.more hR.heap hR.env hV h2.2
              unfold wpList
              rw [if_pos (by rw [hw]; rfl)]
              refine .inl ?_
              unfold Oper.wp
              rw [hrun]
              exact h1 h2 hQ C μ _ w (hR.put hs hdst)
            | some b =>
              obtain ⟨h1, h2⟩ := ih rest { S with env := putE S.env o.dst (.gd b x) } S' _ p' l' hall h hp
              refine ⟨fun _ hQ C μ a w hR => ?_, h2.1⟩
              have hw := guardOf_sound hR.env hg hR.size hall'
              unfold wpList
              cases b with
              | true =>
                obtain ⟨v, hrun, hs⟩ := evalV_sound G.lay G.zero G.fields G.more hR.heap hR.env hV (h2.2 rfl)
                rw [if_pos (by rw [hw]; rfl)]
                refine .inl ?_
                unfold Oper.wp
                rw [hrun]
                exact h1 h2 hQ C μ _ w (hR.put (x := .gd true x) (by unfold SRel; simpa using hs) hdst)
              | false =>
                rw [if_neg (by rw [hw]; simp)]
                exact h1 h2 hQ C μ _ w (hR.put (x := .gd false x) (by unfold SRel; simp) hdst)
          · split at h
            · rename_i x U vc hM
              obtain ⟨h1, h2⟩ := ih rest { S with env := putE S.env o.dst x, heap := updH S.heap U, next := S.next + 1 } S' _ p' l' hall h hp
              refine ⟨fun _ hQ C μ a w hR => ?_, h2.1⟩
              have hw := guardOf_sound hR.env hg hR.size hall'
              obtain ⟨v, w', μ', hrun, hext, hH', hs⟩ := evalM_sound G hR.heap hR.env hM h2.2
              unfold wpList
              rw [if_pos (by rw [hw]; rfl)]
              refine .inl ?_
              unfold Oper.wp
              have hR' := (hR.step hext hH').put (d := o.dst) (x := x) (v := v) hs hdst
              rcases hrun with hrun | ⟨hrun, rfl⟩
              · rw [hrun]; exact h1 h2 hQ C μ' _ w' hR'
              · rw [hrun]; exact h1 h2 hQ C μ' _ w' hR'
            · simp only [Option.some.injEq, Prod.mk.injEq] at h; obtain ⟨rfl, rfl, rfl⟩ := h; exact ⟨fun _ h => h, hp⟩
end
end Go.Proofs.Ytndfcbcmeeemfaa.Abs
