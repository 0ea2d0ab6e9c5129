/-
  OPERATIONS THAT MAKE OR WRITE MEMORY: what the evaluator answers is what the model does, and the state stays related.
-/
import Derived.Test.YtndfcbcmeeemfaaA5
namespace Go.Proofs.Ytndfcbcmeeemfaa.Abs
open Go

def updH (H : Nat → Option ABlk) : List (Nat × Option ABlk) → Nat → Option ABlk
  | [] => H
  | (k, B) :: l => updH (fun k' => bif Nat.beq k' k then B else H k') l

def toIV : AV → Option IV
  | .imm x => some x
  | _ => none

def toIVs : List AV → Option (List IV)
  | [] => some []
  | x :: l => match toIV x, toIVs l with
    | some y, some ys => some (y :: ys)
    | _, _ => none

def zeroIV (L : Lay) (j : Nat) : IV := ivOf (L.zero.getD j Go.undef)

def repZ (L : Lay) : Nat → List AV
  | 0 => []
  | n + 1 => zeros L ++ repZ L n

/-- A slice's rows: how many, whether it may be appended to in place (its block), its cells. -/
def rowsOf (H : Nat → Option ABlk) : AV → Option (Nat × Nat × (Nat → Nat → IV) × Prop)
  | .imm (.sl e n _ cell) => some (e, n, cell, True)
  | .osl b e r j len _ => match H b with
    | some (.rows _ e' n cell) => bif Nat.beq e e' && Nat.beq j 0 then some (e, len, fun i q => cell (r + i) q, r + len ≤ n) else none
    | _ => none
  | _ => none

def isAggC : CV → Bool
  | .agg _ => true
  | .one _ => false

/-- An entry that is put into an own map. -/
def mapPut (T : Lays) (H : Nat → Option ABlk) (E : Nat → SV) (t : TypeId) (m k x : Operand) : Option (SV × List (Nat × Option ABlk) × Prop) :=
  match T t, rd E m, keyOf (rd E k), rd E x with
  | some ⟨.map kt _, _, _, _⟩, .cv (.one (.omp b)), some (ka, kks, ks), .cv c => match keyForm T kt, H b, toIVs c.cells with
    | some (ka', kks'), some (.mp ka2 kks2 va vn dom val), some xs =>
      bif bEq ka ka' && kindsEq kks kks' && (bEq ka ka2 && kindsEq kks kks2) && (bEq (isAggC c) va && lenIs c.cells vn) then
        some (.undef, [(b, some (.mp ka kks va vn (fun k' => eqI ks k' || dom k') fun k' => bif eqI ks k' then (fun j => xs.getD j ivDef) else val k'))], need E m ∧ need E k ∧ need E x)
      else none
    | _, _, _ => none
  | _, _, _, _ => none

/-- What an operation that makes or writes memory does: a value, what blocks are behind it, what must hold. -/
def evalM (T : Lays) (nid : Nat) (H : Nat → Option ABlk) (E : Nat → SV) (o : Op) : Option (SV × List (Nat × Option ABlk) × Prop) :=
  match o with
  | .box t x => match rd E x with
    | .cv c => some (.cv (.one (.own nid 0 0 0)), [(nid, some (.var t c.cells))], need E x)
    | _ => none
  | .alloc t => match T t with
    | some L => some (.cv (.one (.own nid 0 0 0)), [(nid, some (.var t (zeros L)))], True)
    | none => none
  | .buildSlice t len parts => match T t with
    | some ⟨.sl e, _, _, _⟩ => match T e with
      | some L => bif Nat.ble (len * L.size) 16777216 && !(Nat.beq L.size 0) then match fillA E L.size (repZ L len) parts.toList with
        | some (l, p) => match toIVs l with
          | some xs => some (.cv (.one (.osl nid L.size 0 0 len true)), [(nid, some (.rows e L.size len fun i j => xs.getD (i * L.size + j) ivDef))], p)
          | none => none
        | none => none
        else none
      | none => none
    | _ => none
  | .makeSlice t l c => match T t, rd E l, rd E c with
    | some ⟨.sl e, _, _, _⟩, .cv (.one (.imm (.val (.int _ n)))), .cv (.one (.imm (.val (.int _ m)))) => match T e with
      | some L => bif Nat.beq L.size 0 then none else some (.cv (.one (.osl nid L.size 0 0 n.toNat true)), [(nid, some (.rows e L.size n.toNat fun _ j => zeroIV L j))], need E l ∧ need E c ∧ 0 ≤ n ∧ n ≤ m ∧ (L.bytes : Int) * m ≤ 281474976710656 ∧ m ≤ 9223372036854775807)
      | none => none
    | _, _, _ => none
  | .store t x y => match T t, rd E x, rd E y with
    | some L, .cv (.one (.own b e i j)), .cv c => bif lenIs c.cells L.size then match H b with
      | some (.var ty cells) => bif Nat.ble (i * e + j + L.size) cells.length then some (.undef, [(b, some (.var ty (setAt cells (i * e + j) c.cells)))], need E x ∧ need E y) else none
      | some (.rows ty e' n cell) => match toIVs c.cells with
        | some xs => bif Nat.beq e e' && Nat.ble (j + L.size) e' then
            some (.undef, [(b, some (.rows ty e' n fun i' j' => bif Nat.beq i' i && (Nat.ble j j' && Nat.blt j' (j + L.size)) then xs.getD (j' - j) ivDef else cell i' j'))], need E x ∧ need E y ∧ i < n)
          else none
        | none => none
      | _ => none
      else none
    | _, _, _ => none
  | .makeMap t none => match T t with
    | some ⟨.map k e, _, _, _⟩ => match keyForm T k, T e with
      | some (ka, kks), some L => some (.cv (.one (.omp nid)), [(nid, some (.mp ka kks (isAgg L.kind) L.size (fun _ => false) fun _ _ => ivDef))], True)
      | _, _ => none
    | _ => none
  | .mapUpdate t m k x => mapPut T H E t m k x
  | .insert t m k x => mapPut T H E t m k x
  | .call c => match c.callee, c.argTypes.toList, c.args.toList with
    | .builtin .append, [t, t'], [x, y] => match T t, rd E x, rd E y with
      | some ⟨.sl e, _, _, _⟩, .cv (.one s), .cv (.one r) => match T e, rowsOf H r with
        | some L, some (e', m, cellr, pr) => bif Nat.beq t t' && !(Nat.beq L.size 0) && Nat.beq e' L.size then match s with
          | .imm (.sl es n ex cell) => some (.cv (.one (.osl nid L.size 0 0 (n + m) true)), [(nid, some (.rows e L.size (n + m) fun i j => bif Nat.blt i n then cell i j else cellr (i - n) j))],
              need E x ∧ need E y ∧ pr ∧ (n + m) * L.bytes ≤ 140737488355328 ∧ n + m ≤ maxLen ∧ (es = L.size ∨ n = 0) ∧ ex = true ∧ (n = 0 ∨ 0 < m))
          | .osl b es 0 0 n true => match H b with
            | some (.rows ty es' n' cell) => bif Nat.beq es L.size && Nat.beq es' L.size && Nat.beq ty e then
              some (.cv (.one (.osl nid L.size 0 0 (n + m) true)), [(b, none), (nid, some (.rows e L.size (n + m) fun i j => bif Nat.blt i n then cell i j else cellr (i - n) j))],
                need E x ∧ need E y ∧ pr ∧ (n + m) * L.bytes ≤ 140737488355328 ∧ n + m ≤ maxLen ∧ n ≤ n')
              else none
            | _ => none
          | _ => none
          else none
        | _, _ => none
      | _, _, _ => none
    | _, _, _ => none
  | _ => none

section
variable {P : Program} {T : Lays} {F : Nat → Prop} {w w' : World} {μ μ' : Nat → Option Nat} {H H' : Nat → Option ABlk} {nx : Nat} {E : Nat → SV} {a : Act}

theorem BRel.mono {O O' : Nat → Prop} {k : Nat} {B : ABlk} (h : BRel w O μ k B) (hx : Ext F w O μ w' O' μ') (hk : μ' k = μ k) (hb : ∀ m, μ k = some m → w'.heap[m]? = w.heap[m]?) : BRel w' O' μ' k B := by
  cases B with
  | var ty cells =>
    obtain ⟨m, cur, hm, hw, hl⟩ := h
    exact ⟨m, cur, hk.trans hm, (hb m hm).trans hw, hl.mono hx⟩
  | rows ty e n cell =>
    rcases h with ⟨hm, hn⟩ | ⟨m, cur, hm, hw, hs, hc⟩
    · exact .inl ⟨hk.trans hm, hn⟩
    · refine .inr ⟨m, cur, hk.trans hm, (hb m hm).trans hw, hs, fun i hi j hj => ?_⟩
      obtain ⟨u, hu, hr⟩ := hc i hi j hj
      exact ⟨u, hu, hr.mono hx⟩
  | mp ka kks va vn dom val =>
    obtain ⟨m, es, clock, hm, hw, h4, h5, h6⟩ := h
    refine ⟨m, es, clock, hk.trans hm, (hb m hm).trans hw, h4, fun e he => ?_, h6⟩
    obtain ⟨ks, q1, q2, q3, cs, q4, q5, q6⟩ := h5 e he
    exact ⟨ks, q1, q2, q3, cs, q4, q5, fun j u hu => (q6 j u hu).mono hx⟩

theorem own_isSome {H : Nat → Option ABlk} {k : Nat} {B : ABlk} {m : Nat} (h : H k = some B) (hm : μ k = some m) : Own F H μ m := .inr ⟨k, by rw [h]; rfl, hm⟩

theorem frozen_same {w w' : World} {a : Addr} (h : w'.heap[a.block]? = w.heap[a.block]?) : w'.frozen? a = w.frozen? a := by
  unfold World.frozen?; rw [h]

theorem frozen_push {w w' : World} {obj : Obj} (hheap : w'.heap = w.heap.push obj) (hobj : ∀ c t fz, obj = .cells c t fz → fz = (0, 0)) (a : Addr) : w'.frozen? a = w.frozen? a := by
  by_cases h : a.block = w.heap.size
  · have e1 : w'.heap[a.block]? = some obj := by rw [hheap, h]; simp
    have e2 : w.heap[a.block]? = none := by rw [h]; simp
    unfold World.frozen?
    rw [e1, e2]
    cases obj with
    | cells c t fz => rw [hobj c t fz rfl]; simp
    | _ => rfl
  · refine frozen_same ?_
    rw [hheap, Array.getElem?_push, if_neg h]

/-- A new block. -/
theorem step_alloc (hH : HRel F w μ H nx) {obj : Obj} {B : ABlk}
    (hos : w'.os = w.os) (htape : w'.tape = w.tape) (hout : w'.output = w.output) (hheap : w'.heap = w.heap.push obj) (hobj : ∀ c t fz, obj = .cells c t fz → fz = (0, 0))
    (hB : ∀ O' μ', Ext F w (Own F H μ) μ w' O' μ' → μ' nx = some w.heap.size → BRel w' O' μ' nx B) :
    ∃ μ', Ext F w (Own F H μ) μ w' (Own F (updH H [(nx, some B)]) μ') μ' ∧ HRel F w' μ' (updH H [(nx, some B)]) (nx + 1) ∧ μ' nx = some w.heap.size := by
  have hnone : μ nx = none := by
    cases h : μ nx with
    | none => rfl
    | some m => have := (hH.lt nx m h).1; omega
  have hHn : H nx = none := by
    cases h : H nx with
    | none => rfl
    | some B' => have := (hH.blk nx B' h).1; omega
  let μ1 : Nat → Option Nat := fun k => if k = nx then some w.heap.size else μ k
  have hupd : ∀ k, updH H [(nx, some B)] k = if k = nx then some B else H k := by
    intro k
    by_cases h : k = nx
    · subst h; simp [updH]
    · have : Nat.beq k nx = false := by
        cases hb : Nat.beq k nx with
        | false => rfl
        | true => exact absurd (Nat.eq_of_beq_eq_true hb) h
      simp [updH, h, this]
  have hsz : w'.heap.size = w.heap.size + 1 := by rw [hheap]; simp
  have hold : ∀ b, b < w.heap.size → w'.heap[b]? = w.heap[b]? := by
    intro b hb; rw [hheap, Array.getElem?_push, if_neg (by omega)]
  have hown : ∀ m, Own F (updH H [(nx, some B)]) μ1 m → Own F H μ m ∨ w.heap.size ≤ m := by
    rintro m (hF | ⟨k, hk, hm⟩)
    · exact .inl (.inl hF)
    rw [hupd] at hk
    by_cases h : k = nx
    · subst h; simp only [μ1, if_true, Option.some.injEq] at hm; exact .inr (by omega)
    · simp only [h, if_false] at hk
      simp only [μ1, h, if_false] at hm
      exact .inl (.inr ⟨k, hk, hm⟩)
  have hext : Ext F w (Own F H μ) μ w' (Own F (updH H [(nx, some B)]) μ1) μ1 := by
    refine ⟨hos, htape, hout, by omega, fun b hb _ => hold b hb, fun b c t fz hb => ?_, fun k m hm => ?_, hown, fun b hb _ => hold b hb, frozen_push hheap hobj⟩
    · have hlt : b < w.heap.size := (Array.getElem?_eq_some_iff.1 hb).1
      exact ⟨c, (hold b hlt).trans hb, rfl⟩
    · simp only [μ1]
      rw [if_neg (by rintro rfl; rw [hnone] at hm; cases hm)]
      exact hm
  refine ⟨μ1, hext, ⟨fun k B' hk => ?_, fun k k' m hk hk' hm hm' => ?_, fun k m hm => ?_, fun k m hk hm hF => ?_, fun m hF => by have := hH.frn m hF; omega⟩, by simp [μ1]⟩
  rotate_right
  · rw [hupd] at hk
    have := hH.frn m hF
    by_cases h : k = nx
    · subst h; simp only [μ1, if_true, Option.some.injEq] at hm; omega
    · simp only [h, if_false] at hk; simp only [μ1, h, if_false] at hm; exact hH.dis k m hk hm hF
  · rw [hupd] at hk
    by_cases h : k = nx
    · subst h; simp only [if_true, Option.some.injEq] at hk; subst hk; exact ⟨by omega, hB _ _ hext (by simp [μ1])⟩
    · simp only [h, if_false] at hk
      obtain ⟨h1, h2⟩ := hH.blk k B' hk
      exact ⟨by omega, h2.mono hext (by simp [μ1, h]) fun m hm => hold m (hH.lt k m hm).2⟩
  · rw [hupd] at hk hk'
    by_cases h : k = nx <;> by_cases h' : k' = nx
    · omega
    · subst h; simp only [μ1, if_true, Option.some.injEq] at hm; simp only [μ1, h', if_false] at hm'; have := (hH.lt k' m hm').2; omega
    · subst h'; simp only [μ1, if_true, Option.some.injEq] at hm'; simp only [μ1, h, if_false] at hm; have := (hH.lt k m hm).2; omega
    · simp only [h, h', if_false] at hk hk'; simp only [μ1, h, h', if_false] at hm hm'; exact hH.inj k k' m hk hk' hm hm'
  · by_cases h : k = nx
    · subst h; simp only [μ1, if_true, Option.some.injEq] at hm; omega
    · simp only [μ1, h, if_false] at hm; have := hH.lt k m hm; omega

theorem HRel.more (hH : HRel F w μ H nx) {nx' : Nat} (h : nx ≤ nx') : HRel F w μ H nx' :=
  ⟨fun k B hk => ⟨Nat.lt_of_lt_of_le (hH.blk k B hk).1 h, (hH.blk k B hk).2⟩, hH.inj, fun k m hm => ⟨Nat.lt_of_lt_of_le (hH.lt k m hm).1 h, (hH.lt k m hm).2⟩, hH.dis, hH.frn⟩

/-- A block that is owned, written. -/
theorem step_write' (hH : HRel F w μ H nx) {b m : Nat} {B0 B : ABlk} (hb : H b = some B0) (hm : μ b = some m)
    (hos : w'.os = w.os) (htape : w'.tape = w.tape) (hout : w'.output = w.output) (hsz : w'.heap.size = w.heap.size) (hoth : ∀ k, k ≠ m → w'.heap[k]? = w.heap[k]?)
    (hshape : ∀ (c : Array Value) t fz, w.heap[m]? = some (.cells c t fz) → ∃ c' : Array Value, w'.heap[m]? = some (.cells c' t fz) ∧ c'.size = c.size)
    (hmap : (∀ c t fz, w.heap[m]? ≠ some (.cells c t fz)) → ∀ c t fz, w'.heap[m]? ≠ some (.cells c t fz))
    (hB : Ext F w (Own F H μ) μ w' (Own F H μ) μ → BRel w' (Own F H μ) μ b B) :
    Ext F w (Own F H μ) μ w' (Own F (updH H [(b, some B)]) μ) μ ∧ HRel F w' μ (updH H [(b, some B)]) nx := by
  have hupd : ∀ k, updH H [(b, some B)] k = if k = b then some B else H k := by
    intro k
    by_cases h : k = b
    · subst h; simp [updH]
    · have : Nat.beq k b = false := by
        cases hb : Nat.beq k b with
        | false => rfl
        | true => exact absurd (Nat.eq_of_beq_eq_true hb) h
      simp [updH, h, this]
  have howneq : Own F (updH H [(b, some B)]) μ = Own F H μ := by
    funext x
    apply propext
    constructor
    · rintro (hF | ⟨k, hk, hx⟩)
      · exact .inl hF
      rw [hupd] at hk
      by_cases h : k = b
      · subst h; exact .inr ⟨k, by rw [hb]; rfl, hx⟩
      · simp only [h, if_false] at hk; exact .inr ⟨k, hk, hx⟩
    · rintro (hF | ⟨k, hk, hx⟩)
      · exact .inl hF
      refine .inr ⟨k, ?_, hx⟩
      rw [hupd]
      by_cases h : k = b
      · simp [h]
      · simp only [h, if_false]; exact hk
  have hext : Ext F w (Own F H μ) μ w' (Own F H μ) μ := by
    refine ⟨hos, htape, hout, by omega, fun k hk hO => hoth k (fun e => hO (e ▸ own_isSome hb hm)), fun k c t fz hk => ?_, fun _ _ h => h, fun _ h => .inl h, fun k hk hF => hoth k fun e => hH.dis b m (by rw [hb]; rfl) hm (e ▸ hF), fun a => ?_⟩
    rotate_right
    · by_cases h : a.block = m
      · cases ho : w.heap[m]? with
        | none =>
          have : w'.heap[m]? = none := by
            rw [Array.getElem?_eq_none_iff] at ho ⊢
            omega
          exact frozen_same (by rw [h, ho, this])
        | some o =>
          by_cases hc : ∃ c t fz, o = .cells c t fz
          · obtain ⟨c, t, fz, rfl⟩ := hc
            obtain ⟨c', hc', _⟩ := hshape c t fz ho
            unfold World.frozen?
            rw [h, ho, hc']
          · have h1 := hmap fun c t fz e => hc ⟨c, t, fz, by rw [ho] at e; exact Option.some.inj e⟩
            unfold World.frozen?
            rw [h, ho]
            cases ho' : w'.heap[m]? with
            | none => cases o <;> first | rfl | exact absurd ⟨_, _, _, rfl⟩ hc
            | some o' =>
              cases o' with
              | cells c t fz => exact absurd ho' (h1 c t fz)
              | _ => cases o <;> first | rfl | exact absurd ⟨_, _, _, rfl⟩ hc
      · exact frozen_same (hoth _ h)
    by_cases h : k = m
    · subst h
      exact hshape c t fz hk
    · exact ⟨c, (hoth k h).trans hk, rfl⟩
  rw [howneq]
  refine ⟨hext, ⟨fun k B' hk => ?_, fun k k' m' hk hk' h1 h2 => ?_, fun k m' h1 => ?_, fun k m' hk h1 => ?_, fun m' hF => by rw [hsz]; exact hH.frn m' hF⟩⟩
  rotate_right
  · refine hH.dis k m' ?_ h1
    rw [hupd] at hk
    by_cases h : k = b
    · subst h; rw [hb]; rfl
    · simpa [h] using hk
  · rw [howneq]
    rw [hupd] at hk
    by_cases h : k = b
    · subst h; simp only [if_true, Option.some.injEq] at hk; subst hk; exact ⟨by have := (hH.blk k B0 hb).1; omega, hB hext⟩
    · simp only [h, if_false] at hk
      obtain ⟨q1, q2⟩ := hH.blk k B' hk
      refine ⟨by omega, q2.mono hext rfl fun m' hm' => hoth m' fun e => h ?_⟩
      subst e
      exact hH.inj k b m' (by rw [hk]; rfl) (by rw [hb]; rfl) hm' hm
  · rw [hupd] at hk hk'
    refine hH.inj k k' m' ?_ ?_ h1 h2
    · by_cases h : k = b
      · subst h; rw [hb]; rfl
      · simpa [h] using hk
    · by_cases h : k' = b
      · subst h; rw [hb]; rfl
      · simpa [h] using hk'
  · have := hH.lt k m' h1
    exact ⟨by omega, by rw [hsz]; exact this.2⟩

theorem step_write (hH : HRel F w μ H nx) {b m : Nat} {B0 B : ABlk} {ty : TypeId} {cur cur' : Array Value} (hb : H b = some B0) (hm : μ b = some m) (hw : w.heap[m]? = some (.cells cur ty (0, 0))) (hs : cur'.size = cur.size)
    (hB : Ext F w (Own F H μ) μ (w.setRow m cur') (Own F H μ) μ → BRel (w.setRow m cur') (Own F H μ) μ b B) :
    Ext F w (Own F H μ) μ (w.setRow m cur') (Own F (updH H [(b, some B)]) μ) μ ∧ HRel F (w.setRow m cur') μ (updH H [(b, some B)]) (nx + 1) := by
  have h := step_write' (w' := w.setRow m cur') (nx := nx) hH hb hm rfl rfl rfl (by simp) (fun k hk => setRow_other w m k cur' hk) (fun c t fz hc => by
    rw [hw] at hc
    simp only [Option.some.injEq, Obj.cells.injEq] at hc
    obtain ⟨rfl, rfl, rfl⟩ := hc
    exact ⟨cur', setRow_heap w m cur cur' ty _ hw, hs⟩) (fun h => absurd hw (h _ _ _)) hB
  exact ⟨h.1, h.2.more (by omega)⟩

theorem updH_one {k b : Nat} {B : Option ABlk} : updH H [(b, B)] k = if k = b then B else H k := by
  by_cases h : k = b
  · subst h; simp [updH]
  · have : Nat.beq k b = false := by
      cases hb : Nat.beq k b with
      | false => rfl
      | true => exact absurd (Nat.eq_of_beq_eq_true hb) h
    simp [updH, h, this]

theorem own_sub (h : ∀ k, (H' k).isSome = true → (H k).isSome = true) : ∀ m, Own F H' μ m → Own F H μ m := fun _ hm => hm.imp id fun ⟨k, hk, hm⟩ => ⟨k, h k hk, hm⟩

theorem ext_sub {F O O' : Nat → Prop} (h : ∀ m, O' m → O m) : Ext F w O μ w O' μ :=
  ⟨rfl, rfl, rfl, Nat.le_refl _, fun _ _ _ => rfl, fun _ cur _ _ h => ⟨cur, h, rfl⟩, fun _ _ h => h, fun m hm => .inl (h m hm), fun _ _ _ => rfl, fun _ => rfl⟩

/-- A block is given up. -/
theorem step_remove (hH : HRel F w μ H nx) (b : Nat) : Ext F w (Own F H μ) μ w (Own F (updH H [(b, none)]) μ) μ ∧ HRel F w μ (updH H [(b, none)]) nx := by
  have hsub : ∀ k, ((updH H [(b, none)]) k).isSome = true → (H k).isSome = true := by
    intro k hk
    rw [updH_one] at hk
    split at hk
    · cases hk
    · exact hk
  have hext := ext_sub (F := F) (w := w) (μ := μ) (own_sub (F := F) (μ := μ) hsub)
  refine ⟨hext, ⟨fun k B hk => ?_, fun k k' m hk hk' => hH.inj k k' m (hsub k hk) (hsub k' hk'), hH.lt, fun k m hk => hH.dis k m (hsub k hk), hH.frn⟩⟩
  rw [updH_one] at hk
  split at hk
  · cases hk
  · obtain ⟨h1, h2⟩ := hH.blk k B hk
    exact ⟨h1, h2.mono hext rfl fun _ _ => rfl⟩

/-- A block goes by another name. -/
theorem step_rename (hH : HRel F w μ H nx) {b : Nat} {B : ABlk} (hb : H b = some B) :
    ∃ μ', Ext F w (Own F H μ) μ w (Own F (updH H [(b, none), (nx, some B)]) μ') μ' ∧ HRel F w μ' (updH H [(b, none), (nx, some B)]) (nx + 1) ∧ μ' nx = μ b := by
  have hbn : b < nx := (hH.blk b B hb).1
  let μ1 : Nat → Option Nat := fun k => if k = nx then μ b else μ k
  have hnone : μ nx = none := by
    cases h : μ nx with
    | none => rfl
    | some m => have := (hH.lt nx m h).1; omega
  have hupd : ∀ k, updH H [(b, none), (nx, some B)] k = if k = nx then some B else if k = b then none else H k := by
    intro k
    show updH (updH H [(b, none)]) [(nx, some B)] k = _
    rw [updH_one, updH_one]
  have hown : ∀ m, Own F (updH H [(b, none), (nx, some B)]) μ1 m → Own F H μ m := by
    rintro m (hF | ⟨k, hk, hm⟩)
    · exact .inl hF
    rw [hupd] at hk
    by_cases h : k = nx
    · subst h; simp only [μ1, if_true] at hm; exact own_isSome hb hm
    · simp only [h, if_false] at hk
      simp only [μ1, h, if_false] at hm
      by_cases h' : k = b
      · simp [h'] at hk
      · simp only [h', if_false] at hk; exact .inr ⟨k, hk, hm⟩
  have hext : Ext F w (Own F H μ) μ w (Own F (updH H [(b, none), (nx, some B)]) μ1) μ1 := by
    refine ⟨rfl, rfl, rfl, Nat.le_refl _, fun _ _ _ => rfl, fun _ cur _ _ h => ⟨cur, h, rfl⟩, fun k m hm => ?_, fun m hm => .inl (hown m hm), fun _ _ _ => rfl, fun _ => rfl⟩
    simp only [μ1]
    rw [if_neg (by rintro rfl; rw [hnone] at hm; cases hm)]
    exact hm
  refine ⟨μ1, hext, ⟨fun k B' hk => ?_, fun k k' m hk hk' hm hm' => ?_, fun k m hm => ?_, fun k m hk hm => ?_, hH.frn⟩, by simp [μ1]⟩
  rotate_right
  · rw [hupd] at hk
    by_cases h : k = nx
    · subst h; simp only [μ1, if_true] at hm; exact hH.dis b m (by rw [hb]; rfl) hm
    · simp only [h, if_false] at hk
      simp only [μ1, h, if_false] at hm
      by_cases h' : k = b
      · simp [h'] at hk
      · simp only [h', if_false] at hk; exact hH.dis k m hk hm
  · rw [hupd] at hk
    by_cases h : k = nx
    · subst h
      simp only [if_true, Option.some.injEq] at hk
      subst hk
      refine ⟨by omega, ?_⟩
      have hR := (hH.blk b B hb).2
      have hmo := hR.mono (μ' := μ1) hext (by simp only [μ1]; rw [if_neg (by omega)]) fun _ _ => rfl
      cases B with
      | var ty cells =>
        obtain ⟨m, cur, hm, hrest⟩ := hmo
        exact ⟨m, cur, by simp only [μ1] at hm ⊢; rw [if_neg (by omega)] at hm; simpa using hm, hrest⟩
      | rows ty e n cell =>
        rcases hmo with ⟨hm, hn⟩ | ⟨m, cur, hm, hrest⟩
        · exact .inl ⟨by simp only [μ1] at hm ⊢; rw [if_neg (by omega)] at hm; simpa using hm, hn⟩
        · exact .inr ⟨m, cur, by simp only [μ1] at hm ⊢; rw [if_neg (by omega)] at hm; simpa using hm, hrest⟩
      | mp ka kks va vn dom val =>
        obtain ⟨m, es, clock, hm, hrest⟩ := hmo
        exact ⟨m, es, clock, by simp only [μ1] at hm ⊢; rw [if_neg (by omega)] at hm; simpa using hm, hrest⟩
    · simp only [h, if_false] at hk
      by_cases h' : k = b
      · simp [h'] at hk
      · simp only [h', if_false] at hk
        obtain ⟨h1, h2⟩ := hH.blk k B' hk
        exact ⟨by omega, h2.mono hext (by simp [μ1, h]) fun _ _ => rfl⟩
  · rw [hupd] at hk hk'
    have aux : ∀ k, (if k = nx then some B else if k = b then none else H k).isSome = true → μ1 k = some m → ∃ k0, (H k0).isSome = true ∧ μ k0 = some m ∧ (k = nx ∧ k0 = b ∨ k ≠ nx ∧ k ≠ b ∧ k0 = k) := by
      intro k hk hm
      by_cases h : k = nx
      · subst h; simp only [μ1, if_true] at hm; exact ⟨b, by rw [hb]; rfl, hm, .inl ⟨rfl, rfl⟩⟩
      · simp only [h, if_false] at hk
        simp only [μ1, h, if_false] at hm
        by_cases h' : k = b
        · simp [h'] at hk
        · simp only [h', if_false] at hk; exact ⟨k, hk, hm, .inr ⟨h, h', rfl⟩⟩
    obtain ⟨k0, q1, q2, q3⟩ := aux k hk hm
    obtain ⟨k0', q1', q2', q3'⟩ := aux k' hk' hm'
    have := hH.inj k0 k0' m q1 q1' q2 q2'
    omega
  · by_cases h : k = nx
    · subst h; simp only [μ1, if_true] at hm; have := hH.lt b m hm; omega
    · simp only [μ1, h, if_false] at hm; have := hH.lt k m hm; omega

/-- A block is told of in other words. -/
theorem step_replace (hH : HRel F w μ H nx) {b : Nat} {B0 B : ABlk} (hb : H b = some B0) (hB : BRel w (Own F H μ) μ b B) :
    Ext F w (Own F H μ) μ w (Own F (updH H [(b, some B)]) μ) μ ∧ HRel F w μ (updH H [(b, some B)]) nx := by
  have hiff : ∀ k, ((updH H [(b, some B)]) k).isSome = (H k).isSome := by
    intro k
    rw [updH_one]
    split
    · rename_i h; subst h; rw [hb]; rfl
    · rfl
  have hext := ext_sub (F := F) (w := w) (μ := μ) (own_sub (F := F) (H' := updH H [(b, some B)]) (H := H) (μ := μ) fun k hk => by rw [hiff] at hk; exact hk)
  refine ⟨hext, ⟨fun k B' hk => ?_, fun k k' m hk hk' => hH.inj k k' m (by rw [hiff] at hk; exact hk) (by rw [hiff] at hk'; exact hk'), hH.lt, fun k m hk => hH.dis k m (by rw [hiff] at hk; exact hk), hH.frn⟩⟩
  rw [updH_one] at hk
  split at hk
  · rename_i h
    subst h
    simp only [Option.some.injEq] at hk
    subst hk
    exact ⟨(hH.blk k B0 hb).1, hB.mono hext rfl fun _ _ => rfl⟩
  · obtain ⟨h1, h2⟩ := hH.blk k B' hk
    exact ⟨h1, h2.mono hext rfl fun _ _ => rfl⟩

/-- A slice of no rows that has no block of its own. -/
theorem step_absent (hH : HRel F w μ H nx) {ty e : Nat} {cell : Nat → Nat → IV} :
    Ext F w (Own F H μ) μ w (Own F (updH H [(nx, some (.rows ty e 0 cell))]) μ) μ ∧ HRel F w μ (updH H [(nx, some (.rows ty e 0 cell))]) (nx + 1) := by
  have hnone : μ nx = none := by
    cases h : μ nx with
    | none => rfl
    | some m => have := (hH.lt nx m h).1; omega
  have hown : ∀ m, Own F (updH H [(nx, some (.rows ty e 0 cell))]) μ m → Own F H μ m := by
    rintro m (hF | ⟨k, hk, hm⟩)
    · exact .inl hF
    rw [updH_one] at hk
    split at hk
    · rename_i h; subst h; rw [hnone] at hm; cases hm
    · exact .inr ⟨k, hk, hm⟩
  have hext := ext_sub (F := F) (w := w) (μ := μ) hown
  refine ⟨hext, ⟨fun k B' hk => ?_, fun k k' m hk hk' hm hm' => ?_, fun k m hm => ?_, fun k m hk hm => ?_, hH.frn⟩⟩
  rotate_right
  · rw [updH_one] at hk
    split at hk
    · rename_i h; subst h; rw [hnone] at hm; cases hm
    · exact hH.dis k m hk hm
  · rw [updH_one] at hk
    split at hk
    · rename_i h; subst h; simp only [Option.some.injEq] at hk; subst hk; exact ⟨by omega, .inl ⟨hnone, rfl⟩⟩
    · obtain ⟨h1, h2⟩ := hH.blk k B' hk
      exact ⟨by omega, h2.mono hext rfl fun _ _ => rfl⟩
  · have aux : ∀ k, ((updH H [(nx, some (.rows ty e 0 cell))]) k).isSome = true → μ k = some m → (H k).isSome = true := by
      intro k hk hm
      rw [updH_one] at hk
      split at hk
      · rename_i h; subst h; rw [hnone] at hm; cases hm
      · exact hk
    exact hH.inj k k' m (aux k hk hm) (aux k' hk' hm') hm hm'
  · have := hH.lt k m hm; omega
end
end Go.Proofs.Ytndfcbcmeeemfaa.Abs
