/-
  WHAT THE EVALUATOR ANSWERS FOR AN OPERATION THAT CHANGES NO MEMORY IS WHAT THE MODEL YIELDS. Over any program whose types the table of layouts tells.
-/
import Derived.Test.YtndfcbcmeeemfaaA1
namespace Go.Proofs.Ytndfcbcmeeemfaa.Abs
open Go

section lay
variable {P : Program}

theorem lay_info {t : TypeId} {x : Lay} (h : LayOk1 P t x) : ∃ i d, P.info? t = some i ∧ i.size = x.size ∧ i.bytes = x.bytes ∧ (∃ z, i.zero = some z ∧ z.cells.toList = x.zero) ∧ P.underlying t = some d ∧ kindOf d = x.kind := by
  obtain ⟨h1, h2⟩ := h
  rw [Option.map_eq_some_iff] at h1 h2
  obtain ⟨i, hi, he⟩ := h1
  obtain ⟨d, hd, hk⟩ := h2
  simp only [Prod.mk.injEq] at he
  obtain ⟨e1, e2, e3⟩ := he
  rw [Option.map_eq_some_iff] at e3
  exact ⟨i, d, hi, e1, e2, e3, hd, hk⟩

theorem run_isAgg {t : TypeId} {x : Lay} (h : LayOk1 P t x) (w : World) : (Go.isAgg t).run P w = .ok (isAgg x.kind) w := by
  obtain ⟨i, d, _, _, _, _, hd, hk⟩ := lay_info h
  rw [← hk]
  unfold Go.isAgg
  cases d <;> simp [run_underlying hd, kindOf, isAgg]

theorem run_sizeOf {t : TypeId} {x : Lay} (h : LayOk1 P t x) (w : World) : (sizeOf t).run P w = .ok x.size w := by
  obtain ⟨i, d, hi, hs, _, _, _, _⟩ := lay_info h
  simp [sizeOf, typeInfo, hi, hs]

theorem under_sl {t e : TypeId} {s b : Nat} {z : List Value} (h : LayOk1 P t ⟨.sl e, s, b, z⟩) : P.underlying t = some (.slice e) := by
  obtain ⟨i, d, _, _, _, _, hd, hk⟩ := lay_info h
  cases d <;> simp [kindOf] at hk
  subst hk; exact hd

theorem under_arr {t e : TypeId} {n s b : Nat} {z : List Value} (h : LayOk1 P t ⟨.arr n e, s, b, z⟩) : P.underlying t = some (.array n e) := by
  obtain ⟨i, d, _, _, _, _, hd, hk⟩ := lay_info h
  cases d <;> simp [kindOf] at hk
  obtain ⟨rfl, rfl⟩ := hk; exact hd

theorem under_int {t : TypeId} {k : IntKind} {s b : Nat} {z : List Value} (h : LayOk1 P t ⟨.int k, s, b, z⟩) : P.underlying t = some (.int k) := by
  obtain ⟨i, d, _, _, _, _, hd, hk⟩ := lay_info h
  cases d <;> simp [kindOf] at hk
  subst hk; exact hd

theorem under_str {t : TypeId} {s b : Nat} {z : List Value} (h : LayOk1 P t ⟨.str, s, b, z⟩) : P.underlying t = some .string := by
  obtain ⟨i, d, _, _, _, _, hd, hk⟩ := lay_info h
  cases d <;> simp [kindOf] at hk
  exact hd

theorem under_st {t : TypeId} {fs : List (Nat × TypeId)} {s b : Nat} {z : List Value} (h : LayOk1 P t ⟨.st fs, s, b, z⟩) : ∃ fields : Array Field, P.underlying t = some (.struct fields) ∧ (fields.toList.map fun f => (f.offset, f.type)) = fs := by
  obtain ⟨i, d, _, _, _, _, hd, hk⟩ := lay_info h
  cases d <;> simp [kindOf] at hk
  exact ⟨_, hd, by simpa using hk⟩
end lay

section
variable {P : Program} {T : Lays} {F : Nat → Prop} {w : World} {O : Nat → Prop} {μ : Nat → Option Nat} {E : Nat → SV} {a : Act}

/-- What is in the slots is what the abstract environment tells. -/
def ERel (w : World) (O : Nat → Prop) (μ : Nat → Option Nat) (E : Nat → SV) (a : Act) : Prop := ∀ t, SRel w O μ (E t) (a.tmps.getD t Go.undef)

theorem ivOf_rel {u : Value} (h : One u) : IRel w O (ivOf u) u := by
  unfold ivOf
  split
  · exact .inl ⟨⟨none, rfl⟩, rfl⟩
  · exact ⟨rfl, h⟩

theorem LRel.vals {cs : List Value} (h : ∀ u ∈ cs, One u) : LRel w O μ (cs.map fun u => .imm (ivOf u)) cs := by
  refine ⟨by simp, fun i x u h1 h2 => ?_⟩
  simp only [List.getElem?_map, h2, Option.map_some, Option.some.injEq] at h1
  subst h1
  exact ivOf_rel (h u (List.mem_of_getElem? h2))

theorem evConst_sound (v : Value) : SRel w O μ (evConst v) v := by
  unfold evConst
  split
  · rename_i cs
    cases hc : cs.toList.all (·.oneCell')
    · trivial
    · rw [List.all_eq_true] at hc
      exact ⟨cs.toList, by simp, LRel.vals hc⟩
  · trivial
  · rename_i h1 h2
    refine ivOf_rel ?_
    cases v <;> first | rfl | (exact absurd rfl (h1 _)) | (exact absurd rfl (h2 _))

theorem evS_sound (hE : ERel w O μ E a) (x : Operand) : SRel w O μ (evS E x) (a.eval x) := by
  cases x with
  | tmp t => exact hE t
  | const v => exact evConst_sound v
  | global g => trivial
  | func f => exact ⟨[], [], rfl, rfl, rfl, fun i u h => by simp at h, fun i u h => by simp at h⟩

theorem rd_sound (hE : ERel w O μ E a) (x : Operand) (hn : need E x) : SRel w O μ (rd E x) (a.eval x) := by
  have h := evS_sound hE x
  unfold rd
  unfold need at hn
  cases hs : evS E x with
  | gd c s =>
    rw [hs] at h hn
    have hc : c = true := hn
    unfold SRel at h
    rw [if_pos hc] at h
    exact h
  | undef => trivial
  | cv x => rw [hs] at h; exact h
  | tup l => rw [hs] at h; exact h

theorem rd_one {x : Operand} {y : AV} (hE : ERel w O μ E a) (h : rd E x = .cv (.one y)) (hn : need E x) : ARel w O μ y (a.eval x) := by
  have := rd_sound hE x hn; rw [h] at this; exact this
theorem rd_val {x : Operand} {v : Value} (hE : ERel w O μ E a) (h : rd E x = .cv (.one (.imm (.val v)))) (hn : need E x) : a.eval x = v := (rd_one hE h hn).1
theorem rd_cv {x : Operand} {c : CV} (hE : ERel w O μ E a) (h : rd E x = .cv c) (hn : need E x) : CRel w O μ c (a.eval x) := by
  have := rd_sound hE x hn; rw [h] at this; exact this
theorem rd_tup {x : Operand} {l : List CV} (hE : ERel w O μ E a) (h : rd E x = .tup l) (hn : need E x) : ∃ vs : List Value, a.eval x = .tuple vs.toArray ∧ TRel w O μ l vs := by
  have := rd_sound hE x hn; rw [h] at this; exact this

theorem lenIs_eq : ∀ (l : List AV) (n : Nat), lenIs l n = true → l.length = n
  | [], 0, _ => rfl
  | [], n + 1, h => by simp [lenIs] at h
  | _ :: l, 0, h => by simp [lenIs] at h
  | _ :: l, n + 1, h => by simp [lenIs] at h; simp [lenIs_eq l n h]

theorem mk_sound {b : Bool} {l : List AV} {c : CV} {cs : List Value} (h : mk b l = some c) (hl : LRel w O μ l cs) : ∃ v, CRel w O μ c v ∧ ((b = true ∧ v = .agg cs.toArray) ∨ (b = false ∧ cs = [v])) := by
  unfold mk at h
  cases b with
  | true => simp at h; subst h; exact ⟨.agg cs.toArray, ⟨cs, rfl, hl⟩, .inl ⟨rfl, rfl⟩⟩
  | false =>
    simp only [cond_false] at h
    split at h
    · rename_i x
      cases h
      obtain ⟨hlen, hr⟩ := hl
      match cs, hlen with
      | [v], _ => exact ⟨v, hr 0 x v rfl rfl, .inr ⟨rfl, rfl⟩⟩
    · cases h

theorem ofFn_get (n : Nat) (f : Nat → AV) (i : Nat) : (ofFn n f)[i]? = if i < n then some (f i) else none := by
  simp only [ofFn, List.getElem?_map]
  by_cases h : i < n
  · simp [h]
  · simp [h]

theorem ofFn_length (n : Nat) (f : Nat → AV) : (ofFn n f).length = n := by simp [ofFn]

/-- Cells that are read one by one are a list. -/
theorem collect {α : Type} (n : Nat) (p : Nat → α → Prop) (h : ∀ j, j < n → ∃ u, p j u) : ∃ cs : List α, cs.length = n ∧ ∀ (j : Nat) u, cs[j]? = some u → p j u := by
  induction n with
  | zero => exact ⟨[], rfl, fun j u hu => by simp at hu⟩
  | succ n ih =>
    obtain ⟨cs, hl, hc⟩ := ih fun j hj => h j (by omega)
    obtain ⟨u, hu⟩ := h n (by omega)
    refine ⟨cs ++ [u], by simp [hl], fun j v hv => ?_⟩
    rw [List.getElem?_append] at hv
    split at hv
    · exact hc j v hv
    · rename_i hlt
      have : j = n := by
        rcases Nat.lt_or_ge j (n + 1) with h1 | h1
        · omega
        · rw [List.getElem?_eq_none (by simp; omega)] at hv; cases hv
      subst this
      simp [hl] at hv
      exact hv ▸ hu

theorem loadAt_sound {H : Nat → Option ABlk} {nx : Nat} (hH : HRel F w μ H nx) {p : AV} {v : Value} {size : Nat} {l : List AV} {q : Prop}
    (hp : ARel w (Own F H μ) μ p v) (h : loadAt H p size = some (l, q)) (hq : q) :
    ∃ b o, v = .pointer (some ⟨b, o, none⟩) ∧ ∃ cs : List Value, cs.length = size ∧ LRel w (Own F H μ) μ l cs ∧ ∀ (j : Nat) u, cs[j]? = some u → w.cell? ⟨b, o + j, none⟩ = some u := by
  cases p with
  | own b e i j =>
    obtain ⟨m, hm, rfl⟩ := hp
    simp only [loadAt] at h
    cases hB : H b with
    | none => rw [hB] at h; cases h
    | some B =>
      rw [hB] at h
      obtain ⟨_, hR⟩ := hH.blk b B hB
      cases B with
      | var ty cells =>
        obtain ⟨m', cur, hm', hw, hl⟩ := hR
        obtain rfl : m' = m := by rw [hm] at hm'; exact (Option.some.inj hm').symm
        simp only at h
        cases hlen : lenIs ((cells.drop (i * e + j)).take size) size with
        | false => rw [hlen] at h; simp at h
        | true =>
          rw [hlen] at h; simp at h
          obtain ⟨rfl, _⟩ := h
          refine ⟨m', i * e + j, rfl, (cur.toList.drop (i * e + j)).take size, ?_, (hl.drop _).take _, fun k u hu => ?_⟩
          · have := lenIs_eq _ _ hlen
            have h2 := hl.1
            simp only [List.length_take, List.length_drop] at this ⊢
            omega
          · rw [List.getElem?_take] at hu
            split at hu
            · rw [List.getElem?_drop] at hu
              simp only [World.cell?, hw]
              simpa using hu
            · cases hu
      | mp => simp at h
      | rows ty e' n cell =>
        simp only at h
        cases hc : (Nat.beq e e' && Nat.ble (j + size) e') with
        | false => rw [hc] at h; simp at h
        | true =>
          rw [hc] at h; simp at h
          obtain ⟨rfl, hiff⟩ := h
          have hq : i < n := hiff.2 hq
          simp only [Bool.and_eq_true] at hc
          obtain ⟨he, hj⟩ := hc
          have he := Nat.eq_of_beq_eq_true he
          have hj := Nat.le_of_ble_eq_true hj
          subst he
          rcases hR with ⟨_, hn⟩ | ⟨m', cur, hm', hw, _, hcell⟩
          · omega
          obtain rfl : m' = m := by rw [hm] at hm'; exact (Option.some.inj hm').symm
          obtain ⟨cs, hl, hcs⟩ := collect size (fun k u => cur[i * e + (j + k)]? = some u ∧ IRel w (Own F H μ) (cell i (j + k)) u) fun k hk => hcell i hq (j + k) (by omega)
          refine ⟨m', i * e + j, rfl, cs, hl, ⟨by rw [ofFn_length]; exact hl, fun k x u hx hu => ?_⟩, fun k u hu => ?_⟩
          · rw [ofFn_get] at hx
            split at hx
            · cases hx; exact (hcs k u hu).2
            · cases hx
          · have := (hcs k u hu).1
            simp only [World.cell?, hw]
            simpa [Nat.add_assoc] using this
  | vptr n cell =>
    obtain ⟨b, o, rfl, _, _, hcell⟩ := hp
    simp only [loadAt] at h
    cases hc : Nat.ble size n with
    | false => rw [hc] at h; simp at h
    | true =>
      rw [hc] at h; simp at h
      obtain ⟨rfl, _⟩ := h
      have hc := Nat.le_of_ble_eq_true hc
      obtain ⟨cs, hl, hcs⟩ := collect size (fun k u => w.cell? ⟨b, o + k, none⟩ = some u ∧ IRel w (Own F H μ) (cell k) u) fun k hk => hcell k (by omega)
      refine ⟨b, o, rfl, cs, hl, ⟨by rw [ofFn_length]; exact hl, fun k x u hx hu => ?_⟩, fun k u hu => (hcs k u hu).1⟩
      rw [ofFn_get] at hx
      split at hx
      · cases hx; exact (hcs k u hu).2
      · cases hx
  | imm x => simp [loadAt] at h
  | osl b e r j len app => simp [loadAt] at h
  | omp b => simp [loadAt] at h
  | fn f nf first nc caps => simp [loadAt] at h
end
end Go.Proofs.Ytndfcbcmeeemfaa.Abs
