/-
  OPERATIONS THAT MAKE OR WRITE MEMORY (2): operation by operation.
-/
import Derived.Test.YtndfcbcmeeemfaaA6
import Derived.Laws.MakeOwn
namespace Go.Proofs.Ytndfcbcmeeemfaa.Abs
open Go

section
variable {P : Program} {T : Lays} {F : Nat → Prop} {w : World} {μ : Nat → Option Nat} {H : Nat → Option ABlk} {nx : Nat} {E : Nat → SV} {a : Act}

/-- An operation does its work: a value (or none), a later world, in which the state is related. -/
def Does (P : Program) (F : Nat → Prop) (w : World) (H : Nat → Option ABlk) (μ : Nat → Option Nat) (_nx : Nat) (a : Act) (o : Oper) (x : SV) (H' : Nat → Option ABlk) (nx' : Nat) : Prop :=
  ∃ v w' μ', ((execOp a.eval o).run P w = .ok (.value v) w' ∨ ((execOp a.eval o).run P w = .ok .skip w' ∧ v = Go.undef)) ∧ Ext F w (Own F H μ) μ w' (Own F H' μ') μ' ∧ HRel F w' μ' H' nx' ∧ SRel w' (Own F H' μ') μ' x v

theorem does_box {o : Oper} {t : TypeId} {x : Operand} {c : CV} (hH : HRel F w μ H nx) (hE : ERel w (Own F H μ) μ E a) (ho : o.op = .box t x) (hx : rd E x = .cv c) (hn : need E x) :
    Does P F w H μ nx a o (.cv (.one (.own nx 0 0 0))) (updH H [(nx, some (.var t c.cells))]) (nx + 1) := by
  have hc := rd_cv hE hx hn
  obtain ⟨μ', h1, h2, h3⟩ := step_alloc (w := w) (w' := w.alloc (.cells (a.eval x).cells t)) (B := .var t c.cells) hH rfl rfl rfl rfl (fun c t fz h => by cases h; rfl) fun O' μ' hext hm =>
    ⟨w.heap.size, (a.eval x).cells, hm, heap_alloc_new w _, (CRel.cells hc).mono hext⟩
  exact ⟨.pointer (some ⟨w.heap.size, 0, none⟩), _, μ', .inl (by simp [execOp, ho, Instr.box, newVar, newRow]), h1, h2, ⟨w.heap.size, h3, by simp⟩⟩

theorem does_alloc {o : Oper} {t : TypeId} {L : Lay} (hT : LayOk P T) (hZ : ZeroOk T) (hH : HRel F w μ H nx) (ho : o.op = .alloc t) (hL : T t = some L) :
    Does P F w H μ nx a o (.cv (.one (.own nx 0 0 0))) (updH H [(nx, some (.var t (zeros L)))]) (nx + 1) := by
  obtain ⟨z, hz, hc⟩ := run_zeroValue (hT t L hL) w
  obtain ⟨μ', h1, h2, h3⟩ := step_alloc (w := w) (w' := w.alloc (.cells z.cells t)) (B := .var t (zeros L)) hH rfl rfl rfl rfl (fun c t fz h => by cases h; rfl) fun O' μ' hext hm =>
    ⟨w.heap.size, z.cells, hm, heap_alloc_new w _, by rw [hc]; exact zeros_rel (hT t L hL) (hZ t L hL)⟩
  refine ⟨.pointer (some ⟨w.heap.size, 0, none⟩), _, μ', .inl ?_, h1, h2, ⟨w.heap.size, h3, by simp⟩⟩
  simp [execOp, ho, Instr.alloc, hz, newVar, newRow]

theorem toIVs_get : ∀ (l : List AV) (xs : List IV), toIVs l = some xs → xs.length = l.length ∧ ∀ (i : Nat) x, l[i]? = some x → ∃ y, xs[i]? = some y ∧ x = .imm y
  | [], xs, h => by simp [toIVs] at h; subst h; exact ⟨rfl, fun i x hx => by simp at hx⟩
  | x :: l, xs, h => by
    simp only [toIVs] at h
    split at h
    · rename_i y ys hy hys
      cases h
      obtain ⟨h1, h2⟩ := toIVs_get l ys hys
      refine ⟨by simp [h1], fun i z hz => ?_⟩
      cases i with
      | zero =>
        simp at hz; subst hz
        cases x <;> simp [toIV] at hy
        subst hy
        exact ⟨_, rfl, rfl⟩
      | succ i => simp at hz; simpa using h2 i z hz
    · cases h

/-- Cells of immutable data, read by place. -/
theorem toIVs_rel {O : Nat → Prop} {l : List AV} {xs : List IV} {cs : List Value} (h : toIVs l = some xs) (hl : LRel w O μ l cs) (k : Nat) (hk : k < cs.length) : ∃ u, cs[k]? = some u ∧ IRel w O (xs.getD k ivDef) u := by
  obtain ⟨h1, h2⟩ := toIVs_get l xs h
  have hkl : k < l.length := by rw [← hl.1]; exact hk
  obtain ⟨y, hy, hxy⟩ := h2 k l[k] (List.getElem?_eq_getElem hkl)
  refine ⟨cs[k], List.getElem?_eq_getElem hk, ?_⟩
  have hr := hl.2 k l[k] cs[k] (List.getElem?_eq_getElem hkl) (List.getElem?_eq_getElem hk)
  rw [hxy] at hr
  rw [List.getD_eq_getElem?_getD, hy]
  exact hr

theorem repZ_rel {O : Nat → Prop} {L : Lay} {z : List Value} (hz : LRel w O μ (zeros L) z) : ∀ n, LRel w O μ (repZ L n) (List.replicate n z).flatten
  | 0 => LRel.nil
  | n + 1 => by
    rw [List.replicate_succ, List.flatten_cons]
    exact hz.append (repZ_rel hz n)

theorem range_mod (z : List Value) (n : Nat) (hz : 0 < z.length) : ((Array.range (n * z.length)).map (z.toArray[· % z.toArray.size]!)).toList = (List.replicate n z).flatten := by
  apply List.ext_getElem?
  intro i
  simp only [Array.toList_map, Array.toList_range, List.getElem?_map, List.size_toArray]
  by_cases hi : i < n * z.length
  · rw [List.getElem?_range hi]
    have hmod : i % z.length < z.length := Nat.mod_lt _ hz
    simp only [Option.map_some]
    have : (List.replicate n z).flatten[i]? = z[i % z.length]? := by
      clear hmod
      induction n generalizing i with
      | zero => omega
      | succ n ih =>
        rw [List.replicate_succ, List.flatten_cons, List.getElem?_append]
        by_cases hlt : i < z.length
        · rw [if_pos hlt, Nat.mod_eq_of_lt hlt]
        · rw [if_neg hlt, ih (i - z.length) (by rw [Nat.succ_mul] at hi; omega)]
          have : i % z.length = (i - z.length) % z.length := by rw [Nat.mod_eq_sub_mod (by omega)]
          rw [this]
    rw [this, List.getElem?_eq_getElem hmod]
    simp [getElem!_pos, hmod]
  · rw [List.getElem?_eq_none (by simp; omega), Option.map_none]
    symm
    apply List.getElem?_eq_none
    simp
    omega

theorem zero_len {t : TypeId} {L : Lay} (hT : LayOk1 P t L) (h : ∀ i, P.info? t = some i → ∀ z, i.zero = some z → z.cells.size = i.size) : L.zero.length = L.size := by
  obtain ⟨i, d, hi, hs, _, ⟨z, hz, hc⟩, _, _⟩ := lay_info hT
  have := h i hi z hz
  rw [← hc, Array.length_toList, this, hs]

/-- The table's zero values have as many cells as the type. -/
def SizeOk (T : Lays) : Prop := ∀ t x, T t = some x → x.zero.length = x.size

theorem does_buildSlice {o : Oper} {t e : TypeId} {len : Nat} {parts : Array (Nat × Operand)} {s b : Nat} {z : List Value} {L : Lay} {l : List AV} {p : Prop} {xs : List IV} (hT : LayOk P T) (hZ : ZeroOk T) (hS : SizeOk T) (hH : HRel F w μ H nx) (hE : ERel w (Own F H μ) μ E a)
    (ho : o.op = .buildSlice t len parts) (hL : T t = some ⟨.sl e, s, b, z⟩) (hF : T e = some L) (hsm : len * L.size ≤ 16777216) (h0 : L.size ≠ 0)
    (hf : fillA E L.size (repZ L len) parts.toList = some (l, p)) (hx : toIVs l = some xs) (hp : p) :
    Does P F w H μ nx a o (.cv (.one (.osl nx L.size 0 0 len true))) (updH H [(nx, some (.rows e L.size len fun i j => xs.getD (i * L.size + j) ivDef))]) (nx + 1) := by
  have hu := under_sl (hT t _ hL)
  have hsz := run_sizeOf (hT e L hF) w
  obtain ⟨zv, hzr, hzc⟩ := run_zeroValue (hT e L hF) w
  have hzl := hS e L hF
  have hz1 := zeros_rel (O := Own F H μ) (μ := μ) (w := w) (hT e L hF) (hZ e L hF)
  obtain ⟨r, hr, hl⟩ := fillA_sound hE parts.toList _ _ l p (repZ_rel hz1 len) hf hp
  -- the length of what is filled
  have hlen : ∀ (ps : List (Nat × Value)) (cs r : Array Value), Instr.fill (fun i => some (i * L.size, L.size)) cs ps = some r → r.size = cs.size := by
    intro ps
    induction ps with
    | nil => intro cs r h; simp [Instr.fill] at h; subst h; rfl
    | cons q ps ih =>
      intro cs r h
      obtain ⟨i, v⟩ := q
      simp only [Instr.fill] at h
      by_cases hc : v.cells.size ≠ L.size ∨ i * L.size + v.cells.size > cs.size
      · rw [if_pos (by simp only [Bool.or_eq_true, decide_eq_true_eq]; exact hc)] at h; cases h
      · rw [if_neg (by simp only [Bool.or_eq_true, decide_eq_true_eq]; exact hc)] at h
        have := ih _ r h
        rw [this]
        have hge : i * L.size + v.cells.size ≤ cs.size := by
          rcases Nat.lt_or_ge cs.size (i * L.size + v.cells.size) with h' | h'
          · exact absurd (.inr h') hc
          · exact h'
        have hh := congrArg List.length (foldl_set v.cells.toList 0 (i * L.size) cs (by simpa using hge))
        rw [← Array.foldl_toList, Array.toList_zipIdx, ← Array.length_toList (xs := List.foldl _ _ _), hh]
        simp
        omega
  have hrs : r.length = len * L.size := by
    have := hlen _ _ _ hr
    simp only [List.size_toArray] at this
    rw [this]
    simp [hzl]
  have hrun : (execOp a.eval o).run P w = .ok (.value (.slice (some ⟨w.heap.size, 0, none⟩) len len)) (w.alloc (.cells r.toArray e)) := by
    have hfill : Instr.fill (fun i => some (i * L.size, L.size)) ((Array.range (len * L.size)).map (zv.cells[· % zv.cells.size]!)) (parts.map fun (i, x) => (i, a.eval x)).toList = some r.toArray := by
      rw [Array.toList_map, ← hr]
      congr 1
      apply Array.toList_inj.1
      rw [hzc]
      have := range_mod L.zero len (by rw [hzl]; omega)
      rw [hzl] at this
      simpa [hzl] using this
    by_cases hz0 : len * L.size = 0
    · have hr0 : r = [] := List.eq_nil_of_length_eq_zero (by rw [hrs, hz0])
      subst hr0
      have hsm' : ¬ (len * L.size > 2 ^ 24) := by omega
      have e0 : ((Array.range (len * L.size)).map (zv.cells[· % zv.cells.size]!)) = #[] := by rw [hz0, Array.range_zero']; exact Array.map_empty
      rw [e0] at hfill
      have e1 : ((Array.range (len * L.size)).map ((#[] : Array Value)[· % (#[] : Array Value).size]!)) = #[] := by rw [hz0, Array.range_zero']; exact Array.map_empty
      simp only [execOp, ho, Instr.buildSlice, Sem.run_bind, run_underlying hu, Result.andThen_ok, hsz, Sem.run_ite, hsm', if_false, Sem.run_pure, if_pos hz0, e1, hfill, newRow, run_newObj]
      rfl
    · have hsm' : ¬ (len * L.size > 2 ^ 24) := by omega
      simp only [execOp, ho, Instr.buildSlice, Sem.run_bind, run_underlying hu, Result.andThen_ok, hsz, Sem.run_ite, hsm', if_false, Sem.run_pure, hz0, hzr, hfill, newRow, run_newObj]
      rfl
  obtain ⟨μ', h1, h2, h3⟩ := step_alloc (w := w) (w' := w.alloc (.cells r.toArray e)) (B := .rows e L.size len fun i j => xs.getD (i * L.size + j) ivDef) hH rfl rfl rfl rfl (fun c t fz h => by cases h; rfl) fun O' μ' hext hm => by
    refine .inr ⟨w.heap.size, r.toArray, hm, heap_alloc_new w _, by simp [hrs], fun i hi j hj => ?_⟩
    have hk : i * L.size + j < r.length := by
      rw [hrs]
      calc i * L.size + j < i * L.size + L.size := by omega
        _ = (i + 1) * L.size := by rw [Nat.succ_mul]
        _ ≤ len * L.size := Nat.mul_le_mul_right _ hi
    obtain ⟨u, hu1, hu2⟩ := toIVs_rel hx hl _ hk
    exact ⟨u, by simpa using hu1, hu2.mono hext⟩
  refine ⟨_, _, μ', .inl hrun, h1, h2, .inr ⟨w.heap.size, len, h3, by simp, Nat.le_refl _, ?_, fun _ => ⟨rfl, rfl, r.toArray, e, heap_alloc_new w _, by simp [hrs]⟩⟩⟩
  have : len ≤ len * L.size := Nat.le_mul_of_pos_right _ (by omega)
  simp only [maxLen]
  omega

theorem does_makeSlice {o : Oper} {t e : TypeId} {l c : Operand} {s b : Nat} {z : List Value} {L : Lay} {kn km : IntKind} {n m : Int} (hT : LayOk P T) (hZ : ZeroOk T) (hS : SizeOk T) (hH : HRel F w μ H nx) (hE : ERel w (Own F H μ) μ E a)
    (ho : o.op = .makeSlice t l c) (hL : T t = some ⟨.sl e, s, b, z⟩) (hF : T e = some L) (_h0 : L.size ≠ 0) (hl : rd E l = .cv (.one (.imm (.val (.int kn n))))) (hc : rd E c = .cv (.one (.imm (.val (.int km m))))) (hnl : need E l) (hnc : need E c)
    (h1 : 0 ≤ n) (h2 : n ≤ m) (h3 : (L.bytes : Int) * m ≤ 281474976710656) (h4 : m ≤ 9223372036854775807) :
    Does P F w H μ nx a o (.cv (.one (.osl nx L.size 0 0 n.toNat true))) (updH H [(nx, some (.rows e L.size n.toNat fun _ j => zeroIV L j))]) (nx + 1) := by
  have hu := under_sl (hT t _ hL)
  obtain ⟨i, d, hi, hsz, hby, ⟨zv, hz, hzc⟩, _, _⟩ := lay_info (hT e L hF)
  have e1 := rd_val hE hl hnl
  have e2 := rd_val hE hc hnc
  have hzl := hS e L hF
  have hrun := run_make (P := P) w t e i zv hu hi hz kn km n m h1 h2 (by rw [hby]; exact h3) h4
  rw [hsz] at hrun
  have hzc' : zv.cells = L.zero.toArray := by apply Array.toList_inj.1; simp [hzc]
  have hget : ∀ i' j, i' * L.size + j < m.toNat * L.size → j < L.size → ∃ u, (madeCells zv.cells (m.toNat * L.size))[i' * L.size + j]? = some u ∧ ∀ O', IRel w O' (zeroIV L j) u := by
    intro i' j hk hj
    refine ⟨L.zero[j]'(by omega), ?_, fun O' => ?_⟩
    · simp only [madeCells, Array.getElem?_map]
      rw [Array.getElem?_range, if_pos hk]
      simp only [Option.map_some, hzc', List.size_toArray, hzl]
      have : (i' * L.size + j) % L.size = j := by rw [Nat.mul_comm, Nat.mul_add_mod, Nat.mod_eq_of_lt hj]
      rw [this]
      simp [getElem!_pos, hzl, hj]
    · have h1' := hZ e L hF
      rw [List.all_eq_true] at h1'
      have := ivOf_rel (w := w) (O := O') (h1' (L.zero[j]'(by omega)) (List.getElem_mem _))
      simpa [zeroIV, List.getD_eq_getElem?_getD, List.getElem?_eq_getElem (show j < L.zero.length by omega)] using this
  have hnm : n.toNat ≤ m.toNat := by omega
  obtain ⟨μ', q1, q2, q3⟩ := step_alloc (w := w) (w' := w.alloc (.cells (madeCells zv.cells (m.toNat * L.size)) e)) (B := .rows e L.size n.toNat fun _ j => zeroIV L j) hH rfl rfl rfl rfl (fun c t fz h => by cases h; rfl) fun O' μ' hext hm => by
    refine .inr ⟨w.heap.size, _, hm, heap_alloc_new w _, ?_, fun i' hi' j hj => ?_⟩
    · rw [size_madeCells]; exact Nat.mul_le_mul_right _ hnm
    · have hk : i' * L.size + j < m.toNat * L.size := by
        calc i' * L.size + j < i' * L.size + L.size := by omega
          _ = (i' + 1) * L.size := by rw [Nat.succ_mul]
          _ ≤ m.toNat * L.size := Nat.mul_le_mul_right _ (by omega)
      obtain ⟨u, hu1, hu2⟩ := hget i' j hk hj
      exact ⟨u, hu1, (hu2 (Own F H μ)).mono hext⟩
  refine ⟨.slice (some ⟨w.heap.size, 0, none⟩) n.toNat m.toNat, _, μ', .inl (by simp [execOp, ho, e1, e2, hrun]), q1, q2, .inr ⟨w.heap.size, m.toNat, q3, by simp, hnm, ?_, fun _ => ⟨rfl, rfl, _, e, heap_alloc_new w _, by rw [size_madeCells]⟩⟩⟩
  simp only [maxLen]
  omega

theorem run_storeVar_at {t : TypeId} {L : Lay} {m o : Nat} {ty : TypeId} {cur : Array Value} {v : Value} (hT : LayOk1 P t L) (hw : w.heap[m]? = some (.cells cur ty (0, 0))) (hs : v.cells.size = L.size) (hfit : o + L.size ≤ cur.size) (h1 : ∀ u ∈ v.cells.toList, One u) :
    (storeVar t ⟨m, o, none⟩ v).run P w = .ok () (w.setRow m (cur.toList.take o ++ v.cells.toList ++ cur.toList.drop (o + L.size)).toArray) := by
  have hsz := run_sizeOf hT w
  have := run_storeCells_at P m o ty v.cells.toList 0 cur w hw (by simp [hs]; omega) h1
  simp only [Nat.add_zero, Array.length_toList, hs] at this
  simp [storeVar, hsz, hs, this]

theorem does_store_var {o : Oper} {t : TypeId} {x y : Operand} {L : Lay} {b e i j : Nat} {c : CV} {ty : TypeId} {cells : List AV} (hT : LayOk P T) (hH : HRel F w μ H nx) (hE : ERel w (Own F H μ) μ E a) (ho : o.op = .store t x y)
    (hL : T t = some L) (hx : rd E x = .cv (.one (.own b e i j))) (hy : rd E y = .cv c) (hnx : need E x) (hny : need E y) (hlen : lenIs c.cells L.size = true) (hB : H b = some (.var ty cells)) (hfit : i * e + j + L.size ≤ cells.length) :
    Does P F w H μ nx a o .undef (updH H [(b, some (.var ty (setAt cells (i * e + j) c.cells)))]) (nx + 1) := by
  obtain ⟨m, hm, hv⟩ := rd_one hE hx hnx
  have hc := CRel.cells (rd_cv hE hy hny)
  obtain ⟨m', cur, hm', hw, hl⟩ := (hH.blk b _ hB).2
  obtain rfl : m' = m := by rw [hm] at hm'; exact (Option.some.inj hm').symm
  have hcl := lenIs_eq _ _ hlen
  have hvs : (a.eval y).cells.size = L.size := by rw [← Array.length_toList, hc.1, hcl]
  have hcs : cur.size = cells.length := by rw [← Array.length_toList, hl.1]
  have hrun := run_storeVar_at (P := P) (w := w) (hT t L hL) hw hvs (o := i * e + j) (by omega) hc.one
  have hsize : (cur.toList.take (i * e + j) ++ (a.eval y).cells.toList ++ cur.toList.drop (i * e + j + L.size)).toArray.size = cur.size := by
    simp [hvs]; omega
  obtain ⟨h1, h2⟩ := step_write (nx := nx) hH hB hm hw hsize (B := .var ty (setAt cells (i * e + j) c.cells)) fun hext => by
    refine ⟨m', _, hm, setRow_heap w m' cur _ ty _ hw, ?_⟩
    have := setAt_rel (off := i * e + j) hl hc
    rw [Array.length_toList, hvs] at this
    exact this.mono hext
  refine ⟨Go.undef, _, μ, .inr ⟨?_, rfl⟩, h1, h2, trivial⟩
  simp [execOp, ho, hv, Instr.storeAt, Instr.sureAddr, hrun]

theorem does_store_rows {o : Oper} {t : TypeId} {x y : Operand} {L : Lay} {b e i j : Nat} {c : CV} {ty n : Nat} {cell : Nat → Nat → IV} {xs : List IV} (hT : LayOk P T) (hH : HRel F w μ H nx) (hE : ERel w (Own F H μ) μ E a) (ho : o.op = .store t x y)
    (hL : T t = some L) (hx : rd E x = .cv (.one (.own b e i j))) (hy : rd E y = .cv c) (hnx : need E x) (hny : need E y) (hlen : lenIs c.cells L.size = true) (hB : H b = some (.rows ty e n cell)) (hxs : toIVs c.cells = some xs) (hj : j + L.size ≤ e) (hi : i < n) :
    Does P F w H μ nx a o .undef (updH H [(b, some (.rows ty e n fun i' j' => bif Nat.beq i' i && (Nat.ble j j' && Nat.blt j' (j + L.size)) then xs.getD (j' - j) ivDef else cell i' j'))]) (nx + 1) := by
  obtain ⟨m, hm, hv⟩ := rd_one hE hx hnx
  have hc := CRel.cells (rd_cv hE hy hny)
  rcases (hH.blk b _ hB).2 with ⟨hm', _⟩ | ⟨m', cur, hm', hw, hsz, hcell⟩
  · rw [hm] at hm'; cases hm'
  obtain rfl : m' = m := by rw [hm] at hm'; exact (Option.some.inj hm').symm
  have hcl := lenIs_eq _ _ hlen
  have hvs : (a.eval y).cells.size = L.size := by rw [← Array.length_toList, hc.1, hcl]
  have hfit : i * e + j + L.size ≤ cur.size := by
    have : (i + 1) * e ≤ n * e := Nat.mul_le_mul_right _ hi
    rw [Nat.succ_mul] at this
    omega
  have hrun := run_storeVar_at (P := P) (w := w) (hT t L hL) hw hvs (o := i * e + j) hfit hc.one
  have hsize : (cur.toList.take (i * e + j) ++ (a.eval y).cells.toList ++ cur.toList.drop (i * e + j + L.size)).toArray.size = cur.size := by
    simp [hvs]; omega
  obtain ⟨h1, h2⟩ := step_write (nx := nx) hH hB hm hw hsize (B := .rows ty e n fun i' j' => bif Nat.beq i' i && (Nat.ble j j' && Nat.blt j' (j + L.size)) then xs.getD (j' - j) ivDef else cell i' j') fun hext => by
    refine .inr ⟨m', _, hm, setRow_heap w m' cur _ ty _ hw, by rw [hsize]; exact hsz, fun i' hi' j' hj' => ?_⟩
    have hk : i' * e + j' < cur.size := by
      have : (i' + 1) * e ≤ n * e := Nat.mul_le_mul_right _ hi'
      rw [Nat.succ_mul] at this
      omega
    have htl : (cur.toList.take (i * e + j)).length = i * e + j := by simp; omega
    cases hcnd : (Nat.beq i' i && (Nat.ble j j' && Nat.blt j' (j + L.size))) with
    | true =>
      have hc0 := hcnd
      simp only [Bool.and_eq_true] at hcnd
      obtain ⟨c1, c2, c3⟩ := hcnd
      have c1 := Nat.eq_of_beq_eq_true c1
      have c2 := Nat.le_of_ble_eq_true c2
      have c3 : j' < j + L.size := Nat.le_of_ble_eq_true c3
      subst c1
      obtain ⟨u, hu1, hu2⟩ := toIVs_rel hxs hc (j' - j) (by rw [Array.length_toList, hvs]; omega)
      refine ⟨u, ?_, by show IRel _ _ (bif _ then _ else _) u; rw [hc0]; exact hu2.mono hext⟩
      rw [← Array.getElem?_toList, List.append_assoc, List.getElem?_append_right (by rw [htl]; omega), htl, List.getElem?_append_left (by rw [Array.length_toList, hvs]; omega)]
      rw [← hu1]
      congr 1
      omega
    | false =>
      obtain ⟨u, hu1, hu2⟩ := hcell i' hi' j' hj'
      refine ⟨u, ?_, by show IRel _ _ (bif _ then _ else _) u; rw [hcnd]; exact hu2.mono hext⟩
      have hne : i' * e + j' < i * e + j ∨ i * e + j + L.size ≤ i' * e + j' := by
        rcases Nat.lt_trichotomy i' i with h | h | h
        · have : (i' + 1) * e ≤ i * e := Nat.mul_le_mul_right _ h
          rw [Nat.succ_mul] at this
          omega
        · subst h
          rcases Nat.lt_or_ge j' j with h2 | h2
          · omega
          · rcases Nat.lt_or_ge j' (j + L.size) with h3 | h3
            · exfalso
              have e1 : Nat.beq i' i' = true := by simp
              have e2 : Nat.ble j j' = true := Nat.ble_eq_true_of_le h2
              have e3 : Nat.blt j' (j + L.size) = true := Nat.ble_eq_true_of_le h3
              rw [e1, e2, e3] at hcnd
              cases hcnd
            · omega
        · have : (i + 1) * e ≤ i' * e := Nat.mul_le_mul_right _ h
          rw [Nat.succ_mul] at this
          omega
      rw [← Array.getElem?_toList]
      rcases hne with h | h
      · rw [List.append_assoc, List.getElem?_append_left (by rw [htl]; exact h), List.getElem?_take, if_pos h]
        simpa using hu1
      · rw [List.getElem?_append_right (by simp [hvs]; omega), List.getElem?_drop, ← hu1]
        simp only [List.length_append, htl, Array.length_toList, hvs, Array.getElem?_toList]
        congr 1
        omega
  refine ⟨Go.undef, _, μ, .inr ⟨?_, rfl⟩, h1, h2, trivial⟩
  simp [execOp, ho, hv, Instr.storeAt, Instr.sureAddr, hrun]
end
end Go.Proofs.Ytndfcbcmeeemfaa.Abs
