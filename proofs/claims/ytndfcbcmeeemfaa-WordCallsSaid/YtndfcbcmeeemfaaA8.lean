/-
  OPERATIONS THAT MAKE OR WRITE MEMORY (3): append; the theorem 'evalM_sound' for all of them.
-/
import Derived.Test.YtndfcbcmeeemfaaA7
namespace Go.Proofs.Ytndfcbcmeeemfaa.Abs
open Go

section
variable {P : Program} {T : Lays} {F : Nat → Prop} {w : World} {μ : Nat → Option Nat} {H : Nat → Option ABlk} {nx : Nat} {E : Nat → SV} {a : Act}

/-- A slice's value, and its cells as a list. -/
def RowsAt (w : World) (O : Nat → Prop) (v : Value) (e m : Nat) (cell : Nat → Nat → IV) : Prop :=
  (m = 0 ∧ ∃ a' c, v = .slice a' 0 c) ∨ ∃ b o c, v = .slice (some ⟨b, o, none⟩) m c ∧ ∃ news : List Value, news.length = m * e ∧ (∀ (j : Nat) u, news[j]? = some u → w.cell? ⟨b, o + j, none⟩ = some u) ∧
    (∀ i, i < m → ∀ j, j < e → ∃ u, news[i * e + j]? = some u ∧ IRel w O (cell i j) u) ∧ ∀ u ∈ news, One u

theorem rowsAt_of {O : Nat → Prop} {b o e m : Nat} {cell : Nat → Nat → IV} (h : ∀ i, i < m → ∀ j, j < e → ∃ u, w.cell? ⟨b, o + i * e + j, none⟩ = some u ∧ IRel w O (cell i j) u) :
    ∃ news : List Value, news.length = m * e ∧ (∀ (j : Nat) u, news[j]? = some u → w.cell? ⟨b, o + j, none⟩ = some u) ∧ (∀ i, i < m → ∀ j, j < e → ∃ u, news[i * e + j]? = some u ∧ IRel w O (cell i j) u) ∧ ∀ u ∈ news, One u := by
  rcases Nat.eq_zero_or_pos e with he | he
  · subst he
    exact ⟨[], by simp, fun j u hu => by simp at hu, fun i _ j hj => by omega, fun u hu => by simp at hu⟩
  · obtain ⟨cs, hl, hc⟩ := collect (m * e) (fun k u => w.cell? ⟨b, o + k, none⟩ = some u ∧ IRel w O (cell (k / e) (k % e)) u) fun k hk => by
      have h1 : k / e < m := Nat.div_lt_of_lt_mul (by rw [Nat.mul_comm]; exact hk)
      obtain ⟨u, hu1, hu2⟩ := h (k / e) h1 (k % e) (Nat.mod_lt _ he)
      refine ⟨u, ?_, hu2⟩
      rw [← hu1]
      congr 2
      rw [Nat.add_assoc, Nat.mul_comm, Nat.div_add_mod]
    refine ⟨cs, hl, fun j u hu => (hc j u hu).1, fun i hi j hj => ?_, fun u hu => ?_⟩
    · have hk : i * e + j < cs.length := by
        rw [hl]
        calc i * e + j < i * e + e := by omega
          _ = (i + 1) * e := by rw [Nat.succ_mul]
          _ ≤ m * e := Nat.mul_le_mul_right _ hi
      refine ⟨cs[i * e + j], List.getElem?_eq_getElem hk, ?_⟩
      have := (hc _ _ (List.getElem?_eq_getElem hk)).2
      have e1 : (i * e + j) / e = i := by rw [Nat.mul_comm, Nat.mul_add_div he, Nat.div_eq_of_lt hj, Nat.add_zero]
      have e2 : (i * e + j) % e = j := by rw [Nat.mul_comm, Nat.mul_add_mod, Nat.mod_eq_of_lt hj]
      rwa [e1, e2] at this
    · obtain ⟨k, hk, rfl⟩ := List.mem_iff_getElem.1 hu
      exact (hc k _ (List.getElem?_eq_getElem hk)).2.one

theorem rows_sound (hH : HRel F w μ H nx) {r : AV} {v : Value} {e m : Nat} {cell : Nat → Nat → IV} {p : Prop} (hr : ARel w (Own F H μ) μ r v) (h : rowsOf H r = some (e, m, cell, p)) (hp : p) : RowsAt w (Own F H μ) v e m cell := by
  unfold rowsOf at h
  split at h
  · rename_i e' n ex cell'
    simp only [Option.some.injEq, Prod.mk.injEq] at h
    obtain ⟨rfl, rfl, rfl, _⟩ := h
    rcases hr with ⟨⟨a', rfl⟩, hn⟩ | ⟨b, o, cap, rfl, c1, c2, c3, c4, c5, c6⟩
    · exact .inl ⟨hn, a', 0, rfl⟩
    · obtain ⟨news, q⟩ := rowsAt_of c6
      exact .inr ⟨b, o, cap, rfl, news, q⟩
  · rename_i b e' r' j len app
    split at h
    · rename_i ty e'' n cell' hb
      cases hc : (Nat.beq e' e'' && Nat.beq j 0) with
      | false => rw [hc] at h; simp at h
      | true =>
        rw [hc] at h
        simp only [cond_true, Option.some.injEq, Prod.mk.injEq] at h
        obtain ⟨rfl, rfl, rfl, rfl⟩ := h
        simp only [Bool.and_eq_true] at hc
        have h1 := Nat.eq_of_beq_eq_true hc.1
        have h2 := Nat.eq_of_beq_eq_true hc.2
        subst h1; subst h2
        rcases hr with ⟨rfl, hem⟩ | ⟨m', cap, hm, rfl, c1, c2, c3⟩
        · obtain ⟨a', rfl⟩ := hem; exact .inl ⟨rfl, a', 0, rfl⟩
        · rcases (hH.blk b _ hb).2 with ⟨hm', _⟩ | ⟨m2, cur, hm', hw, hsz, hcell⟩
          · rw [hm] at hm'; cases hm'
          obtain rfl : m2 = m' := by rw [hm] at hm'; exact (Option.some.inj hm').symm
          obtain ⟨news, q⟩ := rowsAt_of (w := w) (O := Own F H μ) (b := m2) (o := r' * e' + 0) (e := e') (m := len) (cell := fun i q => cell' (r' + i) q) fun i hi j hj => by
            obtain ⟨u, hu1, hu2⟩ := hcell (r' + i) (by omega) j hj
            refine ⟨u, ?_, hu2⟩
            simp only [World.cell?, hw]
            simp only [Nat.add_zero]
            rw [← hu1]
            simp only [Option.isSome_none, Bool.false_eq_true, if_false]
            congr 1
            rw [Nat.add_mul]
          exact .inr ⟨m2, _, cap, rfl, news, q⟩
    · cases h
  · cases h

/-- Rows behind rows. -/
theorem cells_append {O : Nat → Prop} {e n m : Nat} {c1 c2 : Nat → Nat → IV} {olds news rest : List Value} (ho : olds.length = n * e) (_hn : news.length = m * e)
    (h1 : ∀ i, i < n → ∀ j, j < e → ∃ u, olds[i * e + j]? = some u ∧ IRel w O (c1 i j) u) (h2 : ∀ i, i < m → ∀ j, j < e → ∃ u, news[i * e + j]? = some u ∧ IRel w O (c2 i j) u) :
    ∀ i, i < n + m → ∀ j, j < e → ∃ u, (olds ++ news ++ rest)[i * e + j]? = some u ∧ IRel w O (bif Nat.blt i n then c1 i j else c2 (i - n) j) u := by
  intro i hi j hj
  rcases Nat.lt_or_ge i n with h | h
  · obtain ⟨u, hu1, hu2⟩ := h1 i h j hj
    refine ⟨u, ?_, ?_⟩
    · have : i * e + j < olds.length := by
        rcases Nat.lt_or_ge (i * e + j) olds.length with h' | h'
        · exact h'
        · rw [List.getElem?_eq_none h'] at hu1; cases hu1
      rw [List.append_assoc, List.getElem?_append_left this]
      exact hu1
    · have : Nat.blt i n = true := Nat.ble_eq_true_of_le h
      rw [this]
      exact hu2
  · obtain ⟨u, hu1, hu2⟩ := h2 (i - n) (by omega) j hj
    have hik : i * e + j = n * e + ((i - n) * e + j) := by
      have : n * e + (i - n) * e = i * e := by rw [← Nat.add_mul]; congr 1; omega
      omega
    refine ⟨u, ?_, ?_⟩
    · have : (i - n) * e + j < news.length := by
        rcases Nat.lt_or_ge ((i - n) * e + j) news.length with h' | h'
        · exact h'
        · rw [List.getElem?_eq_none h'] at hu1; cases hu1
      rw [List.append_assoc, List.getElem?_append_right (by rw [ho, hik]; omega), ho, hik, Nat.add_sub_cancel_left, List.getElem?_append_left this]
      exact hu1
    · have : Nat.blt i n = false := by
        cases hb : Nat.blt i n with
        | false => rfl
        | true => have : i < n := Nat.le_of_ble_eq_true hb; omega
      rw [this]
      exact hu2

/-- A new array behind an append: the block that comes. -/
theorem fresh_rows {w' : World} (hH : HRel F w μ H nx) {e s n m cap : Nat} {olds news rest : List Value} {c1 c2 : Nat → Nat → IV} (_hs : 0 < s)
    (hos : w'.os = w.os) (htape : w'.tape = w.tape) (hout : w'.output = w.output) (hheap : w'.heap = w.heap.push (.cells (olds ++ news ++ rest).toArray e)) (hcap : n + m ≤ cap) (hmax : cap ≤ maxLen) (hrest : rest.length = (cap - (n + m)) * s)
    (ho : olds.length = n * s) (hn : news.length = m * s) (h1 : ∀ i, i < n → ∀ j, j < s → ∃ u, olds[i * s + j]? = some u ∧ IRel w (Own F H μ) (c1 i j) u) (h2 : ∀ i, i < m → ∀ j, j < s → ∃ u, news[i * s + j]? = some u ∧ IRel w (Own F H μ) (c2 i j) u) :
    ∃ μ', Ext F w (Own F H μ) μ w' (Own F (updH H [(nx, some (.rows e s (n + m) fun i j => bif Nat.blt i n then c1 i j else c2 (i - n) j))]) μ') μ' ∧
      HRel F w' μ' (updH H [(nx, some (.rows e s (n + m) fun i j => bif Nat.blt i n then c1 i j else c2 (i - n) j))]) (nx + 1) ∧
      SRel w' (Own F (updH H [(nx, some (.rows e s (n + m) fun i j => bif Nat.blt i n then c1 i j else c2 (i - n) j))]) μ') μ' (.cv (.one (.osl nx s 0 0 (n + m) true))) (.slice (some ⟨w.heap.size, 0, none⟩) (n + m) cap) := by
  have hsz : (olds ++ news ++ rest).length = cap * s := by
    simp only [List.length_append, ho, hn, hrest]
    rw [← Nat.add_mul, ← Nat.add_mul]
    congr 1
    omega
  have hnew : w'.heap[w.heap.size]? = some (.cells (olds ++ news ++ rest).toArray e) := by rw [hheap]; simp
  obtain ⟨μ', q1, q2, q3⟩ := step_alloc hH hos htape hout hheap (fun c t fz h => by cases h; rfl) (B := .rows e s (n + m) fun i j => bif Nat.blt i n then c1 i j else c2 (i - n) j) fun O' μ' hext hm => by
    refine .inr ⟨w.heap.size, _, hm, hnew, ?_, fun i hi j hj => ?_⟩
    · rw [List.size_toArray, hsz]; exact Nat.mul_le_mul_right _ hcap
    · obtain ⟨u, hu1, hu2⟩ := cells_append (rest := rest) ho hn h1 h2 i hi j hj
      exact ⟨u, by simpa using hu1, hu2.mono hext⟩
  exact ⟨μ', q1, q2, .inr ⟨w.heap.size, cap, q3, by simp, hcap, hmax, fun _ => ⟨rfl, rfl, _, e, hnew, by rw [List.size_toArray, hsz]⟩⟩⟩

theorem run_append_zero {t ty e : TypeId} {L : Lay} {base : Option Addr} {n c : Nat} {v : Value} {a' : Option Addr} {c' : Nat} (hT : LayOk1 P e L) (hu : P.underlying t = some (.slice e)) (hv : v = .slice a' 0 c') (hnc : n ≤ c) (hb : base = none → n = 0) :
    (Builtin.append_ #[t, t] ty #[.slice base n c, v]).run P w = .ok (.slice base n c) w := by
  have hsz := run_sizeOf hT w
  subst hv
  cases a' with
  | none => cases base <;> simp [Builtin.append_, run_underlying hu, hsz, Builtin.lenOf, hnc, Builtin.firstCells, storeCells]
  | some a' => cases base <;> simp [Builtin.append_, run_underlying hu, hsz, Builtin.lenOf, hnc, Builtin.firstCells, loadCells, loadCellsFrom, storeCells]

theorem sub_bytes {n m b : Nat} (h : (n + m) * b ≤ 140737488355328) : m * b ≤ 281474976710656 := by
  have : m * b ≤ (n + m) * b := Nat.mul_le_mul_right _ (Nat.le_add_left _ _)
  omega

/-- append: the run, whatever the slice is. -/
theorem exec_append {o : Oper} {t : TypeId} {x y : Operand} (ho : o.op = .call { callee := .builtin .append, args := #[x, y], argTypes := #[t, t] }) {v : Value} {w' : World}
    (h : (Builtin.append_ #[t, t] o.type #[a.eval x, a.eval y]).run P w = .ok v w') : (execOp a.eval o).run P w = .ok (.value v) w' := by
  simp [execOp, ho, resolve, invoke, builtin, h]

theorem does_append_imm {o : Oper} {t e : TypeId} {x y : Operand} {sz by_ : Nat} {z : List Value} {L : Lay} {es n m : Nat} {ex : Bool} {cell cellr : Nat → Nat → IV} {r : AV} {pr : Prop} (hT : LayOk P T) (hZ : SizeOk T) (hH : HRel F w μ H nx) (hE : ERel w (Own F H μ) μ E a)
    (ho : o.op = .call { callee := .builtin .append, args := #[x, y], argTypes := #[t, t] }) (hL : T t = some ⟨.sl e, sz, by_, z⟩) (hF : T e = some L) (h0 : L.size ≠ 0)
    (hx : rd E x = .cv (.one (.imm (.sl es n ex cell)))) (hy : rd E y = .cv (.one r)) (hr : rowsOf H r = some (L.size, m, cellr, pr)) (hnx : need E x) (hny : need E y) (hp : pr)
    (hbytes : (n + m) * L.bytes ≤ 140737488355328) (hmax : n + m ≤ maxLen) (hes : es = L.size ∨ n = 0) (hex : ex = true) (hnm : n = 0 ∨ 0 < m) :
    Does P F w H μ nx a o (.cv (.one (.osl nx L.size 0 0 (n + m) true))) (updH H [(nx, some (.rows e L.size (n + m) fun i j => bif Nat.blt i n then cell i j else cellr (i - n) j))]) (nx + 1) := by
  have hu := under_sl (hT t _ hL)
  obtain ⟨i, d, hi, hsz, hby, ⟨zv, hz, hzc⟩, _, _⟩ := lay_info (hT e L hF)
  have hzs : zv.cells.size = L.size := by rw [← Array.length_toList, hzc, hZ e L hF]
  have hR := rows_sound hH (rd_one hE hy hny) hr hp
  have h63 : n + m ≤ 9223372036854775807 := by simp only [maxLen] at hmax; omega
  have hX : IRel w (Own F H μ) (.sl es n ex cell) (a.eval x) := rd_one hE hx hnx
  rcases hR with ⟨hm0, a', c', hyv⟩ | ⟨b, off, c', hyv, news, hnl, hncell, hnrel, hn1⟩
  · -- nothing is appended: then there is nothing
    have hn0 : n = 0 := by omega
    subst hn0; subst hm0
    obtain ⟨q1, q2⟩ := step_absent (w := w) hH (ty := e) (e := L.size) (cell := fun i j => bif Nat.blt i 0 then cell i j else cellr (i - 0) j)
    rcases hX with ⟨⟨a0, hv⟩, _⟩ | ⟨bx, ox, cap, hv, k1, k2, k3, k4, k5, _⟩
    · exact ⟨_, _, μ, .inl (exec_append ho (by rw [hv]; exact run_append_zero (hT e L hF) hu hyv (Nat.le_refl _) (fun _ => rfl))), q1, q2, .inl ⟨rfl, _, rfl⟩⟩
    · have := k3 hex
      subst this
      exact ⟨_, _, μ, .inl (exec_append ho (by rw [hv]; exact run_append_zero (hT e L hF) hu hyv (Nat.le_refl _) (fun _ => rfl))), q1, q2, .inl ⟨rfl, _, rfl⟩⟩
  · rcases Nat.eq_zero_or_pos m with hm0 | hm0
    · have hn0 : n = 0 := by omega
      subst hn0; subst hm0
      obtain ⟨q1, q2⟩ := step_absent (w := w) hH (ty := e) (e := L.size) (cell := fun i j => bif Nat.blt i 0 then cell i j else cellr (i - 0) j)
      rcases hX with ⟨⟨a0, hv⟩, _⟩ | ⟨bx, ox, cap, hv, k1, k2, k3, k4, k5, _⟩
      · exact ⟨_, _, μ, .inl (exec_append ho (by rw [hv]; exact run_append_zero (hT e L hF) hu hyv (Nat.le_refl _) (fun _ => rfl))), q1, q2, .inl ⟨rfl, _, rfl⟩⟩
      · have := k3 hex
        subst this
        exact ⟨_, _, μ, .inl (exec_append ho (by rw [hv]; exact run_append_zero (hT e L hF) hu hyv (Nat.le_refl _) (fun _ => rfl))), q1, q2, .inl ⟨rfl, _, rfl⟩⟩
    · rcases hX with ⟨⟨a0, hv⟩, hn0⟩ | ⟨bx, ox, cap, hv, k1, k2, k3, k4, k5, k6⟩
      · subst hn0
        cases a0 with
        | none =>
          have hrun := run_append_nil (P := P) w t o.type e i zv hu hi hz ⟨b, off, none⟩ m c' news (by rw [hnl, hsz]) (fun j u hu' => by rw [Addr.add_lit]; exact hncell j u hu') hm0 (by omega) (by rw [hby]; exact sub_bytes (n := 0) (by simpa using hbytes))
          obtain ⟨μ', q1, q2, q3⟩ := fresh_rows (w := w) (w' := w.drew.alloc (.cells (news.toArray ++ Builtin.zeroCells zv.cells (grownCap w m 0 e - m)) e)) (e := e) (s := L.size) (n := 0) (m := m) (cap := grownCap w m 0 e) (olds := []) (news := news) (rest := (Builtin.zeroCells zv.cells (grownCap w m 0 e - m)).toList) (c1 := cell) (c2 := cellr)
            hH (by omega) rfl rfl rfl (by show w.heap.push _ = _; congr 2; apply Array.toList_inj.1; simp) (by have := grownCap_ge w m 0 e; omega) (grownCap_le_maxLen w m 0 e (by omega)) (by rw [Array.length_toList, size_zeroCells, hzs]; simp) (by simp) hnl (fun i hi => by omega) hnrel
          refine ⟨_, _, μ', .inl (exec_append ho (by rw [hv, hyv]; exact hrun)), q1, q2, ?_⟩
          simpa using q3
        | some ad =>
          have hrun := run_append_grow (P := P) w t o.type e i zv hu hi hz ad 0 0 [] (by simp) (fun j u hu' => by simp at hu') ⟨b, off, none⟩ m c' news (by rw [hnl, hsz]) (fun j u hu' => by rw [Addr.add_lit]; exact hncell j u hu')
            (by omega) (by omega) (by rw [hby]; exact growslice_fits (by omega) (by simpa using hbytes))
          obtain ⟨μ', q1, q2, q3⟩ := fresh_rows (w := w) (w' := w.drew.alloc (.cells ((#[] : Array Value) ++ news.toArray ++ Builtin.zeroCells zv.cells (grownCap w (0 + m) 0 e - (0 + m))) e)) (e := e) (s := L.size) (n := 0) (m := m) (cap := grownCap w (0 + m) 0 e) (olds := []) (news := news) (rest := (Builtin.zeroCells zv.cells (grownCap w (0 + m) 0 e - (0 + m))).toList) (c1 := cell) (c2 := cellr)
            hH (by omega) rfl rfl rfl (by show w.heap.push _ = _; congr 2; apply Array.toList_inj.1; simp) (grownCap_ge w (0 + m) 0 e) (grownCap_le_maxLen w (0 + m) 0 e (by omega)) (by rw [Array.length_toList, size_zeroCells, hzs]) (by simp) hnl (fun i hi => by omega) hnrel
          exact ⟨_, _, μ', .inl (exec_append ho (by rw [hv, hyv]; exact hrun)), q1, q2, q3⟩
      · have := k3 hex
        subst this
        have holds : ∃ olds : List Value, olds.length = cap * L.size ∧ (∀ (j : Nat) u, olds[j]? = some u → w.cell? ⟨bx, ox + j, none⟩ = some u) ∧ (∀ i, i < cap → ∀ j, j < L.size → ∃ u, olds[i * L.size + j]? = some u ∧ IRel w (Own F H μ) (cell i j) u) := by
          rcases hes with rfl | hn0
          · obtain ⟨olds, p1, p2, p3, _⟩ := rowsAt_of k6
            exact ⟨olds, p1, p2, p3⟩
          · subst hn0
            exact ⟨[], by simp, fun j u hu' => by simp at hu', fun i hi => by omega⟩
        obtain ⟨olds, p1, p2, p3⟩ := holds
        have hrun := run_append_grow (P := P) w t o.type e i zv hu hi hz ⟨bx, ox, none⟩ cap cap olds (by rw [p1, hsz]) (fun j u hu' => by rw [Addr.add_lit]; exact p2 j u hu') ⟨b, off, none⟩ m c' news (by rw [hnl, hsz]) (fun j u hu' => by rw [Addr.add_lit]; exact hncell j u hu')
          (by omega) (by omega) (by rw [hby]; exact growslice_fits (by omega) hbytes)
        obtain ⟨μ', q1, q2, q3⟩ := fresh_rows (w := w) (w' := w.drew.alloc (.cells (olds.toArray ++ news.toArray ++ Builtin.zeroCells zv.cells (grownCap w (cap + m) cap e - (cap + m))) e)) (e := e) (s := L.size) (n := cap) (m := m) (cap := grownCap w (cap + m) cap e) (olds := olds) (news := news) (rest := (Builtin.zeroCells zv.cells (grownCap w (cap + m) cap e - (cap + m))).toList) (c1 := cell) (c2 := cellr)
          hH (by omega) rfl rfl rfl (by show w.heap.push _ = _; congr 2; apply Array.toList_inj.1; simp) (grownCap_ge w (cap + m) cap e) (grownCap_le_maxLen w (cap + m) cap e hmax) (by rw [Array.length_toList, size_zeroCells, hzs]) p1 hnl p3 hnrel
        exact ⟨_, _, μ', .inl (exec_append ho (by rw [hv, hyv]; exact hrun)), q1, q2, q3⟩

theorem updH_two {k b c : Nat} {B C : Option ABlk} : updH H [(b, B), (c, C)] k = if k = c then C else if k = b then B else H k := by
  show updH (updH H [(b, B)]) [(c, C)] k = _
  rw [updH_one, updH_one]

theorem updH_cons (b : Nat) (B : Option ABlk) (l : List (Nat × Option ABlk)) : updH H ((b, B) :: l) = updH (updH H [(b, B)]) l := rfl

theorem updH_over (b c : Nat) (B C D : Option ABlk) : updH H [(b, B), (b, C), (c, D)] = updH H [(b, C), (c, D)] := by
  funext k
  show updH (updH (updH H [(b, B)]) [(b, C)]) [(c, D)] k = updH (updH H [(b, C)]) [(c, D)] k
  rw [updH_one, updH_one, updH_one, updH_one, updH_one]
  split
  · rfl
  · split
    · rfl
    · rfl

theorem does_append_osl {o : Oper} {t e : TypeId} {x y : Operand} {sz by_ : Nat} {z : List Value} {L : Lay} {b n n' m : Nat} {cell cellr : Nat → Nat → IV} {r : AV} {pr : Prop} (hT : LayOk P T) (hZ : SizeOk T) (hH : HRel F w μ H nx) (hE : ERel w (Own F H μ) μ E a)
    (ho : o.op = .call { callee := .builtin .append, args := #[x, y], argTypes := #[t, t] }) (hL : T t = some ⟨.sl e, sz, by_, z⟩) (hF : T e = some L) (h0 : L.size ≠ 0)
    (hx : rd E x = .cv (.one (.osl b L.size 0 0 n true))) (hb : H b = some (.rows e L.size n' cell)) (hy : rd E y = .cv (.one r)) (hr : rowsOf H r = some (L.size, m, cellr, pr)) (hnx : need E x) (hny : need E y) (hp : pr)
    (hbytes : (n + m) * L.bytes ≤ 140737488355328) (hmax : n + m ≤ maxLen) (hnn : n ≤ n') :
    Does P F w H μ nx a o (.cv (.one (.osl nx L.size 0 0 (n + m) true))) (updH H [(b, none), (nx, some (.rows e L.size (n + m) fun i j => bif Nat.blt i n then cell i j else cellr (i - n) j))]) (nx + 1) := by
  have hu := under_sl (hT t _ hL)
  obtain ⟨i, d, hi, hsz, hby, ⟨zv, hz, hzc⟩, _, _⟩ := lay_info (hT e L hF)
  have hzs : zv.cells.size = L.size := by rw [← Array.length_toList, hzc, hZ e L hF]
  have hR := rows_sound hH (rd_one hE hy hny) hr hp
  have h63 : n + m ≤ 9223372036854775807 := by simp only [maxLen] at hmax; omega
  -- behind the giving up of the old name
  obtain ⟨r1, r2⟩ := step_remove (w := w) hH b
  have fresh : ∀ (base : Option Addr) (cap : Nat) (olds : List Value), olds.length = n * L.size → (∀ i, i < n → ∀ j, j < L.size → ∃ u, olds[i * L.size + j]? = some u ∧ IRel w (Own F H μ) (cell i j) u) → ∀ (news : List Value), news.length = m * L.size →
      (∀ i, i < m → ∀ j, j < L.size → ∃ u, news[i * L.size + j]? = some u ∧ IRel w (Own F H μ) (cellr i j) u) →
      ∀ w', (execOp a.eval o).run P w = .ok (.value (.slice (some ⟨w.heap.size, 0, none⟩) (n + m) (grownCap w (n + m) cap e))) w' →
      w' = w.drew.alloc (.cells (olds.toArray ++ news.toArray ++ Builtin.zeroCells zv.cells (grownCap w (n + m) cap e - (n + m))) e) →
      Does P F w H μ nx a o (.cv (.one (.osl nx L.size 0 0 (n + m) true))) (updH H [(b, none), (nx, some (.rows e L.size (n + m) fun i j => bif Nat.blt i n then cell i j else cellr (i - n) j))]) (nx + 1) := by
    intro base cap olds ho1 ho2 news hn1 hn2 w' hrun hw'
    obtain ⟨μ', q1, q2, q3⟩ := fresh_rows (w := w) (w' := w') (e := e) (s := L.size) (n := n) (m := m) (cap := grownCap w (n + m) cap e) (olds := olds) (news := news) (rest := (Builtin.zeroCells zv.cells (grownCap w (n + m) cap e - (n + m))).toList) (c1 := cell) (c2 := cellr)
      r2 (by omega) (by rw [hw']; rfl) (by rw [hw']; rfl) (by rw [hw']; rfl) (by rw [hw']; show w.heap.push _ = _; congr 2; apply Array.toList_inj.1; simp) (grownCap_ge w (n + m) cap e) (grownCap_le_maxLen w (n + m) cap e hmax) (by rw [Array.length_toList, size_zeroCells, hzs]) ho1 hn1
      (fun i hi j hj => by obtain ⟨u, p1, p2⟩ := ho2 i hi j hj; exact ⟨u, p1, p2.mono r1⟩) (fun i hi j hj => by obtain ⟨u, p1, p2⟩ := hn2 i hi j hj; exact ⟨u, p1, p2.mono r1⟩)
    exact ⟨_, w', μ', .inl hrun, r1.trans q1, q2, q3⟩
  rcases rd_one hE hx hnx with ⟨hn0, hem⟩ | ⟨g, cap, hg, hv, c1, c2, c3⟩
  · -- a slice of no capacity
    subst hn0
    obtain ⟨a0, hv⟩ := hem
    rcases hR with ⟨hm0, a', c', hyv⟩ | ⟨b', off, c', hyv, news, hnl, hncell, hnrel, hn1⟩
    · subst hm0
      obtain ⟨q1, q2⟩ := step_absent (w := w) r2 (ty := e) (e := L.size) (cell := fun i j => bif Nat.blt i 0 then cell i j else cellr (i - 0) j)
      exact ⟨_, _, μ, .inl (exec_append ho (by rw [hv]; exact run_append_zero (hT e L hF) hu hyv (Nat.le_refl _) (fun _ => rfl))), r1.trans q1, q2, .inl ⟨rfl, _, rfl⟩⟩
    · rcases Nat.eq_zero_or_pos m with hm0 | hm0
      · subst hm0
        obtain ⟨q1, q2⟩ := step_absent (w := w) r2 (ty := e) (e := L.size) (cell := fun i j => bif Nat.blt i 0 then cell i j else cellr (i - 0) j)
        exact ⟨_, _, μ, .inl (exec_append ho (by rw [hv]; exact run_append_zero (hT e L hF) hu hyv (Nat.le_refl _) (fun _ => rfl))), r1.trans q1, q2, .inl ⟨rfl, _, rfl⟩⟩
      · cases a0 with
        | none =>
          have hrun := run_append_nil (P := P) w t o.type e i zv hu hi hz ⟨b', off, none⟩ m c' news (by rw [hnl, hsz]) (fun j u hu' => by rw [Addr.add_lit]; exact hncell j u hu') hm0 (by omega) (by rw [hby]; exact sub_bytes (n := 0) hbytes)
          have hx1 := exec_append (P := P) ho (by rw [hv, hyv]; exact hrun)
          refine fresh none 0 [] (by simp) (fun i hi => by omega) news hnl hnrel _ (by simpa using hx1) ?_
          simp
        | some a0 =>
          have hrun := run_append_grow (P := P) w t o.type e i zv hu hi hz a0 0 0 [] (by simp) (fun j u hu' => by simp at hu') ⟨b', off, none⟩ m c' news (by rw [hnl, hsz]) (fun j u hu' => by rw [Addr.add_lit]; exact hncell j u hu')
            (by omega) (by omega) (by rw [hby]; exact growslice_fits (by omega) hbytes)
          have hx1 := exec_append (P := P) ho (by rw [hv, hyv]; exact hrun)
          exact fresh (some a0) 0 [] (by simp) (fun i hi => by omega) news hnl hnrel _ hx1 rfl
  · obtain ⟨_, _, cur, ty, hcur, hcs⟩ := c3 rfl
    rcases (hH.blk b _ hb).2 with ⟨hm', _⟩ | ⟨g', cur', hm', hw, hsz', hcell⟩
    · rw [hg] at hm'; cases hm'
    obtain rfl : g' = g := by rw [hg] at hm'; exact (Option.some.inj hm').symm
    rw [hw] at hcur
    simp only [Option.some.injEq, Obj.cells.injEq] at hcur
    obtain ⟨rfl, rfl, _⟩ := hcur
    have hv' : a.eval x = .slice (some ⟨g', 0, none⟩) n cap := by rw [hv]; simp
    have hnsz : n * L.size ≤ cur'.size := Nat.le_trans (Nat.mul_le_mul_right _ hnn) hsz'
    obtain ⟨olds, ho1, ho2, ho3, _⟩ := rowsAt_of (w := w) (O := Own F H μ) (b := g') (o := 0) (e := L.size) (m := n) (cell := cell) fun i hi j hj => by
      obtain ⟨u, hu1, hu2⟩ := hcell i (by omega) j hj
      refine ⟨u, ?_, hu2⟩
      simp only [World.cell?, hw]
      simpa using hu1
    -- in place: what is there is told of otherwise, then the name is another one
    have inplace : ∀ (w' : World) (cur2 : Array Value), w' = w.setRow g' cur2 → cur2.size = cur'.size → (n + m) * L.size ≤ cur'.size →
        (Ext F w (Own F H μ) μ w' (Own F H μ) μ → ∀ i, i < n + m → ∀ j, j < L.size → ∃ u, cur2[i * L.size + j]? = some u ∧ IRel w' (Own F H μ) (bif Nat.blt i n then cell i j else cellr (i - n) j) u) →
        (execOp a.eval o).run P w = .ok (.value (.slice (some ⟨g', 0, none⟩) (n + m) cap)) w' → n + m ≤ cap →
        Does P F w H μ nx a o (.cv (.one (.osl nx L.size 0 0 (n + m) true))) (updH H [(b, none), (nx, some (.rows e L.size (n + m) fun i j => bif Nat.blt i n then cell i j else cellr (i - n) j))]) (nx + 1) := by
      intro w' cur2 hw' hs2 hfit hrel hrun hcap
      subst hw'
      have hnew := setRow_heap w g' cur' cur2 e _ hw
      obtain ⟨s1, s2⟩ := step_write (nx := nx) hH hb hg hw hs2 (B := .rows e L.size (n + m) fun i j => bif Nat.blt i n then cell i j else cellr (i - n) j) fun hext => .inr ⟨g', cur2, hg, hnew, by rw [hs2]; exact hfit, hrel hext⟩
      have s2' : HRel F (w.setRow g' cur2) μ (updH H [(b, some (.rows e L.size (n + m) fun i j => bif Nat.blt i n then cell i j else cellr (i - n) j))]) nx :=
        ⟨fun k B hk => ⟨by
            rw [updH_one] at hk
            split at hk
            · rename_i h; subst h; exact (hH.blk _ _ hb).1
            · exact (hH.blk k B hk).1, (s2.blk k B hk).2⟩, s2.inj, fun k m' hm' => ⟨(hH.lt k m' hm').1, (s2.lt k m' hm').2⟩, s2.dis, s2.frn⟩
      obtain ⟨μ', t1, t2, t3⟩ := step_rename s2' (b := b) (B := .rows e L.size (n + m) fun i j => bif Nat.blt i n then cell i j else cellr (i - n) j) (by rw [updH_one, if_pos rfl])
      rw [show updH (updH H [(b, some (.rows e L.size (n + m) fun i j => bif Nat.blt i n then cell i j else cellr (i - n) j))]) [(b, none), (nx, some (.rows e L.size (n + m) fun i j => bif Nat.blt i n then cell i j else cellr (i - n) j))] = updH H [(b, none), (nx, some (.rows e L.size (n + m) fun i j => bif Nat.blt i n then cell i j else cellr (i - n) j))] from updH_over _ _ _ _ _] at t1 t2
      exact ⟨_, _, μ', .inl hrun, s1.trans t1, t2, .inr ⟨g', cap, t3.trans hg, by simp, hcap, c2, fun _ => ⟨rfl, rfl, cur2, e, hnew, by rw [hs2, hcs]⟩⟩⟩
    have zero_case : m = 0 → ∀ a' c', a.eval y = .slice a' 0 c' → Does P F w H μ nx a o (.cv (.one (.osl nx L.size 0 0 (n + m) true))) (updH H [(b, none), (nx, some (.rows e L.size (n + m) fun i j => bif Nat.blt i n then cell i j else cellr (i - n) j))]) (nx + 1) := by
      intro hm0 a' c' hyv
      subst hm0
      have hrun := exec_append (P := P) (w := w) ho (by rw [hv']; exact run_append_zero (base := some ⟨g', 0, none⟩) (hT e L hF) hu hyv c1 (fun h => by cases h))
      refine inplace w cur' (setRow_self w g' cur' e _ hw).symm rfl (by simpa using hnsz) (fun hext i hi j hj => ?_) (by simpa using hrun) (by simpa using c1)
      have hi' : i < n := by simpa using hi
      obtain ⟨u, hu1, hu2⟩ := hcell i (by omega) j hj
      refine ⟨u, hu1, ?_⟩
      have : Nat.blt i n = true := Nat.ble_eq_true_of_le hi'
      rw [this]
      exact hu2
    rcases hR with ⟨hm0, a', c', hyv⟩ | ⟨b', off, c', hyv, news, hnl, hncell, hnrel, hn1⟩
    · exact zero_case hm0 a' c' hyv
    · rcases Nat.eq_zero_or_pos m with hm0 | hm0
      · exact zero_case hm0 _ c' (by rw [hyv, hm0])
      · by_cases hroom : n + m ≤ cap
        · have hfit : (n + m) * L.size ≤ cur'.size := by rw [hcs]; exact Nat.mul_le_mul_right _ hroom
          have hsum : n * L.size + news.length ≤ cur'.size := by rw [hnl, ← Nat.add_mul]; exact hfit
          have hrun := run_append_room (P := P) w t o.type e i hu hi g' n cap cur' hw ⟨b', off, none⟩ m c' news (by rw [hnl, hsz]) (fun j u hu' => by rw [Addr.add_lit]; exact hncell j u hu') hn1 hroom (by rw [hsz]; exact hsum)
          rw [hsz] at hrun
          have hx1 := exec_append (P := P) ho (by rw [hv', hyv]; exact hrun)
          refine inplace _ (cur'.toList.take (n * L.size) ++ news ++ cur'.toList.drop (n * L.size + news.length)).toArray rfl ?_ hfit (fun hext i hi j hj => ?_) hx1 hroom
          · simp; omega
          · have htl : (cur'.toList.take (n * L.size)).length = n * L.size := by simp; omega
            obtain ⟨u, hu1, hu2⟩ := cells_append (w := w) (O := Own F H μ) (rest := cur'.toList.drop (n * L.size + news.length)) htl hnl (c1 := cell) (c2 := cellr) (fun i hi j hj => by
              obtain ⟨u, p1, p2⟩ := hcell i (by omega) j hj
              refine ⟨u, ?_, p2⟩
              have : i * L.size + j < n * L.size := by
                calc i * L.size + j < i * L.size + L.size := by omega
                  _ = (i + 1) * L.size := by rw [Nat.succ_mul]
                  _ ≤ n * L.size := Nat.mul_le_mul_right _ hi
              rw [List.getElem?_take, if_pos this]
              simpa using p1) hnrel i hi j hj
            exact ⟨u, by simpa using hu1, hu2.mono hext⟩
        · have hrun := run_append_grow (P := P) w t o.type e i zv hu hi hz ⟨g', 0, none⟩ n cap olds (by rw [ho1, hsz]) (fun j u hu' => by rw [Addr.add_lit]; exact ho2 j u hu') ⟨b', off, none⟩ m c' news (by rw [hnl, hsz]) (fun j u hu' => by rw [Addr.add_lit]; exact hncell j u hu')
            (by omega) (by omega) (by rw [hby]; exact growslice_fits (by omega) hbytes)
          have hx1 := exec_append (P := P) ho (by rw [hv', hyv]; exact hrun)
          exact fresh none cap olds ho1 ho3 news hnl hnrel _ hx1 rfl
end
end Go.Proofs.Ytndfcbcmeeemfaa.Abs
