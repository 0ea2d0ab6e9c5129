/-
  CODE IN A ROUND: what an operation does there is what it does everywhere.
-/
import Derived.CallsIn
import Derived.OrdersIn
import Derived.TacticsIn
import Derived.ControlIn
import Derived.RangeFuncCalls
import Derived.Test.YtmpddomgiplnmaaDoorX2
import Derived.Laws.IdiomCopy
import Derived.Laws.CopyRow
import Derived.Sort.LoopGhostIn
import Derived.RangeFuncRecord
import Derived.RegionTactic
namespace Go.Proofs.YtmpddomgiplnmaaDoor.Abs
open Go
/-- The fence that lets all in, in a round or in none. -/
def wr (ro : Option Nat) : Fence := { Fence.wide with round := ro }
theorem calls_wr {ro : Option Nat} {n : Nat} {P : Program} {f : FuncId} {args : Array Value} {w : World} {R : Ending → World → Prop} : CallsIn (wr ro) n P f args w R ↔ Calls P f args w R := callsIn_wide (n := n)
theorem op_in {ro : Option Nat} {n : Nat} {P : Program} {o : Oper} {a : Act} {w : World} {K : Act → World → Prop} {Q : Exit → Act → World → Prop} (hd : ∀ c, o.op ≠ .defer c) (h : o.wp P a w K Q) : o.wpIn (wr ro) n P a w K Q := by
  refine ⟨fun _ _ => trivial, ?_⟩
  rw [show (wr ro).round = ro from rfl, Oper.semAt_eq ro _ _ hd]
  unfold Oper.wp at h
  generalize (execOp a.eval o).run P w = r at h ⊢
  cases r with
  | ok v w' =>
    cases v with
    | enter f args => exact ⟨fun h => by simp [wr, Fence.wide] at h, calls_wr.2 h⟩
    | row r args => exact ⟨fun h => by simp [wr, Fence.wide] at h, fun c cs _ => let ⟨v, w', r, x⟩ := h c cs; ⟨v, w', r, stepsIn_wide.2 x⟩⟩
    | value v => exact h
    | skip => exact h
    | defer d => exact h
    | _ => exact h.elim
  | halt e w' => cases e <;> first | exact h | exact h.elim

def isDefer : Op → Bool
  | .defer _ => true
  | _ => false
theorem isDefer_not {x : Op} (h : isDefer x = false) : ∀ c, x ≠ .defer c := by
  rintro c rfl
  cases h
/-- Operations, none of which puts a call off. -/
def noDefer : List Oper → Bool
  | [] => true
  | o :: l => !isDefer o.op && noDefer l
theorem noDefer_get : ∀ (l : List Oper) (i : Nat) (o : Oper), noDefer l = true → l[i]? = some o → isDefer o.op = false
  | [], _, _, _, h => by simp at h
  | x :: l, 0, o, hd, h => by
    simp only [noDefer, Bool.and_eq_true] at hd
    simp only [List.getElem?_cons_zero, Option.some.injEq] at h
    subst h
    simpa using hd.1
  | x :: l, i + 1, o, hd, h => by
    simp only [noDefer, Bool.and_eq_true] at hd
    exact noDefer_get l i o hd.2 (by simpa using h)

section
variable {P : Program} {ops : Array Oper} {Q : Exit → Act → World → Prop} {ro : Option Nat} {n : Nat}
/-- What a list of operations comes to. -/
def wpL (P : Program) (ops : Array Oper) (Q : Exit → Act → World → Prop) : List Oper → Act → World → Prop
  | [], a, w => Q .normal a w
  | o :: rest, a, w => if Region.wanted o (yielded ops a.tmps) then o.wp P a w (wpL P ops Q rest) Q else wpL P ops Q rest (a.put o.dst undef) w
theorem wpL_in : ∀ (l : List Oper) (a : Act) (w : World), noDefer l = true → wpL P ops Q l a w → wpListIn (wr ro) n P ops Q l a w
  | [], _, _, _, h => h
  | o :: l, a, w, hd, h => by
    simp only [noDefer, Bool.and_eq_true, Bool.not_eq_true'] at hd
    unfold wpL at h
    unfold wpListIn
    split
    · rename_i hw
      rw [if_pos hw] at h
      exact Oper.wpIn_mono (fun a w => wpL_in l a w hd.2) (op_in (isDefer_not hd.1) h)
    · rename_i hw
      rw [if_neg hw] at h
      exact ⟨fun _ _ => trivial, wpL_in l _ w hd.2 h⟩
def wpOpL (P : Program) (ops : Array Oper) (Q : Exit → Act → World → Prop) (i : Nat) (K : Act → World → Prop) (a : Act) (w : World) : Prop :=
  match ops[i]? with
  | none => K a w
  | some o => if Region.wanted o (yielded ops a.tmps) then o.wp P a w K Q else K (a.put o.dst undef) w
theorem wpOpL_in {i : Nat} {K K' : Act → World → Prop} {a : Act} {w : World} (hd : noDefer ops.toList = true) (hK : ∀ a w, K a w → K' a w) (h : wpOpL P ops Q i K a w) : wpOpIn (wr ro) n P ops Q i K' a w := by
  unfold wpOpL at h
  unfold wpOpIn
  cases ho : ops[i]? with
  | none =>
    rw [ho] at h
    exact hK _ _ h
  | some o =>
    rw [ho] at h
    have hd' := noDefer_get ops.toList i o hd (by rw [Array.getElem?_toList]; exact ho)
    dsimp only at h ⊢
    split
    · rename_i hw
      rw [if_pos hw] at h
      exact Oper.wpIn_mono hK (op_in (isDefer_not hd') h)
    · rename_i hw
      rw [if_neg hw] at h
      exact ⟨fun _ _ => trivial, hK _ _ h⟩
theorem wpOpL_mono {i : Nat} {a : Act} {w : World} {K K' : Act → World → Prop} (h : ∀ a w, K a w → K' a w) (hh : wpOpL P ops Q i K a w) : wpOpL P ops Q i K' a w := by
  unfold wpOpL at *
  split
  · exact h _ _ (by simpa [*] using hh)
  · rename_i o ho
    simp only [ho] at hh
    split
    · rename_i hw; simp only [hw, if_true] at hh; exact Oper.wp_mono h hh
    · rename_i hw; simp only [hw] at hh; exact h _ _ hh
def wpAnyL (P : Program) (md : Region.Mode) (ops : Array Oper) (Q : Exit → Act → World → Prop) : Nat → Array Bool → Act → World → Prop
  | 0, listed, a, w => Region.ready md ops listed = [] ∧ Q .normal a w
  | fuel + 1, listed, a, w => (Region.ready md ops listed = [] → Q .normal a w) ∧ ∀ i ∈ Region.ready md ops listed, wpOpL P ops Q i (wpAnyL P md ops Q fuel (listed.setIfInBounds i true)) a w
theorem wpAnyL_in {md : Region.Mode} (hd : noDefer ops.toList = true) : ∀ (fuel : Nat) (listed : Array Bool) (a : Act) (w : World), wpAnyL P md ops Q fuel listed a w → wpAnyIn (wr ro) n P md ops Q fuel listed a w
  | 0, _, _, _, h => h
  | fuel + 1, _, _, _, h => ⟨h.1, fun i hi => wpOpL_in hd (wpAnyL_in hd fuel _) (h.2 i hi)⟩
theorem wpIn_region_anyL {id : Nat} {a : Act} {w : World} (hm : P.follows .mixedOrders = true) (hnd : noDefer ops.toList = true) (h : wpAnyL P .any ops Q ops.size (Array.replicate ops.size false) a { w with drawn := w.drawn + 1 }) : (Code.region id ops true).wpIn (wr ro) n P Q a w :=
  wpIn_region_any hm (wpAnyL_in hnd _ _ _ _ h)
end
end Go.Proofs.YtmpddomgiplnmaaDoor.Abs

/-
  STATES, AND THE RULES BY WHICH A FUNCTION IS WALKED: regions by reckoning, code by its form, calls by contracts.
-/
namespace Go.Proofs.YtmpddomgiplnmaaDoor.Abs
open Go

section
variable {K : Nat} {P : Program} {T : Lays} {F : Nat → Prop} {w : World} {μ : Nat → Option Nat} {H : Nat → Option ABlk} {nx : Nat} {E : Nat → SV} {a : Act}

/-- What is known of a program's types: the table of layouts tells them truly. -/
structure Good (P : Program) (T : Lays) : Prop where
  lay : LayOk P T
  zero : ZeroOk T
  size : SizeOk T
  fields : ∀ t fs s b z, T t = some ⟨.st fs, s, b, z⟩ → fieldsIn T fs = true
  more : MoreOk P T

theorem exec_copyG {w : World} {a : Act} {o : Oper} {t t' : TypeId} {x y : Operand} (ho : o.op = .call { callee := .builtin .copy, args := #[x, y], argTypes := #[t, t'] }) {v : Value} {w' : World}
    (h : (Builtin.copy_ #[t, t'] o.type #[a.eval x, a.eval y]).run P w = .ok v w') : (execOp a.eval o).run P w = .ok (.value v) w' := by
  simp [execOp, ho, resolve, invoke, builtin, h]

theorem inSeg (r i k : Nat) : (Nat.ble r i && Nat.blt i (r + k)) = decide (r ≤ i ∧ i < r + k) := by
  cases h : (Nat.ble r i && Nat.blt i (r + k)) with
  | true =>
    rw [Bool.and_eq_true] at h
    have h1 : r ≤ i := Nat.le_of_ble_eq_true h.1
    have h2 : i < r + k := Nat.le_of_ble_eq_true h.2
    rw [decide_eq_true ⟨h1, h2⟩]
  | false =>
    symm
    rw [decide_eq_false_iff_not]
    rintro ⟨h1, h2⟩
    have e1 : Nat.ble r i = true := Nat.ble_eq_true_of_le h1
    have e2 : Nat.blt i (r + k) = true := Nat.ble_eq_true_of_le h2
    rw [e1, e2] at h
    cases h

/-- Rows of one cell are copied into a part of a row of our own. -/
theorem does_copyG {o : Oper} {t t' e : TypeId} {x y : Operand} {sz by_ : Nat} {z : List Value} {L : Lay} {b r n m N : Nat} {app : Bool} {s : AV} {cell cellr : Nat → Nat → IV} {pr : Prop} (hT : LayOk P T) (hH : HRel F w μ H nx) (hE : ERel w (Own F H μ) μ E a)
    (ho : o.op = .call { callee := .builtin .copy, args := #[x, y], argTypes := #[t, t'] }) (hL : T t = some ⟨.sl e, sz, by_, z⟩) (hF : T e = some L) (h1 : L.size = 1)
    (hx : rd E x = .cv (.one (.osl b 1 r 0 n app))) (hb : H b = some (.rows e 1 N cell)) (hy : rd E y = .cv (.one s)) (hr : rowsOf H s = some (1, m, cellr, pr)) (hnx : need E x) (hny : need E y) (hpr : pr) (hN : r + n ≤ N) :
    Does P F w H μ nx a o (.cv (iint (Nat.min m n : Nat))) (updH H [(b, some (.rows e 1 N fun i j => bif Nat.ble r i && Nat.blt i (r + Nat.min m n) then cellr (i - r) j else cell i j))]) (nx + 1) := by
  have hu := under_sl (hT t _ hL)
  obtain ⟨i, d, hi, hsz, hby, _, _, _⟩ := lay_info (hT e L hF)
  have hs1 : (P.info? e).map (·.size) = some 1 := by rw [hi]; simp [hsz, h1]
  have hR := rows_sound hH (rd_one hE hy hny) hr hpr
  have hml : Nat.min m n ≤ m := Nat.min_le_left m n
  have hmn : Nat.min m n ≤ n := Nat.min_le_right m n
  -- nothing is copied
  have none_ : Nat.min m n = 0 → (∃ d dl dc, a.eval x = .slice d dl dc ∧ dl = n) → (∃ s sc, a.eval y = .slice s m sc) → Does P F w H μ nx a o (.cv (iint (Nat.min m n : Nat))) (updH H [(b, some (.rows e 1 N fun i j => bif Nat.ble r i && Nat.blt i (r + Nat.min m n) then cellr (i - r) j else cell i j))]) (nx + 1) := by
    rintro h0 ⟨dd, dl, dc, hvx, rfl⟩ ⟨s, sc, hvy⟩
    have hrun := exec_copyG (P := P) (w := w) ho (by rw [hvx, hvy]; exact run_copy_none (P := P) w t t' o.type e dd s dl dc m sc hu hs1 h0)
    rw [h0]
    obtain ⟨q1, q2⟩ := step_replace (nx := nx) (w := w) hH hb (B := .rows e 1 N fun i j => bif Nat.ble r i && Nat.blt i (r + 0) then cellr (i - r) j else cell i j) (by
      rcases (hH.blk b _ hb).2 with ⟨g1, g2⟩ | ⟨g, cur, g1, g2, g3, g4⟩
      · exact .inl ⟨g1, g2⟩
      · refine .inr ⟨g, cur, g1, g2, g3, fun i hi j hj => ?_⟩
        dsimp only
        rw [inSeg, decide_eq_false (by omega)]
        exact g4 i hi j hj)
    exact ⟨goInt 0, w, μ, .inl hrun, q1, q2.more (by omega), rfl, rfl⟩
  rcases rd_one hE hx hnx with ⟨hn0, ⟨a0, hv⟩⟩ | ⟨g, cap, hg, hv, c1, c2, c3⟩
  · subst hn0
    refine none_ (Nat.min_zero m) ⟨a0, 0, 0, hv, rfl⟩ ?_
    rcases hR with ⟨hm0, a', c', hyv⟩ | ⟨b', off, c', hyv, _⟩
    · subst hm0; exact ⟨a', c', hyv⟩
    · exact ⟨_, c', hyv⟩
  · rcases hR with ⟨hm0, a', c', hyv⟩ | ⟨b', off, c', hyv, news, hnl, hncell, hnrel, hn1⟩
    · subst hm0
      exact none_ (Nat.zero_min n) ⟨_, n, cap, hv, rfl⟩ ⟨a', c', hyv⟩
    · rcases (hH.blk b _ hb).2 with ⟨g1, g2⟩ | ⟨g', cur, g1, g2, g3, g4⟩
      · rw [hg] at g1; cases g1
      obtain rfl : g' = g := by rw [hg] at g1; exact (Option.some.inj g1).symm
      have hv' : a.eval x = .slice (some ⟨g', r, none⟩) n cap := by rw [hv]; simp
      generalize hk : Nat.min m n = k at hml hmn none_ ⊢
      have hlt : (news.take k).length = k := by
        rw [List.length_take, hnl]
        omega
      have hrun := exec_copyG (P := P) (w := w) ho (by
        rw [hv', hyv]
        exact run_copy_row (P := P) w t t' o.type e g' r n cap ⟨b', off, none⟩ m c' cur e (news.take k) hu hs1 g2 (by rw [hlt, hk]) (fun j v hj => by
            rw [Addr.add_lit]
            rw [List.getElem?_take] at hj
            split at hj
            · exact hncell j v hj
            · cases hj) (by rw [hlt]; omega) fun v hv => hn1 v (List.mem_of_mem_take hv))
      simp only [hlt] at hrun
      have hlr : (cur.toList.take r).length = r := by rw [List.length_take, Array.length_toList]; omega
      obtain ⟨q1, q2⟩ := step_write (nx := nx) (w := w) hH hb g1 g2 (cur' := (cur.toList.take r ++ news.take k ++ cur.toList.drop (r + k)).toArray) (by
          simp only [List.size_toArray, List.length_append, List.length_drop, hlt, hlr, Array.length_toList]
          omega) (B := .rows e 1 N fun i j => bif Nat.ble r i && Nat.blt i (r + k) then cellr (i - r) j else cell i j) fun hext => .inr ⟨g', _, g1, setRow_heap w g' cur _ e _ g2, by
            simp only [List.size_toArray, List.length_append, List.length_drop, hlt, hlr, Array.length_toList]
            omega, fun i hi j hj => by
              obtain rfl : j = 0 := by omega
              simp only [List.getElem?_toArray, Nat.mul_one, Nat.add_zero]
              rw [inSeg]
              obtain ⟨u0, hu1, hu2⟩ := g4 i hi 0 (by omega)
              have hu1 : cur.toList[i]? = some u0 := by simpa using hu1
              by_cases hc : r ≤ i ∧ i < r + k
              · rw [decide_eq_true hc]
                obtain ⟨u, hv1, hv2⟩ := hnrel (i - r) (by omega) 0 (by omega)
                have hv1 : news[i - r]? = some u := by simpa using hv1
                refine ⟨u, ?_, IRel.mono hext _ _ hv2⟩
                rw [List.append_assoc, List.getElem?_append_right (by rw [hlr]; exact hc.1), hlr, List.getElem?_append_left (by rw [hlt]; omega), List.getElem?_take, if_pos (by omega)]
                exact hv1
              · rw [decide_eq_false hc]
                refine ⟨u0, ?_, IRel.mono hext _ _ hu2⟩
                rcases Nat.lt_or_ge i r with h | h
                · rw [List.append_assoc, List.getElem?_append_left (by rw [hlr]; exact h), List.getElem?_take, if_pos h]
                  exact hu1
                · rw [List.append_assoc, List.getElem?_append_right (by rw [hlr]; exact h), hlr, List.getElem?_append_right (by rw [hlt]; omega), hlt, List.getElem?_drop]
                  rw [show r + k + (i - r - k) = i from by omega]
                  exact hu1⟩
      exact ⟨goInt k, _, μ, .inl hrun, q1, q2, rfl, rfl⟩

theorem evalM_sound (G : Good P T) (hH : HRel F w μ H nx) (hE : ERel w (Own F H μ) μ E a) {o : Oper} {x : SV} {U : List (Nat × Option ABlk)} {vc : Prop} (h : evalM T nx H E o.op = some (x, U, vc)) (hv : vc) :
    Does P F w H μ nx a o x (updH H U) (nx + 1) := by
  cases ho : o.op with
  | box t y =>
    rw [ho] at h; simp only [evalM, forceL_eq] at h
    split at h
    · rename_i c hc
      simp only [Option.some.injEq, Prod.mk.injEq] at h; obtain ⟨rfl, rfl, rfl⟩ := h
      exact does_box hH hE ho hc hv
    · cases h
  | alloc t =>
    rw [ho] at h; simp only [evalM, forceL_eq] at h
    split at h
    · rename_i L hL
      simp only [Option.some.injEq, Prod.mk.injEq] at h; obtain ⟨rfl, rfl, rfl⟩ := h
      exact does_alloc G.lay G.zero hH ho hL
    · cases h
  | buildSlice t len parts =>
    rw [ho] at h; simp only [evalM] at h
    split at h
    · rename_i e sz by_ z hL
      split at h
      · rename_i L hF
        cases hc : (Nat.ble (len * L.size) 16777216 && !(Nat.beq L.size 0)) with
        | false => rw [hc] at h; simp at h
        | true =>
          rw [hc] at h; simp only [cond_true] at h
          simp only [Bool.and_eq_true, Bool.not_eq_true'] at hc
          split at h
          · rename_i l p hf
            split at h
            · rename_i xs hxs
              simp only [Option.some.injEq, Prod.mk.injEq] at h; obtain ⟨rfl, rfl, rfl⟩ := h
              exact does_buildSlice G.lay G.zero G.size hH hE ho hL hF (Nat.le_of_ble_eq_true hc.1) (fun e => by simp [e] at hc) hf hxs hv
            · cases h
          · cases h
      · cases h
    · cases h
  | makeSlice t l c =>
    rw [ho] at h; simp only [evalM] at h
    split at h
    · rename_i e sz by_ z kn n km m hL hl hc
      split at h
      · rename_i L hF
        cases h0 : Nat.beq L.size 0 with
        | true => rw [h0] at h; simp at h
        | false =>
          rw [h0] at h; simp only [cond_false, Option.some.injEq, Prod.mk.injEq] at h; obtain ⟨rfl, rfl, rfl⟩ := h
          obtain ⟨q1, q2, q3, q4, q5, q6⟩ := hv
          exact does_makeSlice G.lay G.zero G.size hH hE ho hL hF (fun e => by simp [e] at h0) hl hc q1 q2 q3 q4 q5 q6
      · cases h
    · cases h
  | store t y z =>
    rw [ho] at h; simp only [evalM] at h
    split at h
    · rename_i L b e i j c hL hx hy
      cases hlen : lenIs c.cells L.size with
      | false => rw [hlen] at h; simp at h
      | true =>
        rw [hlen] at h; simp only [cond_true] at h
        split at h
        · rename_i ty cells hB
          cases hfit : Nat.ble (i * e + j + L.size) cells.length with
          | false => rw [hfit] at h; simp at h
          | true =>
            rw [hfit] at h; simp only [cond_true, forceL_eq, Option.some.injEq, Prod.mk.injEq] at h; obtain ⟨rfl, rfl, rfl⟩ := h
            exact does_store_var G.lay hH hE ho hL hx hy hv.1 hv.2 hlen hB (Nat.le_of_ble_eq_true hfit)
        · rename_i ty e' n cell hB
          split at h
          · rename_i xs hxs
            cases hc : (Nat.beq e e' && Nat.ble (j + L.size) e') with
            | false => rw [hc] at h; simp at h
            | true =>
              rw [hc] at h; simp only [cond_true, Option.some.injEq, Prod.mk.injEq] at h; obtain ⟨rfl, rfl, rfl⟩ := h
              simp only [Bool.and_eq_true] at hc
              have he := Nat.eq_of_beq_eq_true hc.1
              subst he
              exact does_store_rows G.lay hH hE ho hL hx hy hv.1 hv.2.1 hlen hB hxs (Nat.le_of_ble_eq_true hc.2) hv.2.2
          · cases h
        · cases h
    · cases h
  | makeMap t r =>
    cases r with
    | some r => rw [ho] at h; simp [evalM] at h
    | none =>
      rw [ho] at h; simp only [evalM] at h
      split at h
      · split at h
        · simp only [Option.some.injEq, Prod.mk.injEq] at h; obtain ⟨rfl, rfl, rfl⟩ := h
          exact does_makeMap hH ho
        · cases h
      · cases h
  | range t y =>
    rw [ho] at h; simp only [evalM] at h
    split at h
    · rename_i k e sz by_ z ka kks va vn dom val hL hy
      simp only [Option.some.injEq, Prod.mk.injEq] at h; obtain ⟨rfl, rfl, rfl⟩ := h
      exact does_range G.lay hH hE ho hL hy hv
    · cases h
  | convert s d y =>
    rw [ho] at h; simp only [evalM] at h
    split at h
    · rename_i L e sz by_ z b hs hd hy
      split at h
      · rename_i sz2 by2 z2 hF
        simp only [Option.some.injEq, Prod.mk.injEq] at h; obtain ⟨rfl, rfl, rfl⟩ := h
        exact does_bytes G.lay hH hE ho hs hd hF hy hv.1 hv.2
      · cases h
    · cases h
  | mapUpdate t m k y => rw [ho] at h; simp only [evalM] at h; exact does_mapPut G.lay G.more hH hE (.inl ho) h hv
  | insert t m k y => rw [ho] at h; simp only [evalM] at h; exact does_mapPut G.lay G.more hH hE (.inr ho) h hv
  | call c =>
    rw [ho] at h; simp only [evalM] at h
    obtain ⟨callee, args, argTypes⟩ := c
    split at h
    · rename_i t t' x' y' hcal hts has
      simp only at hcal hts has
      subst hcal
      split at h
      · rename_i e sz by_ z s r hL hx hy
        split at h
        · rename_i L e' m cellr pr hF hr
          cases hc : (Nat.beq t t' && !(Nat.beq L.size 0) && Nat.beq e' L.size) with
          | false => rw [hc] at h; simp at h
          | true =>
            rw [hc] at h; simp only [cond_true] at h
            simp only [Bool.and_eq_true, Bool.not_eq_true'] at hc
            obtain ⟨⟨c1, c2⟩, c3⟩ := hc
            have c1 := Nat.eq_of_beq_eq_true c1
            have c3 := Nat.eq_of_beq_eq_true c3
            subst c1; subst c3
            obtain rfl : argTypes = #[t, t] := Array.toList_inj.1 (by simpa using hts)
            obtain rfl : args = #[x', y'] := Array.toList_inj.1 (by simpa using has)
            have h0 : L.size ≠ 0 := fun e => by simp [e] at c2
            split at h
            · rename_i es n ex cell
              simp only [Option.some.injEq, Prod.mk.injEq] at h; obtain ⟨rfl, rfl, rfl⟩ := h
              obtain ⟨q1, q2, q3, q4, q5, q6, q7, q8⟩ := hv
              exact does_append_imm G.lay G.size hH hE ho hL hF h0 hx hy hr q1 q2 q3 q4 q5 q6 q7 q8
            · rename_i b es n
              split at h
              · rename_i ty es' n' cell hB
                cases hc : (Nat.beq es L.size && Nat.beq es' L.size && Nat.beq ty e) with
                | false => rw [hc] at h; simp at h
                | true =>
                  rw [hc] at h; simp only [cond_true, Option.some.injEq, Prod.mk.injEq] at h; obtain ⟨rfl, rfl, rfl⟩ := h
                  simp only [Bool.and_eq_true] at hc
                  obtain ⟨⟨d1, d2⟩, d3⟩ := hc
                  have d1 := Nat.eq_of_beq_eq_true d1
                  have d2 := Nat.eq_of_beq_eq_true d2
                  have d3 := Nat.eq_of_beq_eq_true d3
                  subst d1; subst d2; subst d3
                  obtain ⟨q1, q2, q3, q4, q5, q6⟩ := hv
                  exact does_append_osl G.lay G.size hH hE ho hL hF h0 hx hB hy hr q1 q2 q3 q4 q5 q6
              · cases h
            · cases h
        · cases h
      · cases h
    · rename_i t t' x' y' hcal hts has
      simp only at hcal hts has
      split at h
      · rename_i e sz by_ z b es r n app s hL hx hy
        split at h
        · rename_i L e' m cellr pr hF hr
          split at h
          · rename_i ty es' N cell hB
            cases hc : (Nat.beq L.size 1 && Nat.beq e' 1 && Nat.beq es 1 && Nat.beq es' 1 && Nat.beq ty e) with
            | false => rw [hc] at h; simp at h
            | true =>
              rw [hc] at h; simp only [cond_true, Option.some.injEq, Prod.mk.injEq] at h; obtain ⟨rfl, rfl, rfl⟩ := h
              simp only [Bool.and_eq_true] at hc
              obtain ⟨⟨⟨⟨d1, d2⟩, d3⟩, d4⟩, d5⟩ := hc
              have d1 := Nat.eq_of_beq_eq_true d1
              have d2 := Nat.eq_of_beq_eq_true d2
              have d3 := Nat.eq_of_beq_eq_true d3
              have d4 := Nat.eq_of_beq_eq_true d4
              have d5 := Nat.eq_of_beq_eq_true d5
              subst d2; subst d3; subst d4; subst d5
              obtain rfl : argTypes = #[t, t'] := Array.toList_inj.1 (by simpa using hts)
              obtain rfl : args = #[x', y'] := Array.toList_inj.1 (by simpa using has)
              subst hcal
              obtain ⟨q1, q2, q3, q4⟩ := hv
              exact does_copyG G.lay hH hE ho hL hF d1 hx hB hy hr q1 q2 q3 q4
          · cases h
        · cases h
      · cases h
    · cases h
  | _ => rw [ho] at h; simp [evalM] at h

/-- The world in which a call began, and what was owned then. -/
structure Ctx (K : Nat) where
  F : Nat → Prop
  w0 : World
  O0 : Nat → Prop
  μ0 : Nat → Option Nat
  lt0 : ∀ k m, μ0 k = some m → k < K
  ro : Option Nat
  gw : gOk w0 O0

/-- What lies with those who wait: the rounds' blocks for deferred calls (no calls in them), the record of the loop in whose round we are. -/
def Kept {K : Nat} (C : Ctx K) (a : Act) (w : World) : Prop :=
  (∀ x ∈ a.defers, ∃ D, x = { target := .collected D, args := #[] } ∧ C.F D ∧ C.w0.heap.size ≤ D ∧ w.heap[D]? = some (.deferred (some []))) ∧ (a.defers.Pairwise fun x y => x.target ≠ y.target) ∧
  ∀ l, C.ro = some l → a.defers = [] ∧ C.F l ∧ ∃ r, w.heap[l]? = some (.loop r)
theorem lt_of_get {w : World} {b : Nat} {o : Obj} (h : w.heap[b]? = some o) : b < w.heap.size := (Array.getElem?_eq_some_iff.1 h).1
theorem Kept.mono {K : Nat} {C : Ctx K} {a a' : Act} {w w' : World} {O O' : Nat → Prop} {μ μ' : Nat → Option Nat} (h : Kept C a w) (he : Ext C.F w O μ w' O' μ') (ha : a'.defers = a.defers := by rfl) : Kept C a' w' := by
  refine ⟨fun x hx => ?_, by rw [ha]; exact h.2.1, fun l hl => ?_⟩
  · rw [ha] at hx
    obtain ⟨D, h1, h2, h3, h4⟩ := h.1 x hx
    exact ⟨D, h1, h2, h3, (he.frn D (lt_of_get h4) h2).trans h4⟩
  · obtain ⟨h0, h1, r, h2⟩ := h.2.2 l hl
    exact ⟨ha.trans h0, h1, r, (he.frn l (lt_of_get h2) h1).trans h2⟩
theorem Kept.same {K : Nat} {C : Ctx K} {a a' : Act} {w w' : World} (h : Kept C a w) (ha : a'.defers = a.defers) (hw : w'.heap = w.heap) : Kept C a' w' := by
  unfold Kept
  rw [ha, hw]
  exact h
/-- The same call, with more that others own. -/
structure Ctx.Le {K : Nat} (C C' : Ctx K) : Prop where
  w0 : C'.w0 = C.w0
  O0 : C'.O0 = C.O0
  μ0 : C'.μ0 = C.μ0
  ro : C'.ro = C.ro
  F : ∀ m, C.F m → C'.F m
theorem Ctx.Le.refl {K : Nat} (C : Ctx K) : C.Le C := ⟨rfl, rfl, rfl, rfl, fun _ h => h⟩
theorem Ctx.Le.trans {K : Nat} {C C' C2 : Ctx K} (h : C.Le C') (k : C'.Le C2) : C.Le C2 := ⟨k.w0.trans h.w0, k.O0.trans h.O0, k.μ0.trans h.μ0, k.ro.trans h.ro, fun m q => k.F m (h.F m q)⟩

structure Rel {K : Nat} (C : Ctx K) (μ : Nat → Option Nat) (S : St) (a : Act) (w : World) : Prop where
  defers : Kept C a w
  size : a.tmps.size = S.size
  env : ERel w (Own C.F S.heap μ) μ S.env a
  heap : HRel C.F w μ S.heap S.next
  ext : Ext C.F C.w0 C.O0 C.μ0 w (Own C.F S.heap μ) μ

theorem Rel.gok {K : Nat} {C : Ctx K} {μ : Nat → Option Nat} {S : St} {a : Act} {w : World} (h : Rel C μ S a w) : gOk w (Own C.F S.heap μ) := C.gw.mono h.ext
def Lift {K : Nat} (C : Ctx K) (Q : Exit → St → Prop) : Exit → Act → World → Prop := fun e a w => ∃ C', C.Le C' ∧ ∃ μ S, Rel C' μ S a w ∧ Q e S
theorem Lift.le {K : Nat} {C C' : Ctx K} {Q : Exit → St → Prop} {e : Exit} {a : Act} {w : World} (h : C.Le C') : Lift C' Q e a w → Lift C Q e a w := fun ⟨C2, h2, q⟩ => ⟨C2, h.trans h2, q⟩

/-- A list of operations, a piece of code: from every related state. -/
def AL (K : Nat) (P : Program) (ops : Array Oper) (l : List Oper) (Q : Exit → St → Prop) (S : St) : Prop := ∀ (C : Ctx K) μ a w, Rel C μ S a w → wpL P ops (Lift C Q) l a w
def AW (K : Nat) (P : Program) (c : Code) (Q : Exit → St → Prop) (S : St) : Prop := ∀ (C : Ctx K) μ a w, Rel C μ S a w → c.wpIn (wr C.ro) 1 P (Lift C Q) a w

def putE (E : Nat → SV) (d : Option Nat) (v : SV) : Nat → SV := match d with
  | some d => fun t => bif Nat.beq t d then v else E t
  | none => E

def dstOk (d : Option Nat) (n : Nat) : Bool := match d with
  | some d => Nat.blt d n
  | none => true

theorem putE_rel {O : Nat → Prop} {d : Option Nat} {n : Nat} {x : SV} {v : Value} (hE : ERel w O μ E a) (hx : SRel w O μ x v) (hd : dstOk d n = true) (hn : a.tmps.size = n) : ERel w O μ (putE E d x) (a.put d v) := by
  cases d with
  | none => exact hE
  | some d =>
    intro t
    have hlt : d < a.tmps.size := by rw [hn]; exact Nat.le_of_ble_eq_true hd
    simp only [putE, Act.put]
    by_cases h : t = d
    · subst h
      have hb : Nat.beq t t = true := by simp
      rw [hb]
      simpa [Array.getD_eq_getD_getElem?, Array.getElem?_setIfInBounds, hlt] using hx
    · have hb : Nat.beq t d = false := by
        cases hb : Nat.beq t d with
        | false => rfl
        | true => exact absurd (Nat.eq_of_beq_eq_true hb) h
      rw [hb]
      have := hE t
      simpa [Array.getD_eq_getD_getElem?, Array.getElem?_setIfInBounds, Ne.symm h] using this

theorem put_size (d : Option Nat) (v : Value) : (a.put d v).tmps.size = a.tmps.size := by cases d <;> simp [Act.put]
theorem put_defers (d : Option Nat) (v : Value) : (a.put d v).defers = a.defers := by cases d <;> simp [Act.put]

theorem ERel.mono {w' : World} {O O' : Nat → Prop} {μ' : Nat → Option Nat} (h : ERel w O μ E a) (hx : Ext F w O μ w' O' μ') : ERel w' O' μ' E a := fun t => (h t).mono hx

/-- Is an operation wanted? none: it cannot be told; some none: it has no guard. -/
def guardOf (ops : List Oper) (E : Nat → SV) : Option (Nat × Bool) → Option (Option Bool)
  | none => some none
  | some (j, want) => match ops[j]? with
    | none => none
    | some o => match o.dst with
      | none => none
      | some d => match E d with
        | .cv (.one (.imm (.val (.bool b)))) => some (some (b == want))
        | .gd c (.cv (.one (.imm (.val (.bool b))))) => some (some (c && (b == want)))
        | _ => none

theorem guardOf_sound {O : Nat → Prop} {ops : Array Oper} {n : Nat} (hE : ERel w O μ E a) {o : Oper} {g : Option Bool} (h : guardOf ops.toList E o.guard = some g)
    (hn : a.tmps.size = n) (hd : ∀ (j : Nat) o', ops[j]? = some o' → dstOk o'.dst n = true) : Region.wanted o (yielded ops a.tmps) = g.getD true := by
  unfold guardOf at h
  split at h
  · rename_i hg
    simp only [Option.some.injEq] at h
    subst h
    simp [Region.wanted, hg]
  · rename_i j want hg
    split at h
    · cases h
    · rename_i o' ho'
      have ho2 : ops[j]? = some o' := by simpa using ho'
      split at h
      · cases h
      · rename_i d hdst
        have hlt : d < a.tmps.size := by
          have := hd j o' ho2
          rw [hdst] at this
          rw [hn]
          exact Nat.le_of_ble_eq_true this
        have hv := hE d
        have hget : a.tmps.getD d Go.undef = a.tmps[d] := by simp [Array.getD, hlt]
        have hy : yielded ops a.tmps j = match a.tmps[d] with | .bool b => some b | _ => none := by
          unfold yielded
          simp only [ho2, Option.bind_some, hdst]
          rw [Array.getElem?_eq_getElem hlt]
          cases a.tmps[d] <;> rfl
        split at h
        · rename_i b hb
          simp only [Option.some.injEq] at h
          subst h
          rw [hb, hget] at hv
          have hv : a.tmps[d] = .bool b := hv.1
          rw [hv] at hy
          simp only [Region.wanted, hg, hy, Option.getD_some]
          cases b <;> cases want <;> rfl
        · rename_i c b hb
          simp only [Option.some.injEq] at h
          subst h
          rw [hb, hget] at hv
          unfold SRel at hv
          cases c with
          | true =>
            simp only [if_true] at hv
            have hv : a.tmps[d] = .bool b := hv.1
            rw [hv] at hy
            simp only [Region.wanted, hg, hy, Option.getD_some]
            cases b <;> cases want <;> rfl
          | false =>
            simp only [Bool.false_eq_true, if_false] at hv
            rw [hv] at hy
            simp only [Region.wanted, hg, hy, Option.getD_some]
            rfl
        · cases h

def forceC {α : Type} (x : CV) (k : CV → α) : α := match x with
  | .one x => forceA x fun y => k (.one y)
  | .agg l => forceL l fun l' => k (.agg l')
def force {α : Type} (x : SV) (k : SV → α) : α := match x with
  | .undef => k .undef
  | .cv c => forceC c fun y => k (.cv y)
  | .tup l => k (.tup l)
  | .gd b (.cv c) => forceC c fun y => k (.gd b (.cv y))
  | .gd b s => k (.gd b s)
theorem force_eq {α : Type} (x : SV) (k : SV → α) : force x k = k x := by
  have hC : ∀ (x : CV) (k : CV → α), forceC x k = k x := fun x k => by unfold forceC; split <;> first | exact forceA_eq _ _ | exact forceL_eq _ _
  unfold force
  split <;> first | exact hC _ _ | rfl

/-- Operations, reckoned one behind the other; what must hold is collected. -/
def evalOps (T : Lays) (ops : List Oper) : Nat → St → Prop → List Oper → Option (St × Prop × List Oper)
  | 0, S, p, l => some (S, p, l)
  | _ + 1, S, p, [] => some (S, p, [])
  | k + 1, S, p, o :: rest => match guardOf ops S.env o.guard with
    | none => some (S, p, o :: rest)
    | some g => bif dstOk o.dst S.size then match evalV T S.heap S.env o.op with
      | some (x, vc) => match g with
        | none => force x fun x => evalOps T ops k { S with env := putE S.env o.dst x } (p ∧ vc) rest
        | some b => force x fun x => evalOps T ops k { S with env := putE S.env o.dst (.gd b x) } (p ∧ (b = true → vc)) rest
      | none => match g, evalM T S.next S.heap S.env o.op with
        | none, some (x, U, vc) => evalOps T ops k { S with env := putE S.env o.dst x, heap := updH S.heap U, next := S.next + 1 } (p ∧ vc) rest
        | _, _ => some (S, p, o :: rest)
      else some (S, p, o :: rest)

theorem Rel.put {C : Ctx K} {S : St} {d : Option Nat} {x : SV} {v : Value} (h : Rel C μ S a w) (hx : SRel w (Own C.F S.heap μ) μ x v) (hd : dstOk d S.size = true) : Rel C μ { S with env := putE S.env d x } (a.put d v) w :=
  ⟨h.defers.same (put_defers d v) rfl, by rw [put_size]; exact h.size, putE_rel h.env hx hd h.size, h.heap, h.ext⟩

theorem Rel.step {C : Ctx K} {S : St} {w' : World} {μ' : Nat → Option Nat} {H' : Nat → Option ABlk} {nx' : Nat} (h : Rel C μ S a w) (he : Ext C.F w (Own C.F S.heap μ) μ w' (Own C.F H' μ') μ') (hH : HRel C.F w' μ' H' nx') : Rel C μ' { S with heap := H', next := nx' } a w' :=
  ⟨h.defers.mono he, h.size, h.env.mono he, hH, h.ext.trans he⟩

theorem evalOps_sound (G : Good P T) {ops : Array Oper} {Q : Exit → St → Prop} :
    ∀ (k : Nat) (l : List Oper) (S S' : St) (p p' : Prop) (l' : List Oper), (ops.toList.all fun o => dstOk o.dst S.size) = true → evalOps T ops.toList k S p l = some (S', p', l') → p' →
      (p → AL K P ops l' Q S' → AL K P ops l Q S) ∧ p := by
  intro k
  induction k with
  | zero => intro l S S' p p' l' hall h hp; simp only [evalOps, Option.some.injEq, Prod.mk.injEq] at h; obtain ⟨rfl, rfl, rfl⟩ := h; exact ⟨fun _ h => h, hp⟩
  | succ k ih =>
    intro l S S' p p' l' hall h hp
    cases l with
    | nil => simp only [evalOps, Option.some.injEq, Prod.mk.injEq] at h; obtain ⟨rfl, rfl, rfl⟩ := h; exact ⟨fun _ h => h, hp⟩
    | cons o rest =>
      have hall' : ∀ (j : Nat) o', ops[j]? = some o' → dstOk o'.dst S.size = true := by
        intro j o' hj
        rw [List.all_eq_true] at hall
        exact hall o' (by
          have : ops.toList[j]? = some o' := by simpa using hj
          exact List.mem_of_getElem? this)
      simp only [evalOps, force_eq] at h
      split at h
      · simp only [Option.some.injEq, Prod.mk.injEq] at h; obtain ⟨rfl, rfl, rfl⟩ := h; exact ⟨fun _ h => h, hp⟩
      · rename_i g hg
        cases hdst : dstOk o.dst S.size with
        | false => rw [hdst] at h; simp only [cond_false, Option.some.injEq, Prod.mk.injEq] at h; obtain ⟨rfl, rfl, rfl⟩ := h; exact ⟨fun _ h => h, hp⟩
        | true =>
          rw [hdst] at h
          simp only [cond_true] at h
          split at h
          · rename_i x vc hV
            cases g with
            | none =>
              obtain ⟨h1, h2⟩ := ih rest { S with env := putE S.env o.dst x } S' _ p' l' hall h hp
              refine ⟨fun _ hQ C μ a w hR => ?_, h2.1⟩
              have hw := guardOf_sound hR.env hg hR.size hall'
              obtain ⟨v, hrun, hs⟩ := evalV_sound G.lay G.zero G.fields G.more hR.heap hR.env hV h2.2
              unfold wpL
              rw [if_pos (by rw [hw]; rfl)]
              unfold Oper.wp
              rw [hrun]
              exact h1 h2 hQ C μ _ w (hR.put hs hdst)
            | some b =>
              obtain ⟨h1, h2⟩ := ih rest { S with env := putE S.env o.dst (.gd b x) } S' _ p' l' hall h hp
              refine ⟨fun _ hQ C μ a w hR => ?_, h2.1⟩
              have hw := guardOf_sound hR.env hg hR.size hall'
              unfold wpL
              cases b with
              | true =>
                obtain ⟨v, hrun, hs⟩ := evalV_sound G.lay G.zero G.fields G.more hR.heap hR.env hV (h2.2 rfl)
                rw [if_pos (by rw [hw]; rfl)]
                unfold Oper.wp
                rw [hrun]
                exact h1 h2 hQ C μ _ w (hR.put (x := .gd true x) (by unfold SRel; simpa using hs) hdst)
              | false =>
                rw [if_neg (by rw [hw]; simp)]
                exact h1 h2 hQ C μ _ w (hR.put (x := .gd false x) (by unfold SRel; simp) hdst)
          · split at h
            · rename_i x U vc hM
              obtain ⟨h1, h2⟩ := ih rest { S with env := putE S.env o.dst x, heap := updH S.heap U, next := S.next + 1 } S' _ p' l' hall h hp
              refine ⟨fun _ hQ C μ a w hR => ?_, h2.1⟩
              have hw := guardOf_sound hR.env hg hR.size hall'
              obtain ⟨v, w', μ', hrun, hext, hH', hs⟩ := evalM_sound G hR.heap hR.env hM h2.2
              unfold wpL
              rw [if_pos (by rw [hw]; rfl)]
              unfold Oper.wp
              have hR' := (hR.step hext hH').put (d := o.dst) (x := x) (v := v) hs hdst
              rcases hrun with hrun | ⟨hrun, rfl⟩
              · rw [hrun]; exact h1 h2 hQ C μ' _ w' hR'
              · rw [hrun]; exact h1 h2 hQ C μ' _ w' hR'
            · simp only [Option.some.injEq, Prod.mk.injEq] at h; obtain ⟨rfl, rfl, rfl⟩ := h; exact ⟨fun _ h => h, hp⟩
end
end Go.Proofs.YtmpddomgiplnmaaDoor.Abs

/-
  THE RULES FOR CODE: sequences, tests, blocks, loops, regions in the order of the text; how a function's contract comes of its body.
-/
namespace Go.Proofs.YtmpddomgiplnmaaDoor.Abs
open Go

section
variable {K : Nat} {P : Program} {T : Lays} {F : Nat → Prop} {w : World} {μ : Nat → Option Nat} {H : Nat → Option ABlk} {nx : Nat} {E : Nat → SV} {a : Act} {S : St} {Q : Exit → St → Prop}

theorem Lift.mono {C : Ctx K} {Q' : Exit → St → Prop} (h : ∀ e S, Q e S → Q' e S) : ∀ e a w, Lift C Q e a w → Lift C Q' e a w := fun e _ _ ⟨C1, hC, μ, S, hR, hq⟩ => ⟨C1, hC, μ, S, hR, h e S hq⟩

theorem AW.mono {c : Code} {Q' : Exit → St → Prop} (h : AW K P c Q S) (hq : ∀ e S, Q e S → Q' e S) : AW K P c Q' S := fun C μ a w hR => wpIn_mono (h C μ a w hR) (Lift.mono hq)

theorem wpIn_ro {ro ro' : Option Nat} {n : Nat} {c : Code} {Q : Exit → Act → World → Prop} (h : ro' = ro) : c.wpIn (wr ro') n P Q a w → c.wpIn (wr ro) n P Q a w := h ▸ id
def seqQ (K : Nat) (P : Program) (c : Code) (Q : Exit → St → Prop) : Exit → St → Prop
  | .normal, S => AW K P c Q S
  | e, S => Q e S

theorem AW_seq {c d : Code} (h : AW K P c (seqQ K P d Q) S) : AW K P (.seq c d) Q S := by
  intro C μ a w hR
  refine wpIn_seq (wpIn_mono (h C μ a w hR) ?_)
  rintro e a' w' ⟨C1, hC, μ', S', hR', hq⟩
  cases e with
  | normal => exact wpIn_ro hC.ro (wpIn_mono (hq C1 μ' a' w' hR') fun _ _ _ => Lift.le hC)
  | _ => exact ⟨C1, hC, μ', S', hR', hq⟩

def blkQ (id : Nat) (Q : Exit → St → Prop) : Exit → St → Prop
  | .exit id', S => bif Nat.beq id' id then Q .normal S else Q (.exit id') S
  | e, S => Q e S

theorem AW_block {id : Nat} {c : Code} (h : AW K P c (blkQ id Q) S) : AW K P (.block id c) Q S := by
  intro C μ a w hR
  refine wpIn_block (wpIn_mono (h C μ a w hR) ?_)
  rintro e a' w' ⟨C1, hC, μ', S', hR', hq⟩
  cases e with
  | exit id' =>
    simp only [blkQ] at hq
    simp only [Exit.inBlock]
    cases hb : Nat.beq id' id with
    | true => rw [hb] at hq; rw [if_pos (Nat.eq_of_beq_eq_true hb)]; exact ⟨C1, hC, μ', S', hR', hq⟩
    | false => rw [hb] at hq; rw [if_neg (fun e => by rw [e] at hb; simp at hb)]; exact ⟨C1, hC, μ', S', hR', hq⟩
  | _ => exact ⟨C1, hC, μ', S', hR', hq⟩

theorem AW_skip (h : Q .normal S) : AW K P .skip Q S := fun C μ _ _ hR => wpIn_skip ⟨C, .refl C, μ, S, hR, h⟩
theorem AW_exit {id : Nat} (h : Q (.exit id) S) : AW K P (.exit id) Q S := fun C μ _ _ hR => wpIn_exit ⟨C, .refl C, μ, S, hR, h⟩
theorem AW_ret (h : Q .ret S) : AW K P .ret Q S := fun C μ _ _ hR => wpIn_ret ⟨C, .refl C, μ, S, hR, h⟩
theorem AW_label {l : Nat} (h : Q .normal S) : AW K P (.label l) Q S := fun C μ _ _ hR => wpIn_label ⟨C, .refl C, μ, S, hR, h⟩

theorem AW_cond {c : Operand} {x y : Code} {b : Bool} (hc : evS S.env c = .cv (.one (.imm (.val (.bool b))))) (h1 : b = true → AW K P x Q S) (h2 : b = false → AW K P y Q S) : AW K P (.cond c x y) Q S := by
  intro C μ a w hR
  have hv := evS_sound hR.env c
  rw [hc] at hv
  exact wpIn_cond_split hv.1 (fun h => h1 h C μ a w hR) (fun h => h2 h C μ a w hR)

/-- A state that tells no more than another one. -/
structure Le (S S' : St) : Prop where
  size : S'.size = S.size
  env : ∀ t, S'.env t = .undef ∨ S'.env t = S.env t
  heap : ∀ k, S'.heap k = none ∨ S'.heap k = S.heap k
  next : S.next ≤ S'.next

theorem Le.rel {C : Ctx K} {S S' : St} (h : Le S S') (hR : Rel C μ S a w) : Rel C μ S' a w := by
  have hsub : ∀ k, (S'.heap k).isSome = true → (S.heap k).isSome = true := by
    intro k hk
    rcases h.heap k with h' | h'
    · rw [h'] at hk; cases hk
    · rw [← h']; exact hk
  have hext : Ext C.F w (Own C.F S.heap μ) μ w (Own C.F S'.heap μ) μ := ext_sub (own_sub hsub)
  refine ⟨hR.defers, hR.size.trans h.size.symm, fun t => ?_, ⟨fun k B hk => ?_, fun k k' m hk hk' => hR.heap.inj k k' m (hsub k hk) (hsub k' hk'), fun k m hm => ?_, fun k m hk => hR.heap.dis k m (hsub k hk), hR.heap.frn⟩, hR.ext.trans hext⟩
  · rcases h.env t with h' | h'
    · rw [h']; trivial
    · rw [h']; exact (hR.env t).mono hext
  · rcases h.heap k with h' | h'
    · rw [h'] at hk; cases hk
    · rw [h'] at hk
      obtain ⟨h1, h2⟩ := hR.heap.blk k B hk
      exact ⟨Nat.lt_of_lt_of_le h1 h.next, h2.mono hext rfl fun _ _ => rfl⟩
  · have := hR.heap.lt k m hm
    exact ⟨Nat.lt_of_lt_of_le this.1 h.next, this.2⟩

theorem AW_le {c : Code} {S S' : St} (h : Le S S') (hw : AW K P c Q S') : AW K P c Q S := fun C μ a w hR => hw C μ a w (h.rel hR)
theorem AL_le {ops : Array Oper} {l : List Oper} {S S' : St} (h : Le S S') (hw : AL K P ops l Q S') : AL K P ops l Q S := fun C μ a w hR => hw C μ a w (h.rel hR)

def loopQ {ι : Type} (st : ι → St) (m : ι → Nat) (i : ι) (Q : Exit → St → Prop) : Exit → St → Prop
  | .normal, S => ∃ j, Le S (st j) ∧ m j < m i
  | e, S => Q e S

/-- A loop, by a family of states: one of them at each round's head. -/
theorem AW_loop {c : Code} {ι : Type} (st : ι → St) (m : ι → Nat) (i : ι) (h0 : Le S (st i)) (round : ∀ j, AW K P c (loopQ st m j Q) (st j)) : AW K P (.loop c) Q S := by
  intro C μ a w hR
  refine wpIn_loop_ghost (fun n a w => ∃ C1, C.Le C1 ∧ ∃ j μ, m j = n ∧ Rel C1 μ (st j) a w) (m i) ⟨C, .refl C, i, μ, rfl, h0.rel hR⟩ ?_
  rintro n a' w' ⟨C1, hC, j, μ', rfl, hR'⟩
  refine wpIn_ro hC.ro (wpIn_mono (round j C1 μ' a' w' hR') ?_)
  rintro e a2 w2 ⟨C2, hC2, μ2, S2, hR2, hq⟩
  cases e with
  | normal =>
    obtain ⟨j', hle, hlt⟩ := hq
    exact ⟨m j', hlt, C2, hC.trans hC2, j', μ2, rfl, hle.rel hR2⟩
  | _ => exact ⟨C2, hC.trans hC2, μ2, S2, hR2, hq⟩

theorem AL_nil {ops : Array Oper} (h : Q .normal S) : AL K P ops [] Q S := fun C μ _ _ hR => ⟨C, .refl C, μ, S, hR, h⟩

theorem AW_region {id : Nat} {ops : Array Oper} (h : AL K P ops ops.toList Q S) (hnd : noDefer ops.toList = true := by rfl) : AW K P (.region id ops false) Q S := fun C μ a w hR => wpIn_region_list (wpL_in _ _ _ hnd (h C μ a w hR))

/-- Some operations by reckoning, the others behind them. -/
theorem AL_eval (G : Good P T) {ops : Array Oper} {l l' : List Oper} {S' : St} {p : Prop} (k : Nat) (hall : (ops.toList.all fun o => dstOk o.dst S.size) = true) (h : evalOps T ops.toList k S True l = some (S', p, l')) (hp : p) (hQ : AL K P ops l' Q S') : AL K P ops l Q S :=
  (evalOps_sound G k l S S' True p l' hall h hp).1 trivial hQ

/-- What a call comes to: from every world in which the state is so. -/
def ACall (P : Program) (f : FuncId) (args : List CV) (H : Nat → Option ABlk) (nx : Nat) (K : SV → (Nat → Option ABlk) → Nat → Prop) : Prop :=
  ∀ (F : Nat → Prop) (μ : Nat → Option Nat) (w : World) (vals : List Value), HRel F w μ H nx → gOk w (Own F H μ) → TRel w (Own F H μ) μ args vals →
    Calls P f vals.toArray w fun e w' => ∃ v μ' x H' nx', e = .returned v ∧ Ext F w (Own F H μ) μ w' (Own F H' μ') μ' ∧ HRel F w' μ' H' nx' ∧ SRel w' (Own F H' μ') μ' x v ∧ K x H' nx'

theorem ACall.mono {f : FuncId} {args : List CV} {K K' : SV → (Nat → Option ABlk) → Nat → Prop} (h : ACall P f args H nx K) (hk : ∀ x H n, K x H n → K' x H n) : ACall P f args H nx K' :=
  fun F μ w vals h1 hg h2 => (h F μ w vals h1 hg h2).mono fun _ _ ⟨v, μ', x, H', n, q1, q2, q3, q4, q5⟩ => ⟨v, μ', x, H', n, q1, q2, q3, q4, hk _ _ _ q5⟩

def initE (args : List CV) : Nat → SV := fun t => match args[t]? with
  | some c => .cv c
  | none => .undef

/-- A function's results, off its slots. -/
def resCV (T : Lays) (S : St) : ResultVar → Option (CV × Prop)
  | .tmp t => match S.env t with
    | .cv c => some (c, True)
    | _ => none
  | .cell x t => match T t, S.env x with
    | some L, .cv (.one p) => match loadAt S.heap p L.size with
      | some (l, q) => match mk (isAgg L.kind) l with
        | some c => some (c, q)
        | none => none
      | none => none
    | _, _ => none

def resL (T : Lays) (S : St) : List ResultVar → Option (List CV × Prop)
  | [] => some ([], True)
  | r :: l => match resCV T S r, resL T S l with
    | some (c, p), some (cs, q) => some (c :: cs, p ∧ q)
    | _, _ => none

def resSV (T : Lays) (S : St) (l : List ResultVar) : Option (SV × Prop) :=
  match resL T S l with
  | some ([c], p) => some (.cv c, p)
  | some (cs, p) => some (.tup cs, p)
  | none => none

theorem resCV_sound (G : Good P T) {C : Ctx K} (hR : Rel C μ S a w) {r : ResultVar} {c : CV} {p : Prop} (h : resCV T S r = some (c, p)) (hp : p) :
    ∃ v, (match r with | .tmp t => (pure (a.tmps.getD t Go.undef) : Sem Value) | .cell x t => (do loadVar t (← asAddr (a.tmps.getD x Go.undef)))).run P w = .ok v w ∧ CRel w (Own C.F S.heap μ) μ c v := by
  cases r with
  | tmp t =>
    simp only [resCV] at h
    split at h
    · rename_i c' hc
      simp only [Option.some.injEq, Prod.mk.injEq] at h
      obtain ⟨rfl, _⟩ := h
      have := hR.env t
      rw [hc] at this
      exact ⟨_, rfl, this⟩
    · cases h
  | cell x t =>
    simp only [resCV] at h
    split at h
    · rename_i L q hL hx
      split at h
      · rename_i l q' hl
        split at h
        · rename_i c' hc
          simp only [Option.some.injEq, Prod.mk.injEq] at h
          obtain ⟨rfl, rfl⟩ := h
          have hv := hR.env x
          rw [hx] at hv
          obtain ⟨b, off, hval, cs, hlen, hrel, hcell⟩ := loadAt_sound hR.heap hv hl hp
          obtain ⟨v, hcv, hk⟩ := mk_sound hc hrel
          refine ⟨v, ?_, hcv⟩
          have hrun : (loadCells ⟨b, off, none⟩ L.size).run P w = .ok cs.toArray w := by
            rw [← hlen]
            exact run_loadCells_list w ⟨b, off, none⟩ cs fun j u hu => by rw [Addr.add_lit]; exact hcell j u hu
          have hag := run_isAgg (G.lay t L hL) w
          have hsz := run_sizeOf (G.lay t L hL) w
          rcases hk with ⟨hb, rfl⟩ | ⟨hb, hcs⟩
          · rw [hb] at hag
            simp [hval, asAddr, loadVar, hag, hsz, hrun]
          · rw [hb] at hag
            subst hcs
            have h0 : w.cell? ⟨b, off, none⟩ = some v := by simpa using hcell 0 v rfl
            simp [hval, asAddr, loadVar, hag, h0]
        · cases h
      · cases h
    · cases h

theorem resL_sound (G : Good P T) {C : Ctx K} (hR : Rel C μ S a w) : ∀ (rs : List ResultVar) (cs : List CV) (p : Prop), resL T S rs = some (cs, p) → p →
    ∃ vs : List Value, (rs.mapM fun (r : ResultVar) => (match r with | .tmp t => (pure (a.tmps.getD t Go.undef) : Sem Value) | .cell x t => (do loadVar t (← asAddr (a.tmps.getD x Go.undef))))).run P w = .ok vs w ∧ TRel w (Own C.F S.heap μ) μ cs vs := by
  intro rs
  induction rs with
  | nil => intro cs p h hp; simp [resL] at h; obtain ⟨rfl, _⟩ := h; exact ⟨[], rfl, rfl, fun i x u h => by simp at h⟩
  | cons r rs ih =>
    intro cs p h hp
    simp only [resL] at h
    split at h
    · rename_i c p1 cs' q h1 h2
      simp only [Option.some.injEq, Prod.mk.injEq] at h
      obtain ⟨rfl, rfl⟩ := h
      obtain ⟨v, hv, hc⟩ := resCV_sound G hR h1 hp.1
      obtain ⟨vs, hvs, hl⟩ := ih cs' q h2 hp.2
      refine ⟨v :: vs, ?_, by simp [hl.1], fun i z u hz hu => ?_⟩
      · rw [List.mapM_cons]
        simp only [Sem.run_bind, hv, Result.andThen_ok, hvs, Sem.run_pure]
      · cases i with
        | zero => simp at hz hu; subst hz; subst hu; exact hc
        | succ i => simp at hz hu; exact hl.2 i z u hz hu
    · cases h

theorem results_sound (G : Good P T) {C : Ctx K} (hR : Rel C μ S a w) {fn : Func} {x : SV} {p : Prop} (h : resSV T S fn.results.toList = some (x, p)) (hp : p) :
    ∃ v, (results fn a.tmps).run P w = .ok v w ∧ SRel w (Own C.F S.heap μ) μ x v := by
  unfold resSV at h
  have key : ∀ cs q, resL T S fn.results.toList = some (cs, q) → q → ∃ vs : List Value, (results fn a.tmps).run P w = .ok (if h : vs.toArray.size = 1 then vs.toArray[0] else .tuple vs.toArray) w ∧ TRel w (Own C.F S.heap μ) μ cs vs := by
    intro cs q hl hq
    obtain ⟨vs, hvs, hrel⟩ := resL_sound G hR _ cs q hl hq
    refine ⟨vs, ?_, hrel⟩
    unfold results
    rw [Array.mapM_eq_mapM_toList]
    simp only [Sem.run_bind, Sem.run_map, Sem.run_pure]
    exact (congrArg (fun r : Result (List Value) => (r.andThen fun a w' => Result.ok a.toArray w').andThen fun a w' => Result.ok (if h : a.size = 1 then a[0] else Value.tuple a) w') hvs).trans rfl
  split at h
  · rename_i c q hl
    simp only [Option.some.injEq, Prod.mk.injEq] at h
    obtain ⟨rfl, rfl⟩ := h
    obtain ⟨vs, hrun, hlen, hrel⟩ := key _ _ hl hp
    match vs, hlen with
    | [v], _ => exact ⟨v, by simpa using hrun, hrel 0 c v rfl rfl⟩
  · rename_i cs q hne hl
    simp only [Option.some.injEq, Prod.mk.injEq] at h
    obtain ⟨rfl, rfl⟩ := h
    obtain ⟨vs, hrun, hlen, hrel⟩ := key _ _ hl hp
    have hn : ¬ vs.toArray.size = 1 := by
      intro h1
      simp only [List.size_toArray] at h1
      match cs, hlen with
      | [], hlen => rw [h1] at hlen; simp at hlen
      | [c], _ => exact hne c rfl
      | _ :: _ :: _, hlen => rw [h1] at hlen; simp at hlen
    rw [dif_neg hn] at hrun
    exact ⟨_, hrun, vs, rfl, hlen, hrel⟩
  · cases h

/-- What a body leaves is what the call answers. -/
def bodyQ (T : Lays) (rs : List ResultVar) (K : SV → (Nat → Option ABlk) → Nat → Prop) : Exit → St → Prop
  | .normal, S | .ret, S => ∃ x p, resSV T S rs = some (x, p) ∧ p ∧ K x S.heap S.next
  | _, _ => False

theorem bodyQ_ret {rs : List ResultVar} {K : SV → (Nat → Option ABlk) → Nat → Prop} {S : St} {x : SV} {p : Prop} (h : resSV T S rs = some (x, p)) (hp : p) (hk : K x S.heap S.next) : bodyQ T rs K .ret S := ⟨x, p, h, hp, hk⟩

/-- Blocks of those who wait have turned. -/
structure Turn (F : Nat → Prop) (n0 : Nat) (w w2 : World) : Prop where
  os : w2.os = w.os
  tape : w2.tape = w.tape
  output : w2.output = w.output
  drawn : w.drawn ≤ w2.drawn
  size : w2.heap.size = w.heap.size
  blk : ∀ b, w2.heap[b]? = w.heap[b]? ∨ (F b ∧ n0 ≤ b ∧ (∀ c t z, w.heap[b]? ≠ some (.cells c t z)) ∧ ∀ c t z, w2.heap[b]? ≠ some (.cells c t z))
theorem Turn.refl (F : Nat → Prop) (n0 : Nat) (w : World) : Turn F n0 w w := ⟨rfl, rfl, rfl, Nat.le_refl _, rfl, fun _ => .inl rfl⟩
theorem Turn.trans {F : Nat → Prop} {n0 : Nat} {w w2 w3 : World} (h : Turn F n0 w w2) (k : Turn F n0 w2 w3) : Turn F n0 w w3 := by
  refine ⟨k.os.trans h.os, k.tape.trans h.tape, k.output.trans h.output, Nat.le_trans h.drawn k.drawn, k.size.trans h.size, fun b => ?_⟩
  rcases h.blk b with e | ⟨e1, e2, e3, e4⟩
  · rcases k.blk b with f | ⟨f1, f2, f3, f4⟩
    · exact .inl (f.trans e)
    · exact .inr ⟨f1, f2, by rw [← e]; exact f3, f4⟩
  · rcases k.blk b with f | ⟨f1, f2, f3, f4⟩
    · exact .inr ⟨e1, e2, e3, by rw [f]; exact e4⟩
    · exact .inr ⟨e1, e2, e3, f4⟩
theorem Turn.put {F : Nat → Prop} {n0 b : Nat} {w : World} {o o' : Obj} (h1 : F b) (h2 : n0 ≤ b) (h3 : w.heap[b]? = some o) (h4 : o.isCells = false) (h5 : o'.isCells = false) : Turn F n0 w (w.putObj b o') := by
  refine ⟨rfl, rfl, rfl, Nat.le_refl _, by simp, fun k => ?_⟩
  by_cases e : k = b
  · subst e
    refine .inr ⟨h1, h2, fun c t z e => ?_, fun c t z e => ?_⟩
    · rw [h3] at e; cases e; cases h4
    · rw [World.putObj_heap_same (lt_of_get h3)] at e; cases e; cases h5
  · exact .inl (World.putObj_heap_other e)
theorem Turn.ext0 {F : Nat → Prop} {n0 : Nat} {w w2 : World} {O : Nat → Prop} (h : Turn F n0 w w2) (hO : ∀ m, F m → O m) : Ext (fun _ => False) w O μ w2 O μ := by
  refine ⟨h.os, h.tape, h.output, Nat.le_of_eq h.size.symm, fun b hb hn => ?_, fun b cur ty fz hb => ?_, fun _ _ h => h, fun _ h => .inl h, fun _ _ h => h.elim, fun a ha => ?_, h.drawn⟩
  · rcases h.blk b with e | ⟨e1, _⟩
    · exact e
    · exact absurd (hO b e1) hn
  · rcases h.blk b with e | ⟨_, _, e3, _⟩
    · exact ⟨cur, e.trans hb, rfl⟩
    · exact absurd hb (e3 _ _ _)
  · unfold World.frozen?
    rcases h.blk a.block with e | ⟨_, _, e3, e4⟩
    · rw [e]
    · split
      · rename_i q; exact absurd q (e4 _ _ _)
      · split
        · rename_i q; exact absurd q (e3 _ _ _)
        · rfl
theorem Turn.rel {C : Ctx K} {w2 : World} {a2 : Act} (h : Turn C.F C.w0.heap.size w w2) (hR : Rel C μ S a w) (hk : Kept C a2 w2) (ht : a2.tmps = a.tmps) : Rel C μ S a2 w2 := by
  have he := h.ext0 (μ := μ) (O := Own C.F S.heap μ) fun m hm => .inl hm
  refine ⟨hk, by rw [ht]; exact hR.size, fun t => ?_, ⟨fun k B hk => ?_, hR.heap.inj, fun k m hm => ?_, hR.heap.dis, fun m hm => by rw [h.size]; exact hR.heap.frn m hm⟩, ?_⟩
  · rw [ht]; exact (hR.env t).mono he
  · obtain ⟨h1, h2⟩ := hR.heap.blk k B hk
    refine ⟨h1, h2.mono he rfl fun m hm => ?_⟩
    rcases h.blk m with e | ⟨e1, _⟩
    · exact e
    · exact absurd e1 (hR.heap.dis k m (by rw [hk]; rfl) hm)
  · rw [h.size]; exact hR.heap.lt k m hm
  · have low : ∀ b, b < C.w0.heap.size → w2.heap[b]? = w.heap[b]? := fun b hb => by
      rcases h.blk b with e | ⟨_, e2, _⟩
      · exact e
      · omega
    refine ⟨h.os.trans hR.ext.os, h.tape.trans hR.ext.tape, h.output.trans hR.ext.output, by rw [h.size]; exact hR.ext.size, fun b hb hn => (low b hb).trans (hR.ext.keep b hb hn), fun b cur ty fz hb => ?_, hR.ext.mu, hR.ext.owned, fun b hb hn => (low b hb).trans (hR.ext.frn b hb hn), fun x hx => ?_, Nat.le_trans hR.ext.drawn h.drawn⟩
    · obtain ⟨c2, h1, h2⟩ := hR.ext.shape b cur ty fz hb
      exact ⟨c2, (low b (lt_of_get hb)).trans h1, h2⟩
    · refine Eq.trans ?_ (hR.ext.frz x hx)
      unfold World.frozen?
      rw [low _ hx]
/-- A frame leaves with marks of rounds alone. -/
theorem leaves_marks {fn : Func} {tmps : Array Value} {R : Ending → World → Prop} {F : Nat → Prop} {n0 : Nat} {ro : Option Nat} {n : Nat} : ∀ (ds : List Deferred) (w : World),
    (∀ x ∈ ds, ∃ D, x = { target := .collected D, args := #[] } ∧ F D ∧ n0 ≤ D ∧ w.heap[D]? = some (.deferred (some []))) → (ds.Pairwise fun x y => x.target ≠ y.target) →
    (∀ w2, Turn F n0 w w2 → ∃ v, (results fn tmps).run P w2 = .ok v w2 ∧ R (.returned v) w2) → LeavesInM (wr ro) n P fn tmps R ds .returning w
  | [], w, _, _, h => h w (Turn.refl F n0 w)
  | x :: ds, w, hm, hp, h => by
    obtain ⟨D, hx, h1, h2, h3⟩ := hm x (by simp)
    rw [List.pairwise_cons] at hp
    refine ⟨by simp, .inl ⟨D, w.putObj D (.deferred none), by rw [hx], run_takeDeferred h3, leaves_marks ds _ (fun y hy => ?_) hp.2 fun w2 ht => h w2 ((Turn.put h1 h2 h3 rfl rfl).trans ht)⟩⟩
    obtain ⟨D', hy', k1, k2, k3⟩ := hm y (by simp [hy])
    refine ⟨D', hy', k1, k2, (World.putObj_heap_other fun e => hp.1 y hy ?_).trans k3⟩
    rw [hx, hy', e]

theorem ACall_body (G : Good P T) {f : FuncId} {fn : Func} {c : Code} {args : List CV} {K : SV → (Nat → Option ABlk) → Nat → Prop} (hf : P.funcs[f]? = some fn) (hb : fn.body = some c) (n : Nat) (hn : fn.ntmps = n) (hargs : args.length ≤ n)
    (h : AW nx P c (bodyQ T fn.results.toList K) ⟨n, initE args, H, nx⟩) : ACall P f args H nx K := by
  intro F μ w vals hH hg hA
  refine calls_wr.1 (callsIn_of_wp_marks (F := wr none) (n := 1) hf hb trivial ?_)
  let C : Ctx nx := ⟨F, w, Own F H μ, μ, fun k m h => (hH.lt k m h).1, none, hg⟩
  have hlen : vals.length = args.length := hA.1
  have hR : Rel C μ ⟨n, initE args, H, nx⟩ { tmps := vals.toArray ++ Array.replicate (fn.ntmps - vals.toArray.size) Go.undef, defers := [] } w := by
    refine ⟨⟨fun x hx => by simp at hx, by simp, fun l hl => by cases hl⟩, ?_, fun t => ?_, hH, Ext.refl F w _ μ⟩
    · simp [hn]; omega
    · show SRel w _ μ (initE args t) _
      unfold initE
      cases hc : args[t]? with
      | none => trivial
      | some c =>
        have ht : t < args.length := by
          rcases Nat.lt_or_ge t args.length with h | h
          · exact h
          · rw [List.getElem?_eq_none h] at hc; cases hc
        have htv : t < vals.length := by omega
        have := hA.2 t c vals[t] hc (List.getElem?_eq_getElem htv)
        have e : (vals.toArray ++ Array.replicate (fn.ntmps - vals.toArray.size) Go.undef).getD t Go.undef = vals[t] := by simp [Array.getD_eq_getD_getElem?, Array.getElem?_append, htv]
        show SRel w _ μ (.cv c) ((vals.toArray ++ Array.replicate (fn.ntmps - vals.toArray.size) Go.undef).getD t Go.undef)
        rw [e]
        exact this
  refine wpIn_mono (h C μ _ w hR) ?_
  rintro e a' w' ⟨C1, hC, μ', S', hR', hq⟩
  have key : ∀ x p, resSV T S' fn.results.toList = some (x, p) → p → K x S'.heap S'.next → LeavesInM (wr none) 1 P fn a'.tmps (fun e w' => ∃ v μ' x H' nx', e = .returned v ∧ Ext F w (Own F H μ) μ w' (Own F H' μ') μ' ∧ HRel F w' μ' H' nx' ∧ SRel w' (Own F H' μ') μ' x v ∧ K x H' nx') a'.defers .returning w' := by
    intro x p h1 h2 h3
    refine leaves_marks (F := C1.F) (n0 := C1.w0.heap.size) a'.defers w' hR'.defers.1 hR'.defers.2.1 fun w2 ht => ?_
    have hR2 : Rel C1 μ' S' { a' with defers := [] } w2 := ht.rel hR' ⟨fun x hx => by simp at hx, by simp, fun l hl => by rw [hC.ro] at hl; cases hl⟩ rfl
    obtain ⟨v, hv, hs⟩ := results_sound G hR2 h1 h2
    have hsub : ∀ m, Own F S'.heap μ' m → Own C1.F S'.heap μ' m := fun m hm => hm.imp (hC.F m) id
    have hx0 := hR2.ext
    rw [hC.w0, hC.O0, hC.μ0] at hx0
    have hext : Ext F w2 (Own C1.F S'.heap μ') μ' w2 (Own F S'.heap μ') μ' := ext_sub hsub
    refine ⟨v, hv, v, μ', x, S'.heap, S'.next, rfl, ⟨hx0.os, hx0.tape, hx0.output, hx0.size, hx0.keep, hx0.shape, hx0.mu, fun m hm => hx0.owned m (hsub m hm), fun b hb hF => hx0.frn b hb (hC.F b hF), hx0.frz, hx0.drawn⟩, ⟨fun k B hk => ?_, hR2.heap.inj, hR2.heap.lt, fun k m hk hm hF => hR2.heap.dis k m hk hm (hC.F m hF), fun m hm => hR2.heap.frn m (hC.F m hm)⟩, hs.mono hext, h3⟩
    obtain ⟨q1, q2⟩ := hR2.heap.blk k B hk
    exact ⟨q1, q2.mono hext rfl fun _ _ => rfl⟩
  cases e with
  | normal =>
    obtain ⟨x, p, h1, h2, h3⟩ := hq
    exact key x p h1 h2 h3
  | ret =>
    obtain ⟨x, p, h1, h2, h3⟩ := hq
    exact key x p h1 h2 h3
  | _ => exact hq.elim
end
end Go.Proofs.YtmpddomgiplnmaaDoor.Abs

/-
  CALLS THAT CHANGE NO MEMORY OF THE CALLER's: their contract, how it comes of a body (what it made is handed out for good), how it is used.
-/
namespace Go.Proofs.YtmpddomgiplnmaaDoor.Abs
open Go

def noneH : Nat → Option ABlk := fun _ => none
def noneμ : Nat → Option Nat := fun _ => none

def immAV : AV → Bool
  | .imm _ => true
  | .vptr _ _ => true
  | .fn _ nf first nc caps => ((List.range nf).all fun i => immAV (first i)) && ((List.range nc).all fun i => immAV (caps i))
  | _ => false
def immCV : CV → Bool
  | .one x => immAV x
  | .agg l => l.all immAV
def immSV : SV → Bool
  | .cv c => immCV c
  | .tup l => l.all immCV
  | _ => false

def frzN : Nat → (Nat → Option (AV × Prop)) → Option ((Nat → AV) × Prop)
  | 0, _ => some (fun _ => avDef, True)
  | n + 1, c => match frzN n c, c n with
    | some (f, p), some (y, q) => some (fun i => bif Nat.beq i n then y else f i, p ∧ q)
    | _, _ => none

/-- What was made is handed out for good. -/
def frzAV (H : Nat → Option ABlk) : AV → Option (AV × Prop)
  | .imm x => some (.imm x, True)
  | .vptr n cell => some (.vptr n cell, True)
  | .own b e i j => match H b with
    | some (.var _ cells) => match toIVs cells with
      | some xs => some (.vptr (xs.length - (i * e + j)) (fun q => xs.getD (i * e + j + q) ivDef), True)
      | none => none
    | some (.rows _ e' n cell) => bif Nat.beq e e' then some (.vptr (e' - j) (fun q => cell i (j + q)), i < n) else none
    | _ => none
  | .fn f nf first nc caps => match frzN nf (fun i => frzAV H (first i)), frzN nc (fun i => frzAV H (caps i)) with
    | some (f1, p), some (c1, q) => some (.fn f nf f1 nc c1, p ∧ q)
    | _, _ => none
  | .osl b e r j len _ => match H b with
    | some (.rows _ e' n cell) => bif Nat.beq e e' && Nat.beq j 0 then some (.imm (.sl e len false fun i q => cell (plusN r i) q), r + len ≤ n) else none
    | _ => none
  | .omp b => match H b with
    | some (.mp ka kks va vn dom val) => some (.imm (.mp ka kks va vn dom val), True)
    | _ => none

def frzL (H : Nat → Option ABlk) : List AV → Option (List AV × Prop)
  | [] => some ([], True)
  | x :: l => match frzAV H x, frzL H l with
    | some (y, p), some (ys, q) => some (y :: ys, p ∧ q)
    | _, _ => none

def frzCV (H : Nat → Option ABlk) : CV → Option (CV × Prop)
  | .one x => match frzAV H x with
    | some (y, p) => some (.one y, p)
    | none => none
  | .agg l => match frzL H l with
    | some (y, p) => some (.agg y, p)
    | none => none

def frzT (H : Nat → Option ABlk) : List CV → Option (List CV × Prop)
  | [] => some ([], True)
  | x :: l => match frzCV H x, frzT H l with
    | some (y, p), some (ys, q) => some (y :: ys, p ∧ q)
    | _, _ => none

def frzSV (H : Nat → Option ABlk) : SV → Option (SV × Prop)
  | .cv c => match frzCV H c with
    | some (y, p) => some (.cv y, p)
    | none => none
  | .tup l => match frzT H l with
    | some (y, p) => some (.tup y, p)
    | none => none
  | _ => none

section
variable {K : Nat} {P : Program} {T : Lays} {F : Nat → Prop} {w : World} {μ : Nat → Option Nat} {H : Nat → Option ABlk} {nx : Nat} {E : Nat → SV} {a : Act} {S : St} {Q : Exit → St → Prop}

theorem IRel.less {O O' : Nat → Prop} (h : ∀ m, O' m → O m) {x : IV} {v : Value} (hx : IRel w O x v) : IRel w O' x v :=
  IRel.mono (F := fun _ => False) (μ := noneμ) (μ' := noneμ) (ext_sub h) x v hx

theorem frzN_get : ∀ (n : Nat) (c : Nat → Option (AV × Prop)) (f : Nat → AV) (p : Prop), frzN n c = some (f, p) → p → ∀ i, i < n → ∃ q, c i = some (f i, q) ∧ q
  | 0, _, _, _, _, _, i, hi => by omega
  | n + 1, c, f, p, h, hp, i, hi => by
    simp only [frzN] at h
    split at h
    · rename_i f0 p0 y q h1 h2
      simp only [Option.some.injEq, Prod.mk.injEq] at h
      obtain ⟨rfl, rfl⟩ := h
      by_cases hin : i = n
      · subst hin
        refine ⟨q, ?_, hp.2⟩
        rw [h2]
        dsimp only
        rw [Nat.beq_refl]
        rfl
      · obtain ⟨q', h3, h4⟩ := frzN_get n c f0 p0 h1 hp.1 i (by omega)
        refine ⟨q', ?_, h4⟩
        rw [h3]
        have : Nat.beq i n = false := by
          cases hb : Nat.beq i n with
          | false => rfl
          | true => exact absurd (Nat.eq_of_beq_eq_true hb) hin
        dsimp only
        rw [this]
        rfl
    · cases h

theorem frzAV_sound (hH : HRel F w μ H nx) (μ' : Nat → Option Nat) : ∀ (x : AV) {y : AV} {p : Prop} {v : Value}, frzAV H x = some (y, p) → p → ARel w (Own F H μ) μ x v → ARel w F μ' y v
  | .imm z, y, p, v, h, hp, hx => by
    simp only [frzAV, Option.some.injEq, Prod.mk.injEq] at h
    obtain ⟨rfl, _⟩ := h
    exact IRel.less (fun m hm => .inl hm) hx
  | .vptr n cell, y, p, v, h, hp, hx => by
    simp only [frzAV, Option.some.injEq, Prod.mk.injEq] at h
    obtain ⟨rfl, _⟩ := h
    obtain ⟨b, o, hv, h4, h5, h6⟩ := hx
    refine ⟨b, o, hv, fun hF => h4 (.inl hF), h5, fun j hj => ?_⟩
    obtain ⟨u, hu, hr⟩ := h6 j hj
    exact ⟨u, hu, IRel.less (fun m hm => .inl hm) hr⟩
  | .own b e i j, y, p, v, h, hp, hx => by
    simp only [frzAV] at h
    obtain ⟨m, hm, rfl⟩ := hx
    split at h
    · rename_i ty cells hB
      split at h
      · rename_i xs hxs
        simp only [Option.some.injEq, Prod.mk.injEq] at h
        obtain ⟨rfl, _⟩ := h
        have hF : ¬ F m := hH.dis b m (by rw [hB]; rfl) hm
        obtain ⟨m2, cur, hm2, hw, hl⟩ := (hH.blk b _ hB).2
        obtain rfl : m2 = m := by rw [hm] at hm2; exact (Option.some.inj hm2).symm
        refine ⟨m2, i * e + j, rfl, hF, (hH.lt b m2 hm).2, fun q hq => ?_⟩
        have hlen := (toIVs_get cells xs hxs).1
        have hjl : i * e + j + q < cur.toList.length := by rw [hl.1]; omega
        obtain ⟨u, hu, hr⟩ := toIVs_rel hxs hl (i * e + j + q) hjl
        refine ⟨u, ?_, IRel.less (fun m hm => .inl hm) hr⟩
        simp only [World.cell?, hw]
        simpa using hu
      · cases h
    · rename_i ty e' n cell hB
      cases hc : Nat.beq e e' with
      | false => rw [hc] at h; simp at h
      | true =>
        rw [hc] at h
        simp only [cond_true, Option.some.injEq, Prod.mk.injEq] at h
        obtain ⟨rfl, rfl⟩ := h
        obtain rfl := Nat.eq_of_beq_eq_true hc
        have hF : ¬ F m := hH.dis b m (by rw [hB]; rfl) hm
        rcases (hH.blk b _ hB).2 with ⟨hm', _⟩ | ⟨m2, cur, hm', hw, hsz, hcell⟩
        · rw [hm] at hm'; cases hm'
        obtain rfl : m2 = m := by rw [hm] at hm'; exact (Option.some.inj hm').symm
        refine ⟨m2, i * e + j, rfl, hF, (hH.lt b m2 hm).2, fun q hq => ?_⟩
        obtain ⟨u, hu1, hu2⟩ := hcell i hp (j + q) (by omega)
        refine ⟨u, ?_, IRel.less (fun m hm => .inl hm) hu2⟩
        simp only [World.cell?, hw]
        rw [← hu1]
        simp only [Option.isSome_none, Bool.false_eq_true, if_false]
        congr 1
        omega
    · cases h
  | .osl b e r j len app, y, p, v, h, hp, hx => by
    simp only [frzAV] at h
    split at h
    · rename_i ty e' n cell hb
      cases hc : (Nat.beq e e' && Nat.beq j 0) with
      | false => rw [hc] at h; simp at h
      | true =>
        rw [hc] at h
        simp only [cond_true, Option.some.injEq, Prod.mk.injEq] at h
        obtain ⟨rfl, rfl⟩ := h
        simp only [Bool.and_eq_true] at hc
        simp only [plusN_eq]
        have h1 := Nat.eq_of_beq_eq_true hc.1
        have h2 := Nat.eq_of_beq_eq_true hc.2
        subst h1; subst h2
        rcases hx with ⟨rfl, hem⟩ | ⟨m, cap, hm, rfl, c1, c2, c3⟩
        · exact .inl ⟨hem, rfl⟩
        · have hF : ¬ F m := hH.dis b m (by rw [hb]; rfl) hm
          refine .inr ⟨m, r * e + 0, cap, rfl, c1, c2, fun h => (by cases h), hF, (hH.lt b m hm).2, fun i hi j hj => ?_⟩
          rcases (hH.blk b _ hb).2 with ⟨hm', _⟩ | ⟨m2, cur, hm', hw, hsz, hcell⟩
          · rw [hm] at hm'; cases hm'
          obtain rfl : m2 = m := by rw [hm] at hm'; exact (Option.some.inj hm').symm
          obtain ⟨u, hu1, hu2⟩ := hcell (r + i) (by omega) j hj
          refine ⟨u, ?_, IRel.less (fun m hm => .inl hm) hu2⟩
          simp only [World.cell?, hw]
          rw [← hu1]
          simp only [Option.isSome_none, Bool.false_eq_true, if_false, Nat.add_zero]
          congr 1
          rw [Nat.add_mul]
    · cases h
  | .omp b, y, p, v, h, hp, hx => by
    simp only [frzAV] at h
    split at h
    · rename_i ka kks va vn dom val hb
      simp only [Option.some.injEq, Prod.mk.injEq] at h
      obtain ⟨rfl, rfl⟩ := h
      obtain ⟨m, hm, rfl⟩ := hx
      have hF : ¬ F m := hH.dis b m (by rw [hb]; rfl) hm
      obtain ⟨m2, es, clock, hm2, hw, h4, h5, h6⟩ := (hH.blk b _ hb).2
      obtain rfl : m2 = m := by rw [hm] at hm2; exact (Option.some.inj hm2).symm
      refine ⟨m2, es, clock, rfl, hF, (hH.lt b m2 hm).2, hw, h4, fun e he => ?_, h6⟩
      obtain ⟨ks, q1, q2, q3, cs, q4, q5, q6⟩ := h5 e he
      exact ⟨ks, q1, q2, q3, cs, q4, q5, fun j u hu => IRel.less (fun m hm => .inl hm) (q6 j u hu)⟩
    · cases h
  | .fn f nf first nc caps, y, p, v, h, hp, hx => by
    simp only [frzAV] at h
    split at h
    · rename_i f1 p1 c1 q1 h1 h2
      simp only [Option.some.injEq, Prod.mk.injEq] at h
      obtain ⟨rfl, rfl⟩ := h
      obtain ⟨fs, cs, hv, l1, l2, r1, r2⟩ := hx
      refine ⟨fs, cs, hv, l1, l2, fun i u hu => ?_, fun i u hu => ?_⟩
      · obtain ⟨q, e1, e2⟩ := frzN_get nf _ f1 p1 h1 hp.1 i (by rw [← l1]; exact (List.getElem?_eq_some_iff.1 hu).1)
        exact frzAV_sound hH μ' (first i) e1 e2 (r1 i u hu)
      · obtain ⟨q, e1, e2⟩ := frzN_get nc _ c1 q1 h2 hp.2 i (by rw [← l2]; exact (List.getElem?_eq_some_iff.1 hu).1)
        exact frzAV_sound hH μ' (caps i) e1 e2 (r2 i u hu)
    · cases h

theorem frzL_sound (hH : HRel F w μ H nx) (μ' : Nat → Option Nat) : ∀ (l l' : List AV) (p : Prop) (vs : List Value), frzL H l = some (l', p) → p → LRel w (Own F H μ) μ l vs → LRel w F μ' l' vs := by
  intro l
  induction l with
  | nil => intro l' p vs h _ hl; simp [frzL] at h; obtain ⟨rfl, _⟩ := h; exact ⟨hl.1, fun i x u hx => by simp at hx⟩
  | cons x l ih =>
    intro l' p vs h hp hl
    simp only [frzL] at h
    split at h
    · rename_i y p1 ys q h1 h2
      simp only [Option.some.injEq, Prod.mk.injEq] at h
      obtain ⟨rfl, rfl⟩ := h
      match vs, hl with
      | [], hl => exact absurd hl.1 (by simp)
      | v :: vs, hl =>
        have hx := hl.2 0 x v rfl rfl
        exact LRel.cons (frzAV_sound hH μ' x h1 hp.1 hx) (ih ys q vs h2 hp.2 ⟨by simpa using hl.1, fun i z u hz hu => hl.2 (i + 1) z u hz hu⟩)
    · cases h

theorem frzCV_sound (hH : HRel F w μ H nx) (μ' : Nat → Option Nat) {x y : CV} {p : Prop} {v : Value} (h : frzCV H x = some (y, p)) (hp : p) (hx : CRel w (Own F H μ) μ x v) : CRel w F μ' y v := by
  cases x with
  | one x =>
    simp only [frzCV] at h
    split at h
    · rename_i z q hz
      simp only [Option.some.injEq, Prod.mk.injEq] at h
      obtain ⟨rfl, rfl⟩ := h
      exact frzAV_sound hH μ' x hz hp hx
    · cases h
  | agg l =>
    simp only [frzCV] at h
    split at h
    · rename_i z q hz
      simp only [Option.some.injEq, Prod.mk.injEq] at h
      obtain ⟨rfl, rfl⟩ := h
      obtain ⟨cs, hv, hl⟩ := hx
      exact ⟨cs, hv, frzL_sound hH μ' _ _ _ cs hz hp hl⟩
    · cases h

theorem frzT_sound (hH : HRel F w μ H nx) (μ' : Nat → Option Nat) : ∀ (l l' : List CV) (p : Prop) (vs : List Value), frzT H l = some (l', p) → p → TRel w (Own F H μ) μ l vs → TRel w F μ' l' vs := by
  intro l
  induction l with
  | nil => intro l' p vs h _ hl; simp [frzT] at h; obtain ⟨rfl, _⟩ := h; exact ⟨hl.1, fun i x u hx => by simp at hx⟩
  | cons x l ih =>
    intro l' p vs h hp hl
    simp only [frzT] at h
    split at h
    · rename_i y p1 ys q h1 h2
      simp only [Option.some.injEq, Prod.mk.injEq] at h
      obtain ⟨rfl, rfl⟩ := h
      match vs, hl with
      | [], hl => exact absurd hl.1 (by simp)
      | v :: vs, hl =>
        have hx := hl.2 0 x v rfl rfl
        have hy := frzCV_sound hH μ' h1 hp.1 hx
        have hr := ih ys q vs h2 hp.2 ⟨by simpa using hl.1, fun i z u hz hu => hl.2 (i + 1) z u hz hu⟩
        refine ⟨by simp [hr.1], fun i z u hz hu => ?_⟩
        cases i with
        | zero => simp at hz hu; subst hz; subst hu; exact hy
        | succ i => simp at hz hu; exact hr.2 i z u hz hu
    · cases h

theorem frzSV_sound (hH : HRel F w μ H nx) (μ' : Nat → Option Nat) {x y : SV} {p : Prop} {v : Value} (h : frzSV H x = some (y, p)) (hp : p) (hx : SRel w (Own F H μ) μ x v) : SRel w F μ' y v := by
  cases x with
  | cv c =>
    simp only [frzSV] at h
    split at h
    · rename_i z q hz
      simp only [Option.some.injEq, Prod.mk.injEq] at h
      obtain ⟨rfl, rfl⟩ := h
      exact frzCV_sound hH μ' hz hp hx
    · cases h
  | tup l =>
    simp only [frzSV] at h
    split at h
    · rename_i z q hz
      simp only [Option.some.injEq, Prod.mk.injEq] at h
      obtain ⟨rfl, rfl⟩ := h
      obtain ⟨vs, hv, hl⟩ := hx
      exact ⟨vs, hv, frzT_sound hH μ' _ _ _ vs hz hp hl⟩
    · cases h
  | _ => simp [frzSV] at h

/-- A call on immutable data that answers immutable data, and changes nothing that was there. (O: what is others'.) -/
def PCall (P : Program) (f : FuncId) (args : List CV) (r : SV) : Prop :=
  ∀ (O : Nat → Prop) (w : World) (vals : List Value), (∀ m, O m → m < w.heap.size) → gOk w O → TRel w O noneμ args vals →
    Calls P f vals.toArray w fun e w' => ∃ v, e = .returned v ∧ Ext O w O noneμ w' O noneμ ∧ SRel w' O noneμ r v

theorem own_none : Own F noneH μ = F := by
  funext m
  apply propext
  constructor
  · rintro (h | ⟨k, hk, _⟩)
    · exact h
    · cases hk
  · exact .inl

theorem hrel_none (h : ∀ m, F m → m < w.heap.size) : HRel F w noneμ noneH 0 :=
  ⟨fun k B hk => (by cases hk), fun k k' m hk => (by cases hk), fun k m hm => (by cases hm), fun k m hk => (by cases hk), h⟩

/-- Whatever is x is y. -/
def ILe (x y : IV) : Prop := ∀ w O v, IRel w O x v → IRel w O y v
def SLe (x y : SV) : Prop := ∀ w O μ v, SRel w O μ x v → SRel w O μ y v
def CLe (x y : CV) : Prop := ∀ w O μ v, CRel w O μ x v → CRel w O μ y v

theorem ILe.refl (x : IV) : ILe x x := fun _ _ _ h => h
theorem ILe.of_eq {x y : IV} (h : x = y) : ILe x y := h ▸ ILe.refl x
theorem CLe.refl (x : CV) : CLe x x := fun _ _ _ _ h => h
theorem CLe.of_eq {x y : CV} (h : x = y) : CLe x y := h ▸ CLe.refl x
theorem SLe.of_eq {x y : SV} (h : x = y) : SLe x y := h ▸ fun _ _ _ _ h => h
theorem CLe.imm {x y : IV} (h : ILe x y) : CLe (.one (.imm x)) (.one (.imm y)) := fun w O _ v hx => h w O v hx
theorem SLe.cv {x y : CV} (h : CLe x y) : SLe (.cv x) (.cv y) := fun w O μ v hx => h w O μ v hx
theorem SLe.tup {l m : List CV} (h : l.length = m.length) (he : ∀ (i : Nat) x y, l[i]? = some x → m[i]? = some y → CLe x y) : SLe (.tup l) (.tup m) := by
  rintro w O μ v ⟨vs, hv, hl, hr⟩
  refine ⟨vs, hv, hl.trans h, fun i y u hy hu => ?_⟩
  have hi : i < l.length := by rw [h]; exact (List.getElem?_eq_some_iff.1 hy).1
  exact he i l[i] y (List.getElem?_eq_getElem hi) hy w O μ u (hr i l[i] u (List.getElem?_eq_getElem hi) hu)
theorem SLe.pair {a b c d : CV} (h1 : CLe a c) (h2 : CLe b d) : SLe (.tup [a, b]) (.tup [c, d]) := SLe.tup rfl fun i x y hx hy => by
  match i, hx, hy with
  | 0, hx, hy => simp at hx hy; subst hx; subst hy; exact h1
  | 1, hx, hy => simp at hx hy; subst hx; subst hy; exact h2
theorem SLe.triple {a b c d e f : CV} (h1 : CLe a d) (h2 : CLe b e) (h3 : CLe c f) : SLe (.tup [a, b, c]) (.tup [d, e, f]) := SLe.tup rfl fun i x y hx hy => by
  match i, hx, hy with
  | 0, hx, hy => simp at hx hy; subst hx; subst hy; exact h1
  | 1, hx, hy => simp at hx hy; subst hx; subst hy; exact h2
  | 2, hx, hy => simp at hx hy; subst hx; subst hy; exact h3

theorem ILe.sl {e n e' n' : Nat} {ex ex' : Bool} {c c' : Nat → Nat → IV} (hn : n' = n) (hex : ex' = true → ex = true) (hc : n = 0 ∨ (e' = e ∧ ∀ i j, i < n → j < e → ILe (c i j) (c' i j))) : ILe (.sl e n ex c) (.sl e' n' ex' c') := by
  rintro w O v (⟨hv, h0⟩ | ⟨b, o, cap, hv, h1, h2, h3, h4, h5, h6⟩)
  · exact .inl ⟨hv, hn.trans h0⟩
  · refine .inr ⟨b, o, cap, hn ▸ hv, by omega, h2, fun h => by rw [h3 (hex h), hn], h4, h5, fun i hi j hj => ?_⟩
    rcases hc with hc | ⟨rfl, hc⟩
    · omega
    · obtain ⟨u, hu, hr⟩ := h6 i (by omega) j hj
      exact ⟨u, hu, hc i j (by omega) hj w O u hr⟩

/-- What a body's end must be: its results, handed out, are these. -/
def Ends (r : SV) (x : SV) (H : Nat → Option ABlk) (_ : Nat) : Prop := ∃ y p, frzSV H x = some (y, p) ∧ p ∧ SLe y r

theorem Ends.intro {r x y : SV} {H : Nat → Option ABlk} {n : Nat} {p : Prop} (h : frzSV H x = some (y, p)) (hp : p) (he : y = r) : Ends r x H n := ⟨y, p, h, hp, SLe.of_eq he⟩
theorem Ends.le {r x y : SV} {H : Nat → Option ABlk} {n : Nat} {p : Prop} (h : frzSV H x = some (y, p)) (hp : p) (he : SLe y r) : Ends r x H n := ⟨y, p, h, hp, he⟩

theorem PCall_of {f : FuncId} {args : List CV} {r : SV} (h : ACall P f args noneH 0 (Ends r)) : PCall P f args r := by
  intro O w vals hO hg hA
  have hA' : TRel w (Own O noneH noneμ) noneμ args vals := by rw [own_none]; exact hA
  refine (h O noneμ w vals (hrel_none hO) (by rw [own_none]; exact hg) hA').mono ?_
  rintro e w' ⟨v, μ', x, H', nx', he, hext, hH', hs, y, p, hf, hp, hle⟩
  refine ⟨v, he, ?_, hle _ _ _ _ (frzSV_sound hH' noneμ hf hp hs)⟩
  rw [own_none] at hext
  exact ⟨hext.os, hext.tape, hext.output, hext.size, hext.keep, hext.shape, fun k m hm => (by cases hm), fun m hm => .inl hm, hext.frn, hext.frz, hext.drawn⟩

theorem ret_bool {a b : Bool} (h : a = b) : SV.cv (ione (.bool a)) = .cv (ibool b) := by rw [h]; rfl
theorem ret_int {k : IntKind} {a b : Int} (h : a = b) : SV.cv (ione (.int k a)) = .cv (ione (.int k b)) := by rw [h]

theorem immA_rel {O : Nat → Prop} {μ μ' : Nat → Option Nat} : ∀ {x : AV} {v : Value}, immAV x = true → ARel w O μ x v → ARel w O μ' x v
  | .imm _, _, _, hx => hx
  | .vptr _ _, _, _, hx => hx
  | .fn f nf first nc caps, v, h, hx => by
    obtain ⟨fs, cs, hv, h1, h2, h3, h4⟩ := hx
    simp only [immAV, Bool.and_eq_true, List.all_eq_true, List.mem_range] at h
    refine ⟨fs, cs, hv, h1, h2, fun i u hu => ?_, fun i u hu => ?_⟩
    · exact immA_rel (x := first i) (h.1 i (by rw [← h1]; exact (List.getElem?_eq_some_iff.1 hu).1)) (h3 i u hu)
    · exact immA_rel (x := caps i) (h.2 i (by rw [← h2]; exact (List.getElem?_eq_some_iff.1 hu).1)) (h4 i u hu)
  | .own _ _ _ _, _, h, _ => by simp [immAV] at h
  | .osl _ _ _ _ _ _, _, h, _ => by simp [immAV] at h
  | .omp _, _, h, _ => by simp [immAV] at h
theorem immC_rel {O : Nat → Prop} {μ μ' : Nat → Option Nat} {x : CV} {v : Value} (h : immCV x = true) (hx : CRel w O μ x v) : CRel w O μ' x v := by
  cases x with
  | one x => exact immA_rel (x := x) h hx
  | agg l =>
    obtain ⟨cs, hv, hl, hr⟩ := hx
    simp only [immCV, List.all_eq_true] at h
    exact ⟨cs, hv, hl, fun i x u h1 h2 => immA_rel (h x (List.mem_of_getElem? h1)) (hr i x u h1 h2)⟩
theorem immT_rel {O : Nat → Prop} {μ μ' : Nat → Option Nat} {l : List CV} {vs : List Value} (h : l.all immCV = true) (hx : TRel w O μ l vs) : TRel w O μ' l vs := by
  rw [List.all_eq_true] at h
  exact ⟨hx.1, fun i x u h1 h2 => immC_rel (h x (List.mem_of_getElem? h1)) (hx.2 i x u h1 h2)⟩
theorem immS_rel {O : Nat → Prop} {μ μ' : Nat → Option Nat} {x : SV} {v : Value} (h : immSV x = true) (hx : SRel w O μ x v) : SRel w O μ' x v := by
  cases x with
  | cv c => exact immC_rel (x := c) h hx
  | tup l => obtain ⟨vs, hv, hl⟩ := hx; exact ⟨vs, hv, immT_rel h hl⟩
  | _ => simp [immSV] at h

/-- A named function with a body. -/
def CallOk (P : Program) (f : FuncId) : Prop := (P.funcs[f]?.map fun fn => (fn.name == "runtime.NumGoroutine", fn.body.isSome)) = some (false, true)

theorem run_callFunc {f : FuncId} (h : CallOk P f) (args : Array Value) : (callFunc f args).run P w = .ok (.enter f args) w := by
  unfold CallOk at h
  rw [Option.map_eq_some_iff] at h
  obtain ⟨fn, hf, he⟩ := h
  simp only [Prod.mk.injEq] at he
  obtain ⟨h1, h2⟩ := he
  have n1 : ¬ fn.name = "runtime.NumGoroutine" := by simpa using h1
  have n2 : ¬ fn.body = none := by intro e; rw [e] at h2; cases h2
  simp [callFunc, hf, n1, n2]

def fnList (n : Nat) (g : Nat → AV) : List CV := (List.range n).map fun i => .one (g i)

/-- Which function a call enters, on what: what was bound first, the arguments, what was captured. -/
def callOf (E : Nat → SV) (c : Call) : Option (FuncId × List CV × Prop) :=
  match c.callee with
  | .value x => match rd E x, listCV E c.args.toList with
    | .cv (.one (.fn (.func f) nf first nc caps)), some (cvs, p) => some (f, fnList nf first ++ (cvs ++ fnList nc caps), need E x ∧ p)
    | _, _ => none
  | _ => none

theorem fnList_rel {O : Nat → Prop} {n : Nat} {g : Nat → AV} {fs : List Value} (hl : fs.length = n) (h : ∀ i u, fs[i]? = some u → ARel w O μ (g i) u) : TRel w O μ (fnList n g) fs := by
  refine ⟨by simp [fnList, hl], fun i x u hx hu => ?_⟩
  have hi : i < n := by rw [← hl]; exact (List.getElem?_eq_some_iff.1 hu).1
  simp only [fnList, List.getElem?_map, List.getElem?_range hi, Option.map_some, Option.some.injEq] at hx
  subst hx
  exact h i u hu

theorem TRel.append {O : Nat → Prop} {l k : List CV} {cs ds : List Value} (h : TRel w O μ l cs) (h' : TRel w O μ k ds) : TRel w O μ (l ++ k) (cs ++ ds) := by
  refine ⟨by simp [h.1, h'.1], fun i y v h1 h2 => ?_⟩
  rw [List.getElem?_append] at h1 h2
  rw [h.1] at h2
  split at h1
  · rename_i hlt; rw [if_pos hlt] at h2; exact h.2 i y v h1 h2
  · rename_i hlt; rw [if_neg hlt] at h2; exact h'.2 _ y v h1 h2

theorem callOf_sound {O : Nat → Prop} (hE : ERel w O μ E a) {c : Call} {o : Oper} {f : FuncId} {l : List CV} {p : Prop} (h : callOf E c = some (f, l, p)) (hp : p) (hc : CallOk P f) (ho : o.op = .call c) :
    ∃ vals : List Value, TRel w O μ l vals ∧ (execOp a.eval o).run P w = .ok (.enter f vals.toArray) w := by
  obtain ⟨callee, args, tys⟩ := c
  unfold callOf at h
  split at h
  · rename_i x hcal
    simp only at hcal
    subst hcal
    split at h
    · rename_i f' nf first nc caps cvs q hx hl
      simp only [Option.some.injEq, Prod.mk.injEq] at h
      obtain ⟨rfl, rfl, rfl⟩ := h
      obtain ⟨fs, cs, hv, h1, h2, h3, h4⟩ := rd_one hE hx hp.1
      have hA := listCV_sound hE _ _ _ hl hp.2
      refine ⟨fs ++ (args.toList.map a.eval ++ cs), (fnList_rel h1 h3).append (hA.append (fnList_rel h2 h4)), ?_⟩
      have hr := run_callFunc (w := w) hc (fs.toArray ++ (args.map a.eval ++ cs.toArray))
      have e : (fs ++ (args.toList.map a.eval ++ cs)).toArray = fs.toArray ++ (args.map a.eval ++ cs.toArray) := by apply Array.toList_inj.1; simp
      rw [e]
      simp [execOp, ho, resolve, hv, Deferred.ofValue, invoke, hr]
    · cases h
  · cases h

/-- The world behind such a call, as the caller sees it. -/
theorem pcall_step {C : Ctx K} {w' : World} {r : SV} {v : Value} (hR : Rel C μ S a w) (hext : Ext (Own C.F S.heap μ) w (Own C.F S.heap μ) noneμ w' (Own C.F S.heap μ) noneμ) (hs : SRel w' (Own C.F S.heap μ) noneμ r v) (hr : immSV r = true) :
    Rel C μ S a w' ∧ SRel w' (Own C.F S.heap μ) μ r v := by
  have hall : ∀ b, b < w.heap.size → w'.heap[b]? = w.heap[b]? := fun b hb => by
    by_cases h : Own C.F S.heap μ b
    · exact hext.frn b hb h
    · exact hext.keep b hb h
  have he : Ext C.F w (Own C.F S.heap μ) μ w' (Own C.F S.heap μ) μ :=
    ⟨hext.os, hext.tape, hext.output, hext.size, hext.keep, hext.shape, fun _ _ h => h, fun m hm => .inl hm, fun b hb _ => hall b hb, hext.frz, hext.drawn⟩
  refine ⟨⟨hR.defers.mono he, hR.size, hR.env.mono he, ⟨fun k B hk => ?_, hR.heap.inj, fun k m hm => ?_, hR.heap.dis, fun m hm => Nat.lt_of_lt_of_le (hR.heap.frn m hm) hext.size⟩, hR.ext.trans he⟩, immS_rel hr hs⟩
  · obtain ⟨h1, h2⟩ := hR.heap.blk k B hk
    exact ⟨h1, h2.mono he rfl fun m hm => hall m (hR.heap.lt k m hm).2⟩
  · have := hR.heap.lt k m hm
    exact ⟨this.1, Nat.lt_of_lt_of_le this.2 hext.size⟩

theorem own_lt {C : Ctx K} (hR : Rel C μ S a w) : ∀ m, Own C.F S.heap μ m → m < w.heap.size := by
  rintro m (h | ⟨k, _, hm⟩)
  · exact hR.heap.frn m h
  · exact (hR.heap.lt k m hm).2

end
end Go.Proofs.YtmpddomgiplnmaaDoor.Abs

/-
  REGIONS WHOSE ORDER IS OPEN, of operations that change no memory of ours, calls of that kind among them: whatever the order, they come to what they come to in the order of the text.
-/
namespace Go.Proofs.YtmpddomgiplnmaaDoor.Abs
open Go

section inv
variable {K : Nat} {P : Program} {ops : Array Oper} {Q : Exit → Act → World → Prop}

/-- An invariant over what has been done. -/
theorem wpAny_inv (I : Array Bool → Act → World → Prop) (hstep : ∀ listed a w i, I listed a w → i ∈ Region.ready .any ops listed → wpOpL P ops Q i (I (listed.setIfInBounds i true)) a w)
    (hend : ∀ listed a w, I listed a w → Region.ready .any ops listed = [] → Q .normal a w) :
    ∀ (fuel : Nat) (listed : Array Bool) (a : Act) (w : World), listed.size = ops.size → (listed.toList.filter (! ·)).length ≤ fuel → I listed a w → wpAnyL P .any ops Q fuel listed a w := by
  intro fuel
  induction fuel with
  | zero =>
    intro listed a w hs hf hI
    have hr : Region.ready .any ops listed = [] := by
      rw [List.eq_nil_iff_forall_not_mem]
      intro j hj
      rw [mem_ready] at hj
      obtain ⟨hfalse, o', ho', _⟩ := hj
      have hlt : j < ops.size := (Array.getElem?_eq_some_iff.1 ho').1
      have hlt' : j < listed.size := by omega
      have hm : false ∈ listed.toList.filter (! ·) := by
        rw [List.mem_filter]
        refine ⟨?_, rfl⟩
        have : listed[j] = false := by simpa [Array.getD, hlt'] using hfalse
        rw [← this]
        exact Array.getElem_mem_toList _
      have : (listed.toList.filter (! ·)) = [] := List.eq_nil_of_length_eq_zero (by omega)
      rw [this] at hm
      cases hm
    exact ⟨hr, hend listed a w hI hr⟩
  | succ fuel ih =>
    intro listed a w hs hf hI
    refine ⟨fun hr => hend listed a w hI hr, fun i hi => ?_⟩
    refine wpOpL_mono (fun a' w' h => ih _ a' w' (by simpa using hs) ?_ h) (hstep listed a w i hI hi)
    rw [mem_ready] at hi
    obtain ⟨hfalse, o', ho', _⟩ := hi
    have hlt : i < ops.size := (Array.getElem?_eq_some_iff.1 ho').1
    have hlt' : i < listed.size := by omega
    have hget : listed.toList[i]'(by simpa using hlt') = false := by simpa [Array.getD, hlt'] using hfalse
    rw [Array.toList_setIfInBounds]
    have key : ∀ (l : List Bool) (i : Nat) (h : i < l.length), l[i] = false → ((l.set i true).filter (! ·)).length + 1 = (l.filter (! ·)).length := by
      intro l
      induction l with
      | nil => intro i h; simp at h
      | cons b l ih =>
        intro i h hb
        cases i with
        | zero => simp at hb; subst hb; simp
        | succ i =>
          simp at hb
          have := ih i (by simpa using h) hb
          cases b <;> simp [List.set_cons_succ] <;> omega
    have := key listed.toList i (by simpa using hlt') hget
    omega
end inv

/-- The slots that an operation looks at. -/
def looks (ops : List Oper) (o : Oper) : List Nat :=
  (o.op.operands.toList.filterMap fun | .tmp t => some t | _ => none) ++
  (match o.guard with
   | some (g, _) => (match ops[g]? with
     | some o' => o'.dst.toList
     | none => [])
   | none => [])

def memN : List Nat → Nat → Bool
  | [], _ => false
  | x :: l, t => bif Nat.beq t x then true else memN l t

def restr (E : Nat → SV) (l : List Nat) : Nat → SV := fun t => bif memN l t then E t else .undef

def gdw (g : Option Bool) (x : SV) : SV := match g with
  | none => x
  | some b => .gd b x
def gdp (g : Option Bool) (p : Prop) : Prop := match g with
  | none => p
  | some b => b = true → p

/-- A table of pure calls that is true. -/
def TabOk (P : Program) (tab : Tab) : Prop := ∀ f args r p, tab f args = some (r, p) → p → CallOk P f ∧ PCall P f args r

/-- An operation that changes no memory of ours: reckoned, or a call whose answer is told. -/
def stepV (_P : Program) (T : Lays) (orc : Tab) (H : Nat → Option ABlk) (_i : Nat) (E : Nat → SV) (o : Oper) (g : Option Bool) : Option (SV × Prop) :=
  match evalV T H E o.op with
  | some (x, vc) => force x fun x => some (gdw g x, gdp g vc)
  | none => match o.op with
    | .call c => match callOf E c with
      | some (f, cvs, p) => match orc f cvs with
        | some (r, q) => bif cvs.all immCV && immSV r then some (gdw g r, gdp g (p ∧ q)) else none
        | none => none
      | none => none
    | _ => none

def drawOps (P : Program) (T : Lays) (orc : Tab) (ops : List Oper) (n : Nat) (H : Nat → Option ABlk) : Nat → (Nat → SV) → List Oper → Option (List (Option Nat × SV) × (Nat → SV) × Prop)
  | _, E, [] => some ([], E, True)
  | i, E, o :: rest => match guardOf ops (restr E (looks ops o)) o.guard with
    | none => none
    | some g => bif dstOk o.dst n then match stepV P T orc H i (restr E (looks ops o)) o g with
      | none => none
      | some (x, vc) => match drawOps P T orc ops n H (i + 1) (putE E o.dst x) rest with
        | none => none
        | some (tr, Ef, p) => some ((o.dst, x) :: tr, Ef, vc ∧ p)
      else none

section step
variable {K : Nat} {P : Program} {T : Lays} {w : World} {μ : Nat → Option Nat} {a : Act} {S : St}

theorem restr_le (E : Nat → SV) (l : List Nat) : Le { S with env := E } { S with env := restr E l } := by
  refine ⟨rfl, fun t => ?_, fun k => .inr rfl, Nat.le_refl _⟩
  show restr E l t = _ ∨ restr E l t = _
  unfold restr
  cases memN l t
  · exact .inl rfl
  · exact .inr rfl

theorem stepV_sound (G : Good P T) {orc : Tab} (hTab : TabOk P orc) {C : Ctx K} {ops : Array Oper} {Q : Exit → Act → World → Prop} {E : Nat → SV} {i k : Nat} {o : Oper} {g : Option Bool} {x : SV} {vc : Prop} {l : List Nat}
    (hi : ops[i]? = some o) (hall : (ops.toList.all fun o => dstOk o.dst S.size) = true) (hR : Rel C μ { S with env := E } a w) (hg : guardOf ops.toList (restr E l) o.guard = some g) (hd : dstOk o.dst S.size = true)
    (h : stepV P T orc S.heap k (restr E l) o g = some (x, vc)) (hv : vc) {K : Act → World → Prop} (hK : ∀ v w', Rel C μ { S with env := putE E o.dst x } (a.put o.dst v) w' → K (a.put o.dst v) w') : wpOpL P ops Q i K a w := by
  have hR' := (restr_le (S := S) E l).rel hR
  have hall' : ∀ (j : Nat) o', ops[j]? = some o' → dstOk o'.dst S.size = true := by
    intro j o' hj
    rw [List.all_eq_true] at hall
    exact hall o' (List.mem_of_getElem? (show ops.toList[j]? = some o' by simpa using hj))
  have hw := guardOf_sound hR'.env hg hR'.size hall'
  unfold wpOpL
  rw [hi]
  simp only
  -- what is to be shown of a wanted operation
  have key : ∀ (y : SV) (p : Prop), (evalV T S.heap (restr E l) o.op = some (y, p) ∨ ∃ c f r cvs q q2, o.op = .call c ∧ callOf (restr E l) c = some (f, cvs, q) ∧ cvs.all immCV = true ∧ immSV r = true ∧ y = r ∧ p = (q ∧ q2) ∧ orc f cvs = some (r, q2)) → p →
      (∀ v w', Rel C μ { S with env := E } a w' → SRel w' (Own C.F S.heap μ) μ y v → K (a.put o.dst v) w') → o.wp P a w K Q := by
    intro y p hc hp hK'
    rcases hc with hc | ⟨c, f, r, cvs, q, q2, ho, hl, h1, h2, rfl, rfl, horc⟩
    · obtain ⟨v, hrun, hs⟩ := evalV_sound G.lay G.zero G.fields G.more hR'.heap hR'.env hc hp
      unfold Oper.wp
      rw [hrun]
      exact hK' v w hR hs
    · obtain ⟨hok, hcall⟩ := hTab _ _ _ _ horc hp.2
      obtain ⟨vals, hA0, hrun⟩ := callOf_sound hR'.env hl hp.1 hok ho
      have hA := immT_rel (μ' := noneμ) h1 hA0
      unfold Oper.wp
      rw [hrun]
      refine (hcall _ w _ (own_lt hR') hR'.gok hA).mono ?_
      rintro e w' ⟨v, rfl, hext, hs⟩
      obtain ⟨hR2, hs2⟩ := pcall_step hR hext hs h2
      exact hK' v w' hR2 hs2
  -- the two shapes of a step
  have shape : ∃ y p, x = gdw g y ∧ vc = gdp g p ∧ (evalV T S.heap (restr E l) o.op = some (y, p) ∨ ∃ c f r cvs q q2, o.op = .call c ∧ callOf (restr E l) c = some (f, cvs, q) ∧ cvs.all immCV = true ∧ immSV r = true ∧ y = r ∧ p = (q ∧ q2) ∧ orc f cvs = some (r, q2)) := by
    unfold stepV at h
    split at h
    · rename_i y p hV
      rw [force_eq] at h
      simp only [Option.some.injEq, Prod.mk.injEq] at h
      exact ⟨y, p, h.1.symm, h.2.symm, .inl hV⟩
    · split at h
      · rename_i c ho
        split at h
        · rename_i f cvs q hl
          split at h
          · rename_i r q2 horc
            cases hb : (cvs.all immCV && immSV r) with
            | false => rw [hb] at h; simp at h
            | true =>
              rw [hb] at h
              simp only [cond_true, Option.some.injEq, Prod.mk.injEq] at h
              rw [Bool.and_eq_true] at hb
              exact ⟨r, _, h.1.symm, h.2.symm, .inr ⟨c, f, r, cvs, q, q2, ho, hl, hb.1, hb.2, rfl, rfl, horc⟩⟩
          · cases h
        · cases h
      · cases h
  obtain ⟨y, p, rfl, rfl, hc⟩ := shape
  cases g with
  | none =>
    rw [if_pos (by rw [hw]; rfl)]
    exact (key y p hc hv fun v w' h1 h2 => hK v w' (h1.put h2 hd))
  | some b =>
    cases b with
    | true =>
      rw [if_pos (by rw [hw]; rfl)]
      exact (key y p hc (hv rfl) fun v w' h1 h2 => hK v w' (h1.put (x := .gd true y) (by unfold SRel; simpa using h2) hd))
    | false =>
      rw [if_neg (by rw [hw]; simp)]
      exact hK _ w (hR.put (x := .gd false y) (by unfold SRel; simp) hd)
end step

/-- What the last operation that was done left in a slot. -/
def valD (D : Nat → Bool) : Nat → List (Option Nat × SV) → Nat → Option SV
  | _, [], _ => none
  | k, (d, x) :: l, t => match valD D (k + 1) l t with
    | some y => some y
    | none => if D k = true ∧ d = some t then some x else none

def envD (D : Nat → Bool) (tr : List (Option Nat × SV)) (E : Nat → SV) : Nat → SV := fun t => (valD D 0 tr t).getD (E t)

theorem valD_congr {D D' : Nat → Bool} {t : Nat} : ∀ (l : List (Option Nat × SV)) (k : Nat), (∀ j d x, l[j]? = some (d, x) → d = some t → D (k + j) = D' (k + j)) → valD D k l t = valD D' k l t
  | [], _, _ => rfl
  | (d, x) :: l, k, h => by
    have ih := valD_congr (D := D) (D' := D') (t := t) l (k + 1) fun j d' x' hj hd => by
      have := h (j + 1) d' x' hj hd
      rwa [show k + (j + 1) = k + 1 + j from by omega] at this
    simp only [valD, ih]
    by_cases hd : d = some t
    · have := h 0 d x rfl hd
      simp only [Nat.add_zero] at this
      rw [this]
    · simp [hd]

/-- One more done, behind which nothing was done to its slot. -/
theorem valD_add {D D' : Nat → Bool} {i : Nat} {di : Option Nat} {xi : SV} (hadd : ∀ j, D' j = (D j || j == i)) : ∀ (l : List (Option Nat × SV)) (k : Nat), k ≤ i → l[i - k]? = some (di, xi) →
    (∀ j d x, l[j]? = some (d, x) → i < k + j → d = di → d ≠ none → D (k + j) = false) → ∀ t, (valD D' k l t) = if di = some t then some xi else valD D k l t
  | [], k, _, hi, _, _ => by simp at hi
  | (d, x) :: l, k, hk, hi, hl, t => by
    rcases Nat.lt_or_ge k i with h | h
    · have hi' : l[i - (k + 1)]? = some (di, xi) := by
        have e : i - k = (i - (k + 1)) + 1 := by omega
        rw [e] at hi
        simpa using hi
      have ih := valD_add hadd l (k + 1) h hi' (fun j d' x' hj hlt hd hn => by
        have := hl (j + 1) d' x' hj (by omega) hd hn
        rwa [show k + (j + 1) = k + 1 + j from by omega] at this) t
      simp only [valD, ih]
      have hk' : D' k = D k := by rw [hadd]; have : (k == i) = false := by simp; omega
                                  rw [this]; simp
      by_cases ht : di = some t
      · simp [ht]
      · simp only [if_neg ht, hk']
    · have hik : k = i := by omega
      subst hik
      simp at hi
      obtain ⟨rfl, rfl⟩ := hi
      simp only [valD]
      have hD' : D' k = true := by rw [hadd]; simp
      by_cases ht : d = some t
      · have hnone : valD D' (k + 1) l t = none := by
          have : ∀ (l' : List (Option Nat × SV)) (k' : Nat), k < k' → (∀ j d' x', l'[j]? = some (d', x') → d' = some t → D (k' + j) = false) → valD D' k' l' t = none := by
            intro l'
            induction l' with
            | nil => intro k' _ _; rfl
            | cons q l' ih =>
              intro k' hk' hq
              obtain ⟨d', x'⟩ := q
              simp only [valD]
              rw [ih (k' + 1) (by omega) fun j d2 x2 hj hd => by
                have := hq (j + 1) d2 x2 hj hd
                rwa [show k' + (j + 1) = k' + 1 + j from by omega] at this]
              by_cases hd : d' = some t
              · have := hq 0 d' x' rfl hd
                simp only [Nat.add_zero] at this
                have h2 : D' k' = false := by rw [hadd, this]; simp; omega
                simp [h2]
              · simp [hd]
          exact this l (k + 1) (by omega) fun j d' x' hj hd => by
            have := hl (j + 1) d' x' hj (by omega) (hd.trans ht.symm) (by rw [hd]; simp)
            rwa [show k + (j + 1) = k + 1 + j from by omega] at this
        rw [hnone]
        simp [hD', ht]
      · have hsame : valD D' (k + 1) l t = valD D (k + 1) l t := by
          refine valD_congr l (k + 1) fun j d' x' hj hd => ?_
          rw [hadd]
          have : ((k + 1 + j) == k) = false := by simp; omega
          rw [this]
          simp
        rw [hsame]
        simp [ht]

/-- Which operations are ahead of which, by the edges that bind. -/
inductive Reach (ops : Array Oper) : Nat → Nat → Prop where
  | one {j : Nat} {o : Oper} {e : Edge} : ops[j]? = some o → e ∈ o.after → Region.binds .any e = true → Reach ops j e.on
  | more {j : Nat} {o : Oper} {e : Edge} {i : Nat} : ops[j]? = some o → e ∈ o.after → Region.binds .any e = true → Reach ops e.on i → Reach ops j i

def edgesOk (ops : List Oper) : Nat → List Oper → Bool
  | _, [] => true
  | j, o :: rest => (o.after.toList.all fun e => !(Region.binds .any e) || Nat.blt e.on j) && edgesOk ops (j + 1) rest

def cloOf (acc : List Nat) (o : Oper) : Nat := o.after.toList.foldl (fun s e => bif Region.binds .any e then s ||| 2 ^ e.on ||| acc.getD e.on 0 else s) 0

/-- The bits of those ahead, of each. -/
def clo : List Nat → List Oper → List Nat
  | acc, [] => acc
  | acc, o :: rest => clo (acc ++ [cloOf acc o]) rest

/-- Two operations that touch one slot. -/
def touch (ops : List Oper) (x y : Oper) : Bool :=
  (match x.dst with
   | some d => memN (looks ops y) d || (match y.dst with | some d' => Nat.beq d' d | none => false)
   | none => false) ||
  (match y.dst with
   | some d => memN (looks ops x) d
   | none => false)

def pairsOk (ops : List Oper) (c : List Nat) : Nat → List Oper → Bool
  | _, [] => true
  | j, o :: rest => ((List.range j).all fun i => match ops[i]? with
      | some x => !(touch ops x o) || (c.getD j 0).testBit i
      | none => true) && pairsOk ops c (j + 1) rest

/-- Operations that touch one slot are bound to an order: that of the text. -/
def ordOk (ops : List Oper) : Bool := edgesOk ops 0 ops && pairsOk ops (clo [] ops) 0 ops

theorem edgesOk_get {ops : List Oper} : ∀ (l : List Oper) (k : Nat), edgesOk ops k l = true → ∀ j o, l[j]? = some o → ∀ e ∈ o.after, Region.binds .any e = true → e.on < k + j
  | [], _, _, j, o, h => by simp at h
  | o' :: l, k, h, j, o, hj => by
    simp only [edgesOk, Bool.and_eq_true] at h
    cases j with
    | zero =>
      simp at hj
      subst hj
      intro e he hb
      have := List.all_eq_true.1 h.1 e (by simpa using he)
      rw [hb] at this
      have this : Nat.blt e.on k = true := by simpa using this
      have : e.on < k := Nat.le_of_ble_eq_true this
      omega
    | succ j =>
      intro e he hb
      have := edgesOk_get l (k + 1) h.2 j o (by simpa using hj) e he hb
      omega

theorem foldl_bits {ops : Array Oper} {acc : List Nat} {j : Nat} {o : Oper} (ho : ops[j]? = some o) (hacc : ∀ k i, (acc.getD k 0).testBit i = true → Reach ops k i) : ∀ (l : List Edge) (s : Nat), (∀ e ∈ l, e ∈ o.after) → (∀ i, s.testBit i = true → Reach ops j i) →
    ∀ i, (l.foldl (fun s e => bif Region.binds .any e then s ||| 2 ^ e.on ||| acc.getD e.on 0 else s) s).testBit i = true → Reach ops j i
  | [], s, _, hs, i, h => hs i h
  | e :: l, s, hl, hs, i, h => by
    refine foldl_bits ho hacc l _ (fun e' he' => hl e' (List.mem_cons_of_mem _ he')) ?_ i h
    intro i' hi'
    cases hb : Region.binds .any e with
    | false => simp only [hb, cond_false] at hi'; exact hs i' hi'
    | true =>
      simp only [hb, cond_true, Nat.testBit_or, Bool.or_eq_true] at hi'
      rcases hi' with (h1 | h1) | h1
      · exact hs i' h1
      · have : e.on = i' := by simpa [Nat.testBit_two_pow] using h1
        subst this
        exact .one ho (hl e List.mem_cons_self) hb
      · exact .more ho (hl e List.mem_cons_self) hb (hacc _ _ h1)

theorem clo_reach {ops : Array Oper} : ∀ (l : List Oper) (acc : List Nat), (∀ j o, l[j]? = some o → ops[acc.length + j]? = some o) → (∀ k i, (acc.getD k 0).testBit i = true → Reach ops k i) → ∀ k i, ((clo acc l).getD k 0).testBit i = true → Reach ops k i
  | [], acc, _, h, k, i, hk => h k i hk
  | o :: l, acc, hl, h, k, i, hk => by
    refine clo_reach l (acc ++ [cloOf acc o]) (fun j o' hj => ?_) (fun k' i' hk' => ?_) k i hk
    · have := hl (j + 1) o' (by simpa using hj)
      rw [← this]
      congr 1
      simp
      omega
    · rw [List.getD_eq_getElem?_getD, List.getElem?_append] at hk'
      split at hk'
      · exact h k' i' (by rw [List.getD_eq_getElem?_getD]; exact hk')
      · rename_i hge
        rcases Nat.lt_or_ge k' (acc.length + 1) with h1 | h1
        · have e1 : k' = acc.length := by omega
          subst e1
          simp at hk'
          exact foldl_bits (hl 0 o rfl) h o.after.toList 0 (fun e he => by simpa using he) (fun i h0 => by simp at h0) i' hk'
        · rw [List.getElem?_eq_none (by simp; omega)] at hk'
          simp at hk'

theorem pairsOk_get {ops : List Oper} {c : List Nat} : ∀ (l : List Oper) (k : Nat), pairsOk ops c k l = true → ∀ j o, l[j]? = some o → ∀ i x, i < k + j → ops[i]? = some x → touch ops x o = true → (c.getD (k + j) 0).testBit i = true
  | [], _, _, j, o, h => by simp at h
  | o' :: l, k, h, j, o, hj => by
    simp only [pairsOk, Bool.and_eq_true] at h
    cases j with
    | zero =>
      simp at hj
      subst hj
      intro i x hi hx ht
      have := List.all_eq_true.1 h.1 i (by simpa using hi)
      rw [hx] at this
      simp only [ht] at this
      simpa using this
    | succ j =>
      intro i x hi hx ht
      have := pairsOk_get l (k + 1) h.2 j o (by simpa using hj) i x (by omega) hx ht
      rwa [show k + 1 + j = k + (j + 1) from by omega] at this
end Go.Proofs.YtmpddomgiplnmaaDoor.Abs

/-
  REGIONS WHOSE ORDER IS OPEN (2): the theorem.
-/
namespace Go.Proofs.YtmpddomgiplnmaaDoor.Abs
open Go

theorem memN_iff : ∀ (l : List Nat) (t : Nat), memN l t = true ↔ t ∈ l
  | [], t => by simp [memN]
  | x :: l, t => by
    simp only [memN]
    cases h : Nat.beq t x with
    | true => simp [Nat.eq_of_beq_eq_true h]
    | false =>
      have : t ≠ x := fun e => by rw [e] at h; simp at h
      simp [memN_iff l t, this]

theorem valD_shift {D D' : Nat → Bool} {t : Nat} : ∀ (l : List (Option Nat × SV)) (k k' : Nat), (∀ j, D (k + j) = D' (k' + j)) → valD D k l t = valD D' k' l t
  | [], _, _, _ => rfl
  | (d, x) :: l, k, k', h => by
    have ih := valD_shift (D := D) (D' := D') (t := t) l (k + 1) (k' + 1) fun j => by
      have := h (j + 1)
      rwa [show k + (j + 1) = k + 1 + j from by omega, show k' + (j + 1) = k' + 1 + j from by omega] at this
    have h0 := h 0
    simp only [Nat.add_zero] at h0
    simp only [valD, ih, h0]

theorem valD_none {D : Nat → Bool} {t : Nat} : ∀ (l : List (Option Nat × SV)) (k : Nat), (∀ j, D (k + j) = false) → valD D k l t = none
  | [], _, _ => rfl
  | (d, x) :: l, k, h => by
    have ih := valD_none (D := D) (t := t) l (k + 1) fun j => by
      have := h (j + 1)
      rwa [show k + (j + 1) = k + 1 + j from by omega] at this
    have h0 := h 0
    simp only [Nat.add_zero] at h0
    simp [valD, ih, h0]

theorem putE_get (E : Nat → SV) (d : Option Nat) (x : SV) (t : Nat) : putE E d x t = if d = some t then x else E t := by
  cases d with
  | none => simp [putE]
  | some d =>
    simp only [putE, Option.some.injEq]
    by_cases h : d = t
    · subst h; simp
    · have : Nat.beq t d = false := by
        cases hb : Nat.beq t d with
        | false => rfl
        | true => exact absurd (Nat.eq_of_beq_eq_true hb).symm h
      simp [this, h]

section
variable {K : Nat} {P : Program} {T : Lays} {S : St} {Q : Exit → St → Prop}

theorem drawOps_get {orc : Tab} {ops : List Oper} {n : Nat} {H : Nat → Option ABlk} : ∀ (rest : List Oper) (k : Nat) (E : Nat → SV) (tr : List (Option Nat × SV)) (Ef : Nat → SV) (p : Prop), drawOps P T orc ops n H k E rest = some (tr, Ef, p) → p →
    tr.length = rest.length ∧ (Ef = envD (fun _ => true) tr E) ∧ ∀ j o, rest[j]? = some o → ∃ g x vc, guardOf ops (restr (envD (fun i => Nat.blt i j) tr E) (looks ops o)) o.guard = some g ∧ dstOk o.dst n = true ∧
      stepV P T orc H (k + j) (restr (envD (fun i => Nat.blt i j) tr E) (looks ops o)) o g = some (x, vc) ∧ vc ∧ tr[j]? = some (o.dst, x) := by
  intro rest
  induction rest with
  | nil =>
    intro k E tr Ef p h hp
    simp only [drawOps, Option.some.injEq, Prod.mk.injEq] at h
    obtain ⟨rfl, rfl, _⟩ := h
    exact ⟨rfl, by funext t; rfl, fun j o hj => by simp at hj⟩
  | cons o rest ih =>
    intro k E tr Ef p h hp
    simp only [drawOps] at h
    split at h
    · cases h
    · rename_i g hg
      cases hd : dstOk o.dst n with
      | false => rw [hd] at h; simp at h
      | true =>
        rw [hd] at h
        simp only [cond_true] at h
        split at h
        · cases h
        · rename_i x vc hs
          split at h
          · cases h
          · rename_i tr' Ef' p' hrest
            simp only [Option.some.injEq, Prod.mk.injEq] at h
            obtain ⟨rfl, rfl, rfl⟩ := h
            obtain ⟨h1, h2, h3⟩ := ih (k + 1) _ tr' Ef' p' hrest hp.2
            refine ⟨by simp [h1], ?_, fun j o' hj => ?_⟩
            · rw [h2]
              funext t
              simp only [envD, valD]
              rw [valD_shift (D' := fun _ => true) tr' 0 1 fun j => rfl]
              cases valD (fun _ => true) 1 tr' t with
              | some y => simp
              | none =>
                simp only [Option.getD_none, putE_get]
                by_cases hd' : o.dst = some t <;> simp [hd']
            · cases j with
              | zero =>
                simp at hj
                subst hj
                have e : envD (fun i => Nat.blt i 0) ((o.dst, x) :: tr') E = E := by
                  funext t
                  simp only [envD]
                  rw [valD_none _ _ fun j => rfl]
                  rfl
                rw [e]
                exact ⟨g, x, vc, hg, hd, hs, hp.1, rfl⟩
              | succ j =>
                obtain ⟨g', x', vc', q1, q2, q3, q4, q5⟩ := h3 j o' (by simpa using hj)
                have e : envD (fun i => Nat.blt i (j + 1)) ((o.dst, x) :: tr') E = envD (fun i => Nat.blt i j) tr' (putE E o.dst x) := by
                  funext t
                  simp only [envD, valD]
                  rw [valD_shift (D := fun i => Nat.blt i (j + 1)) (D' := fun i => Nat.blt i j) tr' (0 + 1) 0 fun i => by
                    simp only [Nat.blt]
                    rw [show (0 + 1 + i).succ = (0 + i).succ.succ from by omega]
                    rfl]
                  cases valD (fun i => Nat.blt i j) 0 tr' t with
                  | some y => simp
                  | none =>
                    simp only [Option.getD_none, putE_get]
                    have : Nat.blt 0 (j + 1) = true := rfl
                    by_cases hd' : o.dst = some t <;> simp [hd', this]
                rw [e, show k + (j + 1) = k + 1 + j from by omega]
                exact ⟨g', x', vc', q1, q2, q3, q4, by simpa using q5⟩

theorem reach_listed {ops : Array Oper} {listed : Array Bool} (hclosed : ∀ j o, ops[j]? = some o → listed.getD j false = true → ∀ e ∈ o.after, Region.binds .any e = true → listed.getD e.on false = true) {i j : Nat} (h : Reach ops i j) :
    (∀ o, ops[i]? = some o → ∀ e ∈ o.after, Region.binds .any e = true → listed.getD e.on false = true) → listed.getD j false = true := by
  induction h with
  | one ho he hb => intro hi; exact hi _ ho _ he hb
  | more ho he hb _ ih => intro hi; exact ih fun o' ho' => hclosed _ o' ho' (hi _ ho _ he hb)

theorem rep_false (n j : Nat) : (Array.replicate n false).getD j false = false := by
  by_cases h : j < n <;> simp [Array.getD, h]

theorem Rel.drew {C : Ctx K} {μ : Nat → Option Nat} {a : Act} {w w1 : World} (hR : Rel C μ S a w) (hh : w1.heap = w.heap) (ho : w1.os = w.os) (ht : w1.tape = w.tape) (hp : w1.output = w.output) (hd : w.drawn ≤ w1.drawn := by first | exact Nat.le_refl _ | exact Nat.le_succ _ | omega) : Rel C μ S a w1 := by
  have hall : ∀ b : Nat, w1.heap[b]? = w.heap[b]? := fun b => by rw [hh]
  have he : Ext C.F w (Own C.F S.heap μ) μ w1 (Own C.F S.heap μ) μ :=
    ⟨ho, ht, hp, by rw [hh]; exact Nat.le_refl _, fun b _ _ => hall b, fun b cur _ _ hb => ⟨cur, by rw [hall, hb], rfl⟩, fun _ _ h => h, fun m hm => .inl hm, fun b _ _ => hall b, fun a _ => frozen_same (hall a.block), hd⟩
  refine ⟨hR.defers.mono he, hR.size, hR.env.mono he, ⟨fun k B hk => ?_, hR.heap.inj, fun k m hm => by rw [hh]; exact hR.heap.lt k m hm, hR.heap.dis, fun m hm => by rw [hh]; exact hR.heap.frn m hm⟩, hR.ext.trans he⟩
  obtain ⟨h1, h2⟩ := hR.heap.blk k B hk
  exact ⟨h1, h2.mono he rfl fun m _ => hall m⟩

theorem AW_draw (G : Good P T) (hm : P.follows .mixedOrders = true) {id : Nat} {ops : Array Oper} (orc : Tab) (hTab : TabOk P orc) {tr : List (Option Nat × SV)} {Ef : Nat → SV} {p : Prop} (hall : (ops.toList.all fun o => dstOk o.dst S.size) = true) (hord : ordOk ops.toList = true)
    (h : drawOps P T orc ops.toList S.size S.heap 0 S.env ops.toList = some (tr, Ef, p)) (hp : p) (hQ : Q .normal { S with env := Ef }) (hnd : noDefer ops.toList = true := by rfl) : AW K P (.region id ops true) Q S := by
  intro C μ a w hR
  obtain ⟨hlen, hEf, hget⟩ := drawOps_get ops.toList 0 S.env tr Ef p h hp
  unfold ordOk at hord
  rw [Bool.and_eq_true] at hord
  have hedges := edgesOk_get ops.toList 0 hord.1
  have hpairs := pairsOk_get ops.toList 0 hord.2
  have hclo : ∀ k i, ((clo [] ops.toList).getD k 0).testBit i = true → Reach ops k i := clo_reach ops.toList [] (fun j o hj => by simpa using hj) fun k i hk => by simp at hk
  have hget' : ∀ (j : Nat) o, ops[j]? = some o → ops.toList[j]? = some o := fun j o hj => by simpa using hj
  -- the trace's destinations
  have htr : ∀ (j : Nat) d x, tr[j]? = some (d, x) → ∃ o : Oper, ops[j]? = some o ∧ o.dst = d := by
    intro j d x hj
    have hlt : j < ops.toList.length := by
      rw [← hlen]
      rcases Nat.lt_or_ge j tr.length with h | h
      · exact h
      · rw [List.getElem?_eq_none h] at hj; cases hj
    obtain ⟨g, x', vc, _, _, _, _, q⟩ := hget j _ (List.getElem?_eq_getElem hlt)
    rw [hj] at q
    simp only [Option.some.injEq, Prod.mk.injEq] at q
    exact ⟨_, by rw [← Array.getElem?_toList]; exact List.getElem?_eq_getElem hlt, q.1.symm⟩
  let I : Array Bool → Act → World → Prop := fun listed a w => listed.size = ops.size ∧ (∀ j o, ops[j]? = some o → listed.getD j false = true → ∀ e ∈ o.after, Region.binds .any e = true → listed.getD e.on false = true) ∧
    ∃ μ, Rel C μ { S with env := envD (fun j => listed.getD j false) tr S.env } a w
  refine wpIn_region_anyL hm hnd (wpAny_inv I ?_ ?_ ops.size (Array.replicate ops.size false) a _ (by simp) ?_ ?_)
  · -- a step
    rintro listed a w i ⟨hs, hclosed, μ, hRi⟩ hi
    rw [mem_ready] at hi
    obtain ⟨hfalse, o, ho, hedge⟩ := hi
    have hlt : i < ops.size := (Array.getElem?_eq_some_iff.1 ho).1
    have hfi : listed.getD i false = false := by
      have hl : i < listed.size := by omega
      simpa [Array.getD, hl] using hfalse
    obtain ⟨g, x, vc, hg, hd, hst, hvc, htri⟩ := hget i o (hget' i o ho)
    -- those that touch what it touches
    have before : ∀ j oj, ops[j]? = some oj → j < i → touch ops.toList oj o = true → listed.getD j false = true := by
      intro j oj hoj hji ht
      have := hpairs i o (hget' i o ho) j oj (by omega) (hget' j oj hoj) ht
      rw [Nat.zero_add] at this
      exact reach_listed hclosed (hclo _ _ this) fun o' ho' => by rw [ho] at ho'; cases ho'; exact hedge
    have behind : ∀ j oj, ops[j]? = some oj → i < j → touch ops.toList o oj = true → listed.getD j false = false := by
      intro j oj hoj hij ht
      cases hl : listed.getD j false with
      | false => rfl
      | true =>
        have := hpairs j oj (hget' j oj hoj) i o (by omega) (hget' i o ho) ht
        rw [Nat.zero_add] at this
        have := reach_listed hclosed (hclo _ _ this) fun o' ho' => by rw [hoj] at ho'; cases ho'; exact hclosed j oj hoj hl
        rw [hfi] at this
        cases this
    have hrestr : restr (envD (fun j => listed.getD j false) tr S.env) (looks ops.toList o) = restr (envD (fun j => Nat.blt j i) tr S.env) (looks ops.toList o) := by
      funext t
      unfold restr
      cases hmem : memN (looks ops.toList o) t with
      | false => rfl
      | true =>
        simp only [cond_true, envD]
        congr 1
        refine valD_congr tr 0 fun j d y hj hdt => ?_
        subst hdt
        obtain ⟨oj, hoj, hdj⟩ := htr j _ y hj
        simp only [Nat.zero_add]
        rcases Nat.lt_trichotomy j i with h1 | h1 | h1
        · rw [before j oj hoj h1 (by unfold touch; rw [hdj]; simp [hmem])]
          have : Nat.blt j i = true := Nat.ble_eq_true_of_le h1
          rw [this]
        · subst h1
          rw [hfi]
          cases hb : Nat.blt j j with
          | false => rfl
          | true => have : j < j := Nat.le_of_ble_eq_true hb; omega
        · rw [behind j oj hoj h1 (by unfold touch; rw [hdj]; simp [hmem])]
          cases hb : Nat.blt j i with
          | false => rfl
          | true => have : j < i := Nat.le_of_ble_eq_true hb; omega
    rw [Nat.zero_add] at hst
    rw [← hrestr] at hg hst
    refine stepV_sound G hTab ho hall hRi hg hd hst hvc fun v w' hR' => ?_
    refine ⟨by simpa using hs, ?_, μ, ?_⟩
    · intro j oj hoj hj e he hb
      by_cases hji : i = j
      · subst hji
        rw [ho] at hoj
        cases hoj
        exact getD_set_true (hedge e he hb)
      · rw [getD_set_ne false hji] at hj
        exact getD_set_true (hclosed j oj hoj hj e he hb)
    · have hl : i < listed.size := by omega
      have hadd : ∀ j, (listed.setIfInBounds i true).getD j false = (listed.getD j false || j == i) := by
        intro j
        by_cases hji : i = j
        · subst hji
          simp [Array.getD_eq_getD_getElem?, hl]
        · rw [getD_set_ne false hji]
          have : (j == i) = false := by simpa using Ne.symm hji
          rw [this]
          simp
      have hval := valD_add (D := fun j => listed.getD j false) (D' := fun j => (listed.setIfInBounds i true).getD j false) (i := i) hadd tr 0 (Nat.zero_le _) (by simpa using htri) fun j d y hj hij hd hn => by
        obtain ⟨oj, hoj, hdj⟩ := htr j d y hj
        rw [Nat.zero_add] at hij ⊢
        refine behind j oj hoj hij ?_
        unfold touch
        rw [hdj]
        subst hd
        cases hod : o.dst with
        | none => exact absurd hod hn
        | some d' => simp
      have henv : envD (fun j => (listed.setIfInBounds i true).getD j false) tr S.env = putE (envD (fun j => listed.getD j false) tr S.env) o.dst x := by
        funext t
        rw [putE_get]
        simp only [envD, hval t]
        by_cases hdt : o.dst = some t <;> simp [hdt]
      rw [henv]
      exact hR'
  · -- the end
    rintro listed a w ⟨hs, hclosed, μ, hRi⟩ hr
    have hdone : ∀ n, n < ops.size → listed.getD n false = true := by
      intro n
      induction n using Nat.strongRecOn with
      | _ n ih =>
        intro hn
        cases hl : listed.getD n false with
        | true => rfl
        | false =>
          have hlt : n < listed.size := by omega
          have hmem : n ∈ Region.ready .any ops listed := by
            rw [mem_ready]
            refine ⟨by simpa [Array.getD, hlt] using hl, ops[n], by simp [hn], fun e he hb => ?_⟩
            have := hedges n ops[n] (hget' n _ (by simp [hn])) e he hb
            exact ih e.on (by omega) (by omega)
          rw [hr] at hmem
          cases hmem
    refine ⟨C, .refl C, μ, { S with env := Ef }, ?_, hQ⟩
    have : envD (fun j => listed.getD j false) tr S.env = Ef := by
      rw [hEf]
      funext t
      simp only [envD]
      congr 1
      refine valD_congr tr 0 fun j d y hj _ => ?_
      obtain ⟨oj, hoj, _⟩ := htr j d y hj
      rw [Nat.zero_add, hdone j (Array.getElem?_eq_some_iff.1 hoj).1]
    rw [← this]
    exact hRi
  · refine Nat.le_trans (List.length_filter_le _ _) (by simp)
  · refine ⟨by simp, fun j o _ hj => ?_, μ, ?_⟩
    · rw [rep_false] at hj; cases hj
    have : envD (fun j => (Array.replicate ops.size false).getD j false) tr S.env = S.env := by
      funext t
      simp only [envD]
      rw [valD_none _ _ fun j => by rw [rep_false]]
      rfl
    rw [this]
    exact hR.drew rfl rfl rfl rfl
end
end Go.Proofs.YtmpddomgiplnmaaDoor.Abs
