/-
  MAPS WHOSE KEYS ARE INTEGERS (3): made, and written.
-/
import Derived.Test.YtndfcbcmeeemfaaA8
namespace Go.Proofs.Ytndfcbcmeeemfaa.Abs
open Go

section
variable {P : Program} {T : Lays} {F : Nat → Prop} {w : World} {μ : Nat → Option Nat} {H : Nat → Option ABlk} {nx : Nat} {E : Nat → SV} {a : Act}

theorem does_makeMap {o : Oper} {t : TypeId} {ka va : Bool} {kks : List IntKind} {vn : Nat} (hH : HRel F w μ H nx) (ho : o.op = .makeMap t none) :
    Does P F w H μ nx a o (.cv (.one (.omp nx))) (updH H [(nx, some (.mp ka kks va vn (fun _ => false) fun _ _ => ivDef))]) (nx + 1) := by
  obtain ⟨μ', h1, h2, h3⟩ := step_alloc (w := w) (w' := w.alloc (.map #[] 0)) (B := .mp ka kks va vn (fun _ => false) fun _ _ => ivDef) hH rfl rfl rfl rfl (fun c t fz h => by cases h) fun O' μ' hext hm =>
    ⟨w.heap.size, #[], 0, hm, heap_alloc_new w _, by simp, fun e he => by simp at he, fun ks hk => by cases hk⟩
  exact ⟨.map (some w.heap.size), _, μ', .inl (by simp [execOp, ho, Instr.makeMap]), h1, h2, ⟨w.heap.size, h3, rfl⟩⟩

/-- The world with another map there. -/
def setMap (w : World) (b : Nat) (es : Array MapEntry) (c : Nat) : World := { w with heap := w.heap.setIfInBounds b (.map es c) }

theorem run_setObj_map {b clock : Nat} {es : Array MapEntry} (h : w.heap[b]? = some (.map es clock)) (es' : Array MapEntry) (c : Nat) : (setObj b (.map es' c)).run P w = .ok () (setMap w b es' c) := by
  simp [setObj, Sem.run, h, setMap]

theorem shape_keep {b clock : Nat} {es : Array MapEntry} (h : w.heap[b]? = some (.map es clock)) : ∀ (c : Array Value) t fz, w.heap[b]? = some (.cells c t fz) → False := by
  intro c t fz hc
  rw [h] at hc
  cases hc

theorem run_mapUpdate {t k e : TypeId} {ka va : Bool} {kks : List IntKind} {ks : List Int} {R : IV → Value → Prop} {vn : Nat} {dom : List Int → Bool} {val : List Int → Nat → IV} {b clock : Nat} {es : Array MapEntry} (hu : P.underlying t = some (.map k e)) (hKF : KF P k ka kks) (hl : ks.length = kks.length)
    (hb : w.heap[b]? = some (.map es clock)) (hR : MRel R ka kks va vn dom val es.toList) {cs : List Value} (hv : cs.length = vn) {f : Nat → IV} (hf : ∀ j u, cs[j]? = some u → R (f j) u) :
    ∃ es' c, (Instr.mapUpdate t (.map (some b)) (keyV ka kks ks) (aggV va cs)).run P w = .ok () (setMap w b es' c) ∧ MRel R ka kks va vn (fun k' => eqI ks k' || dom k') (fun k' => bif eqI ks k' then f else val k') es'.toList := by
  have hchk := run_checkKey (w := w) hKF hl false 9998
  obtain ⟨r, hr, hfd⟩ := run_findKey (w := w) hKF hl es.toList hR.keys
  cases r with
  | none =>
    refine ⟨es.push { key := keyV ka kks ks, val := aggV va cs, born := clock }, clock + 1, ?_, ?_⟩
    · simp only [Instr.mapUpdate, Sem.run_bind, run_underlying hu, Result.andThen_ok, run_getObj_map hb]
      rw [show (10000 : Nat) = 9998 + 2 from rfl, hchk]
      simp [Result.andThen_ok, hr, run_setObj_map hb]
    · rw [Array.toList_push]
      exact hR.put_none hKF hl hfd hv hf rfl rfl
  | some iv =>
    obtain ⟨i, v0⟩ := iv
    obtain ⟨_, e0, he0, hek, _⟩ := hfd
    simp only [Nat.sub_zero] at he0
    have hlt : i < es.size := by simpa using (List.getElem?_eq_some_iff.1 he0).1
    have hei : es[i]? = some e0 := by simpa using he0
    have hsb := sameBits_key hKF hl 9999
    have hks : (Instr.keyThatStays (((es[i]?).map (·.key)).getD (keyV ka kks ks)) (keyV ka kks ks)).run P w = .ok (keyV ka kks ks) w := by
      rw [hei]
      simp only [Option.map_some, Option.getD_some, hek, Instr.keyThatStays]
      rw [show (10000 : Nat) = 9999 + 1 from rfl, hsb]
      simp
    refine ⟨es.modify i fun e => { e with key := keyV ka kks ks, val := aggV va cs }, clock, ?_, ?_⟩
    · simp only [Instr.mapUpdate, Sem.run_bind, run_underlying hu, Result.andThen_ok, run_getObj_map hb]
      rw [show (10000 : Nat) = 9998 + 2 from rfl, hchk]
      simp only [Result.andThen_ok, hr, Sem.run_bind, hks, run_setObj_map hb]
    · have hm : (es.modify i fun e => { e with key := keyV ka kks ks, val := aggV va cs }).toList = es.toList.set i { e0 with key := keyV ka kks ks, val := aggV va cs } := by
        rw [Array.toList_modify]
        refine List.ext_getElem? fun n => ?_
        rw [List.getElem?_modify, List.getElem?_set]
        by_cases hn : i = n
        · subst hn
          have : es[i] = e0 := (Array.getElem?_eq_some_iff.1 hei).2
          simp [hlt, this]
        · simp [hn]
      rw [hm]
      exact hR.put_some hKF hl he0 hek hv hf rfl rfl

theorem does_mapPut0 {o : Oper} {t : TypeId} {m k x : Operand} (hT : LayOk P T) (hM : MoreOk P T) (hH : HRel F w μ H nx) (hE : ERel w (Own F H μ) μ E a) (ho : o.op = .mapUpdate t m k x ∨ o.op = .insert t m k x) {y : SV} {U : List (Nat × Option ABlk)} {vc : Prop}
    (h : mapPut T H E t m k x = some (y, U, vc)) (hv : vc) : Does P F w H μ nx a o y (updH H U) nx := by
  unfold mapPut at h
  split at h
  · rename_i kt e sz by_ z b ka kks ks c hL hm hk hx
    split at h
    · rename_i ka' kks' ka2 kks2 va vn dom val xs hkf hB hxs
      cases hc : (bEq ka ka' && kindsEq kks kks' && (bEq ka ka2 && kindsEq kks kks2) && (bEq (isAggC c) va && lenIs c.cells vn)) with
      | false => rw [hc] at h; simp at h
      | true =>
        rw [hc] at h
        simp only [cond_true, Option.some.injEq, Prod.mk.injEq] at h
        obtain ⟨rfl, rfl, rfl⟩ := h
        simp only [Bool.and_eq_true] at hc
        obtain ⟨⟨⟨c1, c2⟩, c3, c4⟩, c5, c6⟩ := hc
        have c1 := bEq_eq c1; have c2 := kindsEq_eq c2; have c3 := bEq_eq c3; have c4 := kindsEq_eq c4; have c5 := bEq_eq c5; have c6 := lenIs_eq _ _ c6
        subst c1; subst c2; subst c3; subst c4; subst c5
        obtain ⟨q1, q2, q3⟩ := hv
        have hKF := keyForm_sound hT hM.eqs hkf
        have hu : P.underlying t = some (.map kt e) := by
          obtain ⟨i, d, _, _, _, _, hd, hk⟩ := lay_info (hT t _ hL)
          cases d <;> simp [kindOf] at hk
          obtain ⟨rfl, rfl⟩ := hk; exact hd
        obtain ⟨bm, hbm, hmv⟩ := rd_one hE hm q1
        obtain ⟨hkv, hkl⟩ := keyOf_rel hk (rd_sound hE k q2)
        have hcr := rd_cv hE hx q3
        have hcells := CRel.cells hcr
        have hxv : a.eval x = aggV (isAggC c) (a.eval x).cells.toList := by
          cases c with
          | one y => rw [cells_one (ARel.one hcr)]; rfl
          | agg l => obtain ⟨cs, hcs, _⟩ := hcr; rw [hcs]; simp [aggV, isAggC, Value.cells]
        obtain ⟨b2, es, clock, hb2, hw, hR⟩ := (hH.blk b _ hB).2
        obtain rfl : b2 = bm := by rw [hbm] at hb2; exact (Option.some.inj hb2).symm
        have hR : MRel (IRel w (Own F H μ)) ka kks (isAggC c) vn dom val es.toList := hR
        have hlen : (a.eval x).cells.toList.length = vn := by rw [hcells.1]; exact c6
        obtain ⟨es', c', hrun, hR'⟩ := run_mapUpdate (cs := (a.eval x).cells.toList) hu hKF hkl hw hR hlen (f := fun j => xs.getD j ivDef) fun j u hj => by
          obtain ⟨u', hu', hr⟩ := toIVs_rel hxs hcells j (List.getElem?_eq_some_iff.1 hj).1
          rw [hj] at hu'
          cases hu'
          exact hr
        have hlt : b2 < w.heap.size := (hH.lt b b2 hbm).2
        have hstep := step_write' (w' := setMap w b2 es' c') (nx := nx) hH hB hbm rfl rfl rfl (by simp [setMap]) (fun k hk => by simp [setMap, Ne.symm hk]) (fun c t fz hc => (shape_keep hw c t fz hc).elim) (fun _ c t fz e => by simp [setMap, hlt] at e)
          (B := .mp ka kks (isAggC c) vn (fun k' => eqI ks k' || dom k') fun k' => bif eqI ks k' then (fun j => xs.getD j ivDef) else val k') fun hext => ⟨b2, es', c', hbm, by simp [setMap, hlt], hR'.1, fun e he => by
            obtain ⟨ks', r1, r2, r3, cs, r4, r5, r6⟩ := hR'.2.1 e he
            exact ⟨ks', r1, r2, r3, cs, r4, r5, fun j u hu => (r6 j u hu).mono hext⟩, hR'.2.2⟩
        refine ⟨Go.undef, _, μ, .inr ⟨?_, rfl⟩, hstep.1, hstep.2, trivial⟩
        rw [← hkv, ← hxv, ← hmv] at hrun
        rcases ho with ho | ho <;> simp [execOp, ho, hrun]
    · cases h
  · cases h

theorem does_mapPut {o : Oper} {t : TypeId} {m k x : Operand} (hT : LayOk P T) (hM : MoreOk P T) (hH : HRel F w μ H nx) (hE : ERel w (Own F H μ) μ E a) (ho : o.op = .mapUpdate t m k x ∨ o.op = .insert t m k x) {y : SV} {U : List (Nat × Option ABlk)} {vc : Prop}
    (h : mapPut T H E t m k x = some (y, U, vc)) (hv : vc) : Does P F w H μ nx a o y (updH H U) (nx + 1) := by
  obtain ⟨v, w', μ', h1, h2, h3, h4⟩ := does_mapPut0 hT hM hH hE ho h hv
  exact ⟨v, w', μ', h1, h2, h3.more (by omega), h4⟩
end
end Go.Proofs.Ytndfcbcmeeemfaa.Abs
