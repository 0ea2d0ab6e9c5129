/-
  FROM A CONTRACT OF A LAW TO ITS ROW's STATEMENT: what was there stays, so the arguments read as they did; the answer is true. No program in sight.
-/
import Derived.Test.YtmpddomgiplnmaaDoorX4
import Derived.ProofKit
import Derived.OpenShut
import Derived.WideKeyArgs
import Derived.ChangeSame
import Derived.JoinedOf
import Derived.JoinedAt
import Derived.Lib.SmallJoins
import Derived.Deep.Slices
namespace Go.Proofs.YtmpddomgiplnmaaDoor.Abs
open Go Go.ChangeShapes Go.WideShapes Go.ChangeAt Go.RowKit

def noO : Nat → Prop := fun _ => False

section
variable {H : Type} {enc : TypeId × Value → H} {P : Program}

theorem ext_sameAt {w w' : World} {μ : Nat → Option Nat} (h : Ext noO w noO noneμ w' noO μ) {p : MemPlace} (hp : p.block < w.heap.size) : w.sameAt w' p := by
  cases p with
  | cell b off => exact World.cell?_of_block (h.keep b hp id)
  | map b => exact h.keep b hp id

theorem ext_kept {w w' : World} {μ : Nat → Option Nat} (h : Ext noO w noO noneμ w' noO μ) (may : MemPlace → Prop) : w.keptBut w' may := by
  refine ⟨h.os, h.output, fun i hi => ?_⟩
  rw [h.keep i hi id]
  cases w.heap[i]? with
  | none => rfl
  | some o => cases o <;> first | exact ⟨rfl, rfl, rfl, fun _ _ => rfl⟩ | exact .inr ⟨rfl, rfl⟩ | rfl

theorem trodAll_stays (hl : laidOutB P = true) {W W' : World} {sp : Nat → Bool} : ∀ (ts : List TypeId) (vs : List Value) (ds : List (DataW H)) (ps : List MemPlace), (∀ t ∈ ts, P.readableRec t = true ∧ t < P.types.size) →
    DataW.TrodAll enc P W 0 (fun _ => true) true ts vs ds ps → (∀ p ∈ ps, W.sameAt W' p) → (∀ p ∈ ps, sp p.block = true) → DataW.TrodAll enc P W' 0 sp true ts vs ds ps
  | [], vs, ds, ps, _, h, _, _ => by
    obtain ⟨rfl, rfl, rfl⟩ := trodAll_nil h
    exact trodAll_mk0
  | t :: ts, vs, ds, ps, ht, h, h1, h2 => by
    obtain ⟨v, vs', d, ds', p, q, rfl, rfl, rfl, h3, h4⟩ := trodAll_cons h
    have := ht t (by simp)
    exact trodAll_cons_mk (WideElems.Trod_stays hl this.1 this.2 h3 (fun x hx => h1 x (by simp [hx])) fun x hx => h2 x (by simp [hx]))
      (trodAll_stays hl ts vs' ds' q (fun t ht' => ht t (by simp [ht'])) h4 (fun x hx => h1 x (by simp [hx])) fun x hx => h2 x (by simp [hx]))

/-- Where all that was there lies as it lay. -/
theorem post_keep {f : Func} {s : ChangeSpec} {W W' : World} {args : Array Value} {v : Value} {ds gs : List (DataW H)} {before pa pv : List MemPlace} (hW : DataW.Whole enc P f.params.toList s.vars false W args.toList ds gs before)
    (hres : ∀ (b : Nat) (sp : Nat → Bool) (hd : Bool), DataW.TrodAll enc P W' b sp hd f.resultTypes.toList (v.resultList f.resultTypes.size) (s.fn H (ds ++ gs)).results [])
    (hargs : ∀ sp : Nat → Bool, (∀ p ∈ before, sp p.block = true) → DataW.TrodAll enc P W' 0 sp true f.params.toList args.toList (s.fn H (ds ++ gs)).args pa)
    (hvars : ∀ sp : Nat → Bool, (∀ p ∈ before, sp p.block = true) → DataW.TrodVars enc P W' sp s.vars (s.fn H (ds ++ gs)).vars pv)
    (hps : before = pa ++ pv) (hk : W.keptBut W' (· ∈ before)) (hfz : ∀ a : Addr, a.block < W.heap.size → W'.frozen? a = W.frozen? a)
    (hok : ∀ (j : Nat) (t : TypeId) (r : Value), f.resultTypes[j]? = some t → (v.resultList f.resultTypes.size)[j]? = some r → Value.okWide P W' .any 0 t r) : s.post enc P f false true false false W args v W' := by
  have hlt := hW.lt
  have hold : ∀ p ∈ before, (fun b => decide (b < W.heap.size)) p.block = true := fun p hp => by simpa using hlt p hp
  refine ⟨ds, gs, before, [], pa, pv, hW, hres _ _ _, hargs _ hold, hvars _ hold, World.keptBut_mono (fun p hp => ⟨hp, .inr ?_⟩) hk, fun _ => ?_⟩
  · rwa [hps, List.mem_append] at hp
  · obtain ⟨_, _, _, _, _, hz, hn⟩ := hW
    refine ⟨hok, _, _, ([] ++ pa) ++ pv, ⟨[] ++ pa, pv, trodAll_append (hargs _ (fun _ _ => rfl)) (hres _ _ _), hvars _ (fun _ _ => rfl), rfl, fun b off hp => ?_, fun ha => ?_⟩, fun p hp _ => ?_⟩
    · have hp' : MemPlace.cell b off ∈ before := by rw [hps]; simpa using hp
      rw [hfz _ (hlt _ hp')]
      exact hz b off hp'
    · have := hn ha
      rw [hps] at this
      simpa using this
    · rw [hps]
      simpa using hp

/-- A law's end. -/
theorem law_post {f : Func} {s : ChangeSpec} {W W' : World} {args : Array Value} {ds gs : List (DataW H)} {before : List MemPlace} {tb : TypeId} {μ : Nat → Option Nat} (hl : laidOutB P = true) (hr : ∀ t ∈ f.params.toList, P.readableRec t = true ∧ t < P.types.size) (hv : s.vars = [])
    (hrt : f.resultTypes = #[tb]) (hb : P.underlying tb = some .bool) (hW : DataW.Whole enc P f.params.toList s.vars false W args.toList ds gs before)
    (hargs : (s.fn H (ds ++ gs)).args = ds) (hres : (s.fn H (ds ++ gs)).results = [.lit (.bool true)]) (hvar : (s.fn H (ds ++ gs)).vars = []) (hext : Ext noO W noO noneμ W' noO μ) : s.post enc P f false true false false W args (.bool true) W' := by
  have hW' := hW
  obtain ⟨p, q, hA, hV, rfl, hfz, hnd⟩ := hW
  rw [hv] at hV
  obtain ⟨rfl, rfl⟩ := trodVars_none hV
  refine post_keep (pa := p) (pv := []) hW' (fun _ _ _ => ?_) (fun sp hsp => ?_) (fun _ _ => ?_) rfl (ext_kept hext _) hext.frz ?_
  · rw [hrt, hres]
    exact trodAll_cons_mk (shut_bool hb _) trodAll_mk0
  · rw [hargs]
    exact trodAll_stays hl _ _ _ _ hr hA (fun x hx => ext_sameAt hext (hW'.lt x (by simp [hx]))) fun x hx => hsp x (by simp [hx])
  · rw [hv, hvar]; rfl
  · exact ok_one (t := tb) hrt rfl (okWide_bool_mk hb _)

/-- A pure call, from a world in which nothing is owned. -/
theorem pcall_law {f : FuncId} {args : List CV} (h : PCall P f args (.cv (ibool true))) {W : World} {vals : List Value} (hA : TRel W noO noneμ args vals) (hg : gOk W noO) : Calls P f vals.toArray W fun e W' => e = .returned (.bool true) ∧ Ext noO W noO noneμ W' noO noneμ := by
  refine (h noO W vals (fun _ h => h.elim) hg hA).mono ?_
  rintro e W' ⟨v, rfl, hext, hs⟩
  have : v = .bool true := hs.1
  subst this
  exact ⟨rfl, hext⟩

theorem TRel.nil {w : World} {O : Nat → Prop} {μ : Nat → Option Nat} : TRel w O μ [] [] := ⟨rfl, fun i x u h => by simp at h⟩
theorem TRel.cons {w : World} {O : Nat → Prop} {μ : Nat → Option Nat} {x : CV} {u : Value} {l : List CV} {vs : List Value} (hx : CRel w O μ x u) (h : TRel w O μ l vs) : TRel w O μ (x :: l) (u :: vs) := by
  refine ⟨by simp [h.1], fun i y v h1 h2 => ?_⟩
  cases i with
  | zero => simp at h1 h2; subst h1; subst h2; exact hx
  | succ i => simp at h1 h2; exact h.2 i y v h1 h2

theorem crel_int {w : World} {O : Nat → Prop} {μ : Nat → Option Nat} (k : IntKind) (n : Int) : CRel w O μ (ione (.int k n)) (.int k n) := ⟨rfl, rfl⟩
theorem arel_int {w : World} {O : Nat → Prop} {μ : Nat → Option Nat} (k : IntKind) (n : Int) : ARel w O μ (.imm (.val (.int k n))) (.int k n) := ⟨rfl, rfl⟩
end
end Go.Proofs.YtmpddomgiplnmaaDoor.Abs

/-
  ARGUMENTS OF ANY SHAPE (integers, truth values, strings, structs, arrays, slices of these): what is read of one, as data. No program in sight.
-/
namespace Go.Proofs.YtmpddomgiplnmaaDoor.Abs
open Go Go.ChangeShapes Go.WideShapes Go.ChangeAt Go.RowKit

/-- The form of a cell. -/
inductive Fm where
  | int (k : IntKind)
  | bool
  | str
  | sl (k : Nat) (f : Nat → Fm)

/-- Data of that form. -/
def Fit : Fm → IV → Prop
  | .int k, x => ∃ n, x = .val (.int k n) ∧ k.min ≤ n ∧ n ≤ k.max
  | .bool, x => ∃ b, x = .val (.bool b)
  | .str, x => ∃ s, x = .val (.string s) ∧ s.size ≤ maxLen
  | .sl k f, x => ∃ n c, x = .sl k n false c ∧ n ≤ maxLen ∧ ∀ i, i < n → ∀ j, j < k → Fit (f j) (c i j)

/-- Whatever a reading of a value of type t finds, it is data of this form. -/
def Reads (P : Program) (t : TypeId) (k : Nat) (f : Nat → Fm) : Prop :=
  ∀ (H : Type) (enc : TypeId × Value → H) (w : World) (fuel : Nat) (cs : List Value) (d : DataW H × List MemPlace), DataW.trod enc P w 0 (fun _ => true) true fuel t cs = some d →
    cs.length = k ∧ ∀ j, j < k → ∃ x u, cs[j]? = some u ∧ Fit (f j) x ∧ IRel w noO x u

section
variable {P : Program} {t e : TypeId}

theorem reads_int {k : IntKind} (ht : P.underlying t = some (.int k)) : Reads P t 1 fun _ => .int k := by
  intro H enc w fuel cs d h
  obtain ⟨n, rfl, _, hw⟩ := DataW.trod_int ht h
  refine ⟨rfl, fun j hj => ?_⟩
  obtain rfl : j = 0 := by omega
  simp only [Lit.wf, Bool.and_eq_true, decide_eq_true_eq] at hw
  exact ⟨.val (.int k n), _, rfl, ⟨n, rfl, hw.1, hw.2⟩, rfl, rfl⟩

theorem reads_bool (ht : P.underlying t = some .bool) : Reads P t 1 fun _ => .bool := by
  intro H enc w fuel cs d h
  obtain ⟨b, rfl, _⟩ := DataW.trod_bool ht h
  refine ⟨rfl, fun j hj => ?_⟩
  obtain rfl : j = 0 := by omega
  exact ⟨.val (.bool b), _, rfl, ⟨b, rfl⟩, rfl, rfl⟩

theorem reads_str (ht : P.underlying t = some .string) : Reads P t 1 fun _ => .str := by
  intro H enc w fuel cs d h
  obtain ⟨s, rfl, _, hs⟩ := DataW.trod_string ht h
  refine ⟨rfl, fun j hj => ?_⟩
  obtain rfl : j = 0 := by omega
  exact ⟨.val (.string s), _, rfl, ⟨s, rfl, hs⟩, rfl, rfl⟩

instance : Inhabited IV := ⟨ivDef⟩

theorem cell_plain {w : World} {a : Addr} {u : Value} (h : w.cell? a = some u) : a.spot = none ∧ a.block < w.heap.size := by
  unfold World.cell? at h
  split at h
  · rename_i c _ _ hb
    refine ⟨?_, (Array.getElem?_eq_some_iff.1 hb).1⟩
    cases hs : a.spot with
    | none => rfl
    | some q => simp [hs] at h
  · cases h

theorem reads_slice {k : Nat} {f : Nat → Fm} (ht : P.underlying t = some (.slice e)) (he : Reads P e k f) (hk : 0 < k) (hc : P.cellsOf e = k) : Reads P t 1 fun _ => .sl k f := by
  intro H enc w fuel cs d h
  rcases Deep.open_slice ht h with ⟨rfl, _⟩ | ⟨a, len, cap, m, n, D, Pl, rfl, hb, hl, hm, hmm, _, hx⟩
  · refine ⟨rfl, fun j hj => ?_⟩
    obtain rfl : j = 0 := by omega
    exact ⟨.sl k 0 false fun _ _ => ivDef, _, rfl, ⟨0, _, rfl, Nat.zero_le _, fun i hi => absurd hi (Nat.not_lt_zero i)⟩, .inl ⟨⟨none, rfl⟩, rfl⟩⟩
  · refine ⟨rfl, fun j hj => ?_⟩
    obtain rfl : j = 0 := by omega
    have hmm : m = cap := hmm
    subst hmm
    simp only [hc] at hx
    have hxe : ∀ i, i < m → ∃ c : Nat → IV, ∀ j, j < k → Fit (f j) (c j) ∧ ∃ u, w.cell? ((a.add (i * k)).add j) = some u ∧ IRel w noO (c j) u := by
      intro i hi
      obtain ⟨cs', h1, h2⟩ := hx i hi
      obtain ⟨h3, h4⟩ := he H enc w n cs' _ h2
      obtain ⟨_, _, h5⟩ := World.cells?_some h1
      obtain ⟨c, hcc⟩ := Deep.choose_lt (α := IV) (n := k) (p := fun j x => ∃ u, cs'[j]? = some u ∧ Fit (f j) x ∧ IRel w noO x u) h4
      refine ⟨c, fun j hj => ?_⟩
      obtain ⟨u, q1, q2, q3⟩ := hcc j hj
      exact ⟨q2, u, (h5 j hj).trans q1, q3⟩
    obtain ⟨c, hcc⟩ := Deep.choose_lt (α := Nat → IV) (n := m) (p := fun i c => ∀ j, j < k → Fit (f j) (c j) ∧ ∃ u, w.cell? ((a.add (i * k)).add j) = some u ∧ IRel w noO (c j) u) hxe
    refine ⟨.sl k len false c, _, rfl, ⟨len, c, rfl, by omega, fun i hi j hj => (hcc i (by omega) j hj).1⟩, ?_⟩
    rcases Nat.eq_zero_or_pos m with h0 | h0
    · subst h0
      obtain rfl : len = 0 := by omega
      exact .inl ⟨⟨some a, rfl⟩, rfl⟩
    · obtain ⟨_, u, hu, _⟩ := hcc 0 h0 0 hk
      have hp := cell_plain hu
      obtain ⟨b, o, sp⟩ := a
      simp only [Nat.zero_mul, Addr.add, if_true] at hp
      obtain ⟨hs, hbs⟩ := hp
      have hs : sp = none := hs
      subst hs
      refine .inr ⟨b, o, m, rfl, hl, hm, fun h => (by cases h), id, hbs, fun i hi j hj => ?_⟩
      obtain ⟨_, u, hu, hr⟩ := hcc i (by omega) j hj
      rw [Addr.add_lit, Addr.add_lit] at hu
      exact ⟨u, hu, hr⟩

theorem reads_struct {fs : Array Field} {K : Nat} {F : Nat → Fm} (ht : P.underlying t = some (.struct fs)) (hc : P.cellsOf t = K)
    (hf : ∀ j, j < K → ∃ (i : Nat) (fd : Field) (k : Nat) (f : Nat → Fm), fs[i]? = some fd ∧ fd.offset ≤ j ∧ j < fd.offset + k ∧ Reads P fd.type k f ∧ P.cellsOf fd.type = k ∧ F j = f (j - fd.offset)) : Reads P t K F := by
  intro H enc w fuel cs d h
  obtain ⟨xs, n, _, _, hl, hxs, hx⟩ := DataW.trod_struct ht h
  refine ⟨hl.trans hc, fun j hj => ?_⟩
  obtain ⟨i, fd, k, f, h1, h2, h3, h4, h5, h6⟩ := hf j hj
  have hi : i < fs.size := (Array.getElem?_eq_some_iff.1 h1).1
  have h7 := hx i fd h1
  rw [List.getElem?_eq_getElem (by omega), h5] at h7
  obtain ⟨h8, h9⟩ := h4 H enc w n _ _ h7
  obtain ⟨x, u, q1, q2, q3⟩ := h9 (j - fd.offset) (by omega)
  refine ⟨x, u, ?_, by rw [h6]; exact q2, q3⟩
  rw [List.getElem?_take, if_pos (by omega), List.getElem?_drop] at q1
  rw [← q1]
  congr 1
  omega

theorem reads_array {n k : Nat} {f : Nat → Fm} (ht : P.underlying t = some (.array n e)) (he : Reads P e k f) (hk : 0 < k) (hc : P.cellsOf e = k) (hct : P.cellsOf t = n * k) : Reads P t (n * k) fun j => f (j % k) := by
  intro H enc w fuel cs d h
  obtain ⟨xs, m, _, _, hl, hxs, hx⟩ := DataW.trod_array ht h
  refine ⟨hl.trans hct, fun j hj => ?_⟩
  have hi : j / k < n := Nat.div_lt_of_lt_mul (by rw [Nat.mul_comm]; exact hj)
  have h7 := hx (j / k) hi
  rw [List.getElem?_eq_getElem (by omega), hc] at h7
  obtain ⟨h8, h9⟩ := he H enc w m _ _ h7
  have hmod : j % k < k := Nat.mod_lt _ hk
  obtain ⟨x, u, q1, q2, q3⟩ := h9 (j % k) hmod
  refine ⟨x, u, ?_, q2, q3⟩
  rw [List.getElem?_take, if_pos hmod, List.getElem?_drop] at q1
  rw [← q1]
  congr 1
  rw [Nat.mul_comm]
  exact (Nat.div_add_mod j k).symm

/-- A value of one cell. -/
theorem open_one {H : Type} {enc : TypeId × Value → H} {W : World} {v : Value} {d : DataW H} {p : List MemPlace} {f : Nat → Fm} (hr : Reads P t 1 f) (hu : ∀ cs, v ≠ .agg cs) (h : DataW.Trod enc P W 0 (fun _ => true) true t v d p) :
    ∃ x, Fit (f 0) x ∧ ∀ μ, CRel W noO μ (.one (.imm x)) v := by
  obtain ⟨fuel, h⟩ := h
  obtain ⟨h1, h2⟩ := hr H enc W fuel _ _ h
  obtain ⟨x, u, q1, q2, q3⟩ := h2 0 (by omega)
  have : v.cells = #[v] := by
    cases v <;> first | rfl | exact absurd rfl (hu _)
  rw [this] at q1
  have : u = v := by simpa using q1.symm
  subst this
  exact ⟨x, q2, fun μ => q3⟩

/-- A struct (or an array). -/
theorem open_agg {H : Type} {enc : TypeId × Value → H} {W : World} {v : Value} {d : DataW H} {p : List MemPlace} {K : Nat} {f : Nat → Fm} (hr : Reads P t K f) (hu : ∃ cs, v = .agg cs) (h : DataW.Trod enc P W 0 (fun _ => true) true t v d p) :
    ∃ x : Nat → IV, (∀ j, j < K → Fit (f j) (x j)) ∧ ∀ μ, CRel W noO μ (.agg ((List.range K).map fun j => .imm (x j))) v := by
  obtain ⟨fuel, h⟩ := h
  obtain ⟨cs, rfl⟩ := hu
  obtain ⟨h1, h2⟩ := hr H enc W fuel _ _ h
  have h1 : cs.toList.length = K := h1
  have h2 : ∀ j, j < K → ∃ x u, cs.toList[j]? = some u ∧ Fit (f j) x ∧ IRel W noO x u := h2
  obtain ⟨x, hx⟩ := Deep.choose_lt (α := IV) (n := K) (p := fun j x => ∃ u, cs.toList[j]? = some u ∧ Fit (f j) x ∧ IRel W noO x u) h2
  refine ⟨x, fun j hj => (hx j hj).choose_spec.2.1, fun μ => ⟨cs.toList, by simp, by simp [h1], fun i y u hy hu => ?_⟩⟩
  have hi : i < K := by
    rw [← h1]
    exact (List.getElem?_eq_some_iff.1 hu).1
  simp only [List.getElem?_map, List.getElem?_range hi, Option.map_some, Option.some.injEq] at hy
  subst hy
  obtain ⟨u', q1, _, q3⟩ := hx i hi
  rw [hu] at q1
  cases q1
  exact q3

theorem noagg_slice {W : World} {base : Nat} {v : Value} (hu : P.underlying t = some (.slice e)) (hv : Value.okWide P W .any base t v) : ∀ cs, v ≠ .agg cs := by
  rintro cs rfl
  simp only [Value.okWide, hu, Cell.okWide, Cell.ok] at hv
theorem agg_struct {W : World} {base : Nat} {v : Value} {fs : Array Field} (hu : P.underlying t = some (.struct fs)) (hv : Value.okWide P W .any base t v) : ∃ cs, v = .agg cs := by
  simp only [Value.okWide, hu] at hv
  exact ⟨_, hv.choose_spec.1⟩
theorem agg_array {W : World} {base : Nat} {v : Value} {n : Nat} (hu : P.underlying t = some (.array n e)) (hv : Value.okWide P W .any base t v) : ∃ cs, v = .agg cs := by
  simp only [Value.okWide, hu] at hv
  exact ⟨_, hv.choose_spec.1⟩
end
end Go.Proofs.YtmpddomgiplnmaaDoor.Abs
