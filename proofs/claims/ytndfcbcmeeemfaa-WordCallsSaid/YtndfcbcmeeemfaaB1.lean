/-
  CALLS THAT CHANGE NO MEMORY OF THE CALLER's: their contract, how it comes of a body (what it made is handed out for good), how it is used.
-/
import Derived.Test.YtndfcbcmeeemfaaB0
namespace Go.Proofs.Ytndfcbcmeeemfaa.Abs
open Go

def noneH : Nat → Option ABlk := fun _ => none
def noneμ : Nat → Option Nat := fun _ => none

def immAV : AV → Bool
  | .imm _ => true
  | .vptr _ _ => true
  | .fn _ nf first nc caps => ((List.range nf).all fun i => immAV (first i)) && ((List.range nc).all fun i => immAV (caps i))
  | _ => false
def immCV : CV → Bool
  | .one x => immAV x
  | .agg l => l.all immAV
def immSV : SV → Bool
  | .cv c => immCV c
  | .tup l => l.all immCV
  | _ => false

/-- What was made is handed out for good. -/
def frzAV (H : Nat → Option ABlk) : AV → Option (AV × Prop)
  | .imm x => some (.imm x, True)
  | .osl b e r j len _ => match H b with
    | some (.rows _ e' n cell) => bif Nat.beq e e' && Nat.beq j 0 then some (.imm (.sl e len false fun i q => cell (r + i) q), r + len ≤ n) else none
    | _ => none
  | .omp b => match H b with
    | some (.mp ka kks va vn dom val) => some (.imm (.mp ka kks va vn dom val), True)
    | _ => none
  | _ => none

def frzL (H : Nat → Option ABlk) : List AV → Option (List AV × Prop)
  | [] => some ([], True)
  | x :: l => match frzAV H x, frzL H l with
    | some (y, p), some (ys, q) => some (y :: ys, p ∧ q)
    | _, _ => none

def frzCV (H : Nat → Option ABlk) : CV → Option (CV × Prop)
  | .one x => match frzAV H x with
    | some (y, p) => some (.one y, p)
    | none => none
  | .agg l => match frzL H l with
    | some (y, p) => some (.agg y, p)
    | none => none

def frzT (H : Nat → Option ABlk) : List CV → Option (List CV × Prop)
  | [] => some ([], True)
  | x :: l => match frzCV H x, frzT H l with
    | some (y, p), some (ys, q) => some (y :: ys, p ∧ q)
    | _, _ => none

def frzSV (H : Nat → Option ABlk) : SV → Option (SV × Prop)
  | .cv c => match frzCV H c with
    | some (y, p) => some (.cv y, p)
    | none => none
  | .tup l => match frzT H l with
    | some (y, p) => some (.tup y, p)
    | none => none
  | _ => none

section
variable {K : Nat} {P : Program} {T : Lays} {F : Nat → Prop} {w : World} {μ : Nat → Option Nat} {H : Nat → Option ABlk} {nx : Nat} {E : Nat → SV} {a : Act} {S : St} {Q : Exit → St → Prop}

theorem IRel.less {O O' : Nat → Prop} (h : ∀ m, O' m → O m) {x : IV} {v : Value} (hx : IRel w O x v) : IRel w O' x v :=
  IRel.mono (F := fun _ => False) (μ := noneμ) (μ' := noneμ) (ext_sub h) x v hx

theorem frzAV_sound (hH : HRel F w μ H nx) {x y : AV} {p : Prop} {v : Value} (h : frzAV H x = some (y, p)) (hp : p) (hx : ARel w (Own F H μ) μ x v) (μ' : Nat → Option Nat) : ARel w F μ' y v := by
  unfold frzAV at h
  split at h
  · rename_i z
    simp only [Option.some.injEq, Prod.mk.injEq] at h
    obtain ⟨rfl, _⟩ := h
    exact IRel.less (fun m hm => .inl hm) hx
  · rename_i b e r j len app
    split at h
    · rename_i ty e' n cell hb
      cases hc : (Nat.beq e e' && Nat.beq j 0) with
      | false => rw [hc] at h; simp at h
      | true =>
        rw [hc] at h
        simp only [cond_true, Option.some.injEq, Prod.mk.injEq] at h
        obtain ⟨rfl, rfl⟩ := h
        simp only [Bool.and_eq_true] at hc
        have h1 := Nat.eq_of_beq_eq_true hc.1
        have h2 := Nat.eq_of_beq_eq_true hc.2
        subst h1; subst h2
        rcases hx with ⟨rfl, hem⟩ | ⟨m, cap, hm, rfl, c1, c2, c3⟩
        · exact .inl ⟨hem, rfl⟩
        · have hF : ¬ F m := hH.dis b m (by rw [hb]; rfl) hm
          refine .inr ⟨m, r * e + 0, cap, rfl, c1, c2, fun h => (by cases h), hF, (hH.lt b m hm).2, fun i hi j hj => ?_⟩
          rcases (hH.blk b _ hb).2 with ⟨hm', _⟩ | ⟨m2, cur, hm', hw, hsz, hcell⟩
          · rw [hm] at hm'; cases hm'
          obtain rfl : m2 = m := by rw [hm] at hm'; exact (Option.some.inj hm').symm
          obtain ⟨u, hu1, hu2⟩ := hcell (r + i) (by omega) j hj
          refine ⟨u, ?_, IRel.less (fun m hm => .inl hm) hu2⟩
          simp only [World.cell?, hw]
          rw [← hu1]
          simp only [Option.isSome_none, Bool.false_eq_true, if_false, Nat.add_zero]
          congr 1
          rw [Nat.add_mul]
    · cases h
  · rename_i b
    split at h
    · rename_i ka kks va vn dom val hb
      simp only [Option.some.injEq, Prod.mk.injEq] at h
      obtain ⟨rfl, rfl⟩ := h
      obtain ⟨m, hm, rfl⟩ := hx
      have hF : ¬ F m := hH.dis b m (by rw [hb]; rfl) hm
      obtain ⟨m2, es, clock, hm2, hw, h4, h5, h6⟩ := (hH.blk b _ hb).2
      obtain rfl : m2 = m := by rw [hm] at hm2; exact (Option.some.inj hm2).symm
      refine ⟨m2, es, clock, rfl, hF, (hH.lt b m2 hm).2, hw, h4, fun e he => ?_, h6⟩
      obtain ⟨ks, q1, q2, q3, cs, q4, q5, q6⟩ := h5 e he
      exact ⟨ks, q1, q2, q3, cs, q4, q5, fun j u hu => IRel.less (fun m hm => .inl hm) (q6 j u hu)⟩
    · cases h
  · cases h

theorem frzL_sound (hH : HRel F w μ H nx) (μ' : Nat → Option Nat) : ∀ (l l' : List AV) (p : Prop) (vs : List Value), frzL H l = some (l', p) → p → LRel w (Own F H μ) μ l vs → LRel w F μ' l' vs := by
  intro l
  induction l with
  | nil => intro l' p vs h _ hl; simp [frzL] at h; obtain ⟨rfl, _⟩ := h; exact ⟨hl.1, fun i x u hx => by simp at hx⟩
  | cons x l ih =>
    intro l' p vs h hp hl
    simp only [frzL] at h
    split at h
    · rename_i y p1 ys q h1 h2
      simp only [Option.some.injEq, Prod.mk.injEq] at h
      obtain ⟨rfl, rfl⟩ := h
      match vs, hl with
      | [], hl => exact absurd hl.1 (by simp)
      | v :: vs, hl =>
        have hx := hl.2 0 x v rfl rfl
        exact LRel.cons (frzAV_sound hH h1 hp.1 hx μ') (ih ys q vs h2 hp.2 ⟨by simpa using hl.1, fun i z u hz hu => hl.2 (i + 1) z u hz hu⟩)
    · cases h

theorem frzCV_sound (hH : HRel F w μ H nx) (μ' : Nat → Option Nat) {x y : CV} {p : Prop} {v : Value} (h : frzCV H x = some (y, p)) (hp : p) (hx : CRel w (Own F H μ) μ x v) : CRel w F μ' y v := by
  cases x with
  | one x =>
    simp only [frzCV] at h
    split at h
    · rename_i z q hz
      simp only [Option.some.injEq, Prod.mk.injEq] at h
      obtain ⟨rfl, rfl⟩ := h
      exact frzAV_sound hH hz hp hx μ'
    · cases h
  | agg l =>
    simp only [frzCV] at h
    split at h
    · rename_i z q hz
      simp only [Option.some.injEq, Prod.mk.injEq] at h
      obtain ⟨rfl, rfl⟩ := h
      obtain ⟨cs, hv, hl⟩ := hx
      exact ⟨cs, hv, frzL_sound hH μ' _ _ _ cs hz hp hl⟩
    · cases h

theorem frzT_sound (hH : HRel F w μ H nx) (μ' : Nat → Option Nat) : ∀ (l l' : List CV) (p : Prop) (vs : List Value), frzT H l = some (l', p) → p → TRel w (Own F H μ) μ l vs → TRel w F μ' l' vs := by
  intro l
  induction l with
  | nil => intro l' p vs h _ hl; simp [frzT] at h; obtain ⟨rfl, _⟩ := h; exact ⟨hl.1, fun i x u hx => by simp at hx⟩
  | cons x l ih =>
    intro l' p vs h hp hl
    simp only [frzT] at h
    split at h
    · rename_i y p1 ys q h1 h2
      simp only [Option.some.injEq, Prod.mk.injEq] at h
      obtain ⟨rfl, rfl⟩ := h
      match vs, hl with
      | [], hl => exact absurd hl.1 (by simp)
      | v :: vs, hl =>
        have hx := hl.2 0 x v rfl rfl
        have hy := frzCV_sound hH μ' h1 hp.1 hx
        have hr := ih ys q vs h2 hp.2 ⟨by simpa using hl.1, fun i z u hz hu => hl.2 (i + 1) z u hz hu⟩
        refine ⟨by simp [hr.1], fun i z u hz hu => ?_⟩
        cases i with
        | zero => simp at hz hu; subst hz; subst hu; exact hy
        | succ i => simp at hz hu; exact hr.2 i z u hz hu
    · cases h

theorem frzSV_sound (hH : HRel F w μ H nx) (μ' : Nat → Option Nat) {x y : SV} {p : Prop} {v : Value} (h : frzSV H x = some (y, p)) (hp : p) (hx : SRel w (Own F H μ) μ x v) : SRel w F μ' y v := by
  cases x with
  | cv c =>
    simp only [frzSV] at h
    split at h
    · rename_i z q hz
      simp only [Option.some.injEq, Prod.mk.injEq] at h
      obtain ⟨rfl, rfl⟩ := h
      exact frzCV_sound hH μ' hz hp hx
    · cases h
  | tup l =>
    simp only [frzSV] at h
    split at h
    · rename_i z q hz
      simp only [Option.some.injEq, Prod.mk.injEq] at h
      obtain ⟨rfl, rfl⟩ := h
      obtain ⟨vs, hv, hl⟩ := hx
      exact ⟨vs, hv, frzT_sound hH μ' _ _ _ vs hz hp hl⟩
    · cases h
  | _ => simp [frzSV] at h

/-- A call on immutable data that answers immutable data, and changes nothing that was there. (O: what is others'.) -/
def PCall (P : Program) (f : FuncId) (args : List CV) (r : SV) : Prop :=
  ∀ (O : Nat → Prop) (w : World) (vals : List Value), (∀ m, O m → m < w.heap.size) → TRel w O noneμ args vals →
    Calls P f vals.toArray w fun e w' => ∃ v, e = .returned v ∧ Ext O w O noneμ w' O noneμ ∧ SRel w' O noneμ r v

theorem own_none : Own F noneH μ = F := by
  funext m
  apply propext
  constructor
  · rintro (h | ⟨k, hk, _⟩)
    · exact h
    · cases hk
  · exact .inl

theorem hrel_none (h : ∀ m, F m → m < w.heap.size) : HRel F w noneμ noneH 0 :=
  ⟨fun k B hk => (by cases hk), fun k k' m hk => (by cases hk), fun k m hm => (by cases hm), fun k m hk => (by cases hk), h⟩

/-- Whatever is x is y. -/
def ILe (x y : IV) : Prop := ∀ w O v, IRel w O x v → IRel w O y v
def SLe (x y : SV) : Prop := ∀ w O μ v, SRel w O μ x v → SRel w O μ y v
def CLe (x y : CV) : Prop := ∀ w O μ v, CRel w O μ x v → CRel w O μ y v

theorem ILe.refl (x : IV) : ILe x x := fun _ _ _ h => h
theorem ILe.of_eq {x y : IV} (h : x = y) : ILe x y := h ▸ ILe.refl x
theorem CLe.refl (x : CV) : CLe x x := fun _ _ _ _ h => h
theorem CLe.of_eq {x y : CV} (h : x = y) : CLe x y := h ▸ CLe.refl x
theorem SLe.of_eq {x y : SV} (h : x = y) : SLe x y := h ▸ fun _ _ _ _ h => h
theorem CLe.imm {x y : IV} (h : ILe x y) : CLe (.one (.imm x)) (.one (.imm y)) := fun w O _ v hx => h w O v hx
theorem SLe.cv {x y : CV} (h : CLe x y) : SLe (.cv x) (.cv y) := fun w O μ v hx => h w O μ v hx
theorem SLe.tup {l m : List CV} (h : l.length = m.length) (he : ∀ (i : Nat) x y, l[i]? = some x → m[i]? = some y → CLe x y) : SLe (.tup l) (.tup m) := by
  rintro w O μ v ⟨vs, hv, hl, hr⟩
  refine ⟨vs, hv, hl.trans h, fun i y u hy hu => ?_⟩
  have hi : i < l.length := by rw [h]; exact (List.getElem?_eq_some_iff.1 hy).1
  exact he i l[i] y (List.getElem?_eq_getElem hi) hy w O μ u (hr i l[i] u (List.getElem?_eq_getElem hi) hu)
theorem SLe.pair {a b c d : CV} (h1 : CLe a c) (h2 : CLe b d) : SLe (.tup [a, b]) (.tup [c, d]) := SLe.tup rfl fun i x y hx hy => by
  match i, hx, hy with
  | 0, hx, hy => simp at hx hy; subst hx; subst hy; exact h1
  | 1, hx, hy => simp at hx hy; subst hx; subst hy; exact h2
theorem SLe.triple {a b c d e f : CV} (h1 : CLe a d) (h2 : CLe b e) (h3 : CLe c f) : SLe (.tup [a, b, c]) (.tup [d, e, f]) := SLe.tup rfl fun i x y hx hy => by
  match i, hx, hy with
  | 0, hx, hy => simp at hx hy; subst hx; subst hy; exact h1
  | 1, hx, hy => simp at hx hy; subst hx; subst hy; exact h2
  | 2, hx, hy => simp at hx hy; subst hx; subst hy; exact h3

theorem ILe.sl {e n e' n' : Nat} {ex ex' : Bool} {c c' : Nat → Nat → IV} (hn : n' = n) (hex : ex' = true → ex = true) (hc : n = 0 ∨ (e' = e ∧ ∀ i j, i < n → j < e → ILe (c i j) (c' i j))) : ILe (.sl e n ex c) (.sl e' n' ex' c') := by
  rintro w O v (⟨hv, h0⟩ | ⟨b, o, cap, hv, h1, h2, h3, h4, h5, h6⟩)
  · exact .inl ⟨hv, hn.trans h0⟩
  · refine .inr ⟨b, o, cap, hn ▸ hv, by omega, h2, fun h => by rw [h3 (hex h), hn], h4, h5, fun i hi j hj => ?_⟩
    rcases hc with hc | ⟨rfl, hc⟩
    · omega
    · obtain ⟨u, hu, hr⟩ := h6 i (by omega) j hj
      exact ⟨u, hu, hc i j (by omega) hj w O u hr⟩

/-- What a body's end must be: its results, handed out, are these. -/
def Ends (r : SV) (x : SV) (H : Nat → Option ABlk) (_ : Nat) : Prop := ∃ y p, frzSV H x = some (y, p) ∧ p ∧ SLe y r

theorem Ends.intro {r x y : SV} {H : Nat → Option ABlk} {n : Nat} {p : Prop} (h : frzSV H x = some (y, p)) (hp : p) (he : y = r) : Ends r x H n := ⟨y, p, h, hp, SLe.of_eq he⟩
theorem Ends.le {r x y : SV} {H : Nat → Option ABlk} {n : Nat} {p : Prop} (h : frzSV H x = some (y, p)) (hp : p) (he : SLe y r) : Ends r x H n := ⟨y, p, h, hp, he⟩

theorem PCall_of {f : FuncId} {args : List CV} {r : SV} (h : ACall P f args noneH 0 (Ends r)) : PCall P f args r := by
  intro O w vals hO hA
  have hA' : TRel w (Own O noneH noneμ) noneμ args vals := by rw [own_none]; exact hA
  refine (h O noneμ w vals (hrel_none hO) hA').mono ?_
  rintro e w' ⟨v, μ', x, H', nx', he, hext, hH', hs, y, p, hf, hp, hle⟩
  refine ⟨v, he, ?_, hle _ _ _ _ (frzSV_sound hH' noneμ hf hp hs)⟩
  rw [own_none] at hext
  exact ⟨hext.os, hext.tape, hext.output, hext.size, hext.keep, hext.shape, fun k m hm => (by cases hm), fun m hm => .inl hm, hext.frn, hext.frz⟩

theorem ret_bool {a b : Bool} (h : a = b) : SV.cv (ione (.bool a)) = .cv (ibool b) := by rw [h]; rfl
theorem ret_int {k : IntKind} {a b : Int} (h : a = b) : SV.cv (ione (.int k a)) = .cv (ione (.int k b)) := by rw [h]

theorem immA_rel {O : Nat → Prop} {μ μ' : Nat → Option Nat} : ∀ {x : AV} {v : Value}, immAV x = true → ARel w O μ x v → ARel w O μ' x v
  | .imm _, _, _, hx => hx
  | .vptr _ _, _, _, hx => hx
  | .fn f nf first nc caps, v, h, hx => by
    obtain ⟨fs, cs, hv, h1, h2, h3, h4⟩ := hx
    simp only [immAV, Bool.and_eq_true, List.all_eq_true, List.mem_range] at h
    refine ⟨fs, cs, hv, h1, h2, fun i u hu => ?_, fun i u hu => ?_⟩
    · exact immA_rel (x := first i) (h.1 i (by rw [← h1]; exact (List.getElem?_eq_some_iff.1 hu).1)) (h3 i u hu)
    · exact immA_rel (x := caps i) (h.2 i (by rw [← h2]; exact (List.getElem?_eq_some_iff.1 hu).1)) (h4 i u hu)
  | .own _ _ _ _, _, h, _ => by simp [immAV] at h
  | .osl _ _ _ _ _ _, _, h, _ => by simp [immAV] at h
  | .omp _, _, h, _ => by simp [immAV] at h
theorem immC_rel {O : Nat → Prop} {μ μ' : Nat → Option Nat} {x : CV} {v : Value} (h : immCV x = true) (hx : CRel w O μ x v) : CRel w O μ' x v := by
  cases x with
  | one x => exact immA_rel (x := x) h hx
  | agg l =>
    obtain ⟨cs, hv, hl, hr⟩ := hx
    simp only [immCV, List.all_eq_true] at h
    exact ⟨cs, hv, hl, fun i x u h1 h2 => immA_rel (h x (List.mem_of_getElem? h1)) (hr i x u h1 h2)⟩
theorem immT_rel {O : Nat → Prop} {μ μ' : Nat → Option Nat} {l : List CV} {vs : List Value} (h : l.all immCV = true) (hx : TRel w O μ l vs) : TRel w O μ' l vs := by
  rw [List.all_eq_true] at h
  exact ⟨hx.1, fun i x u h1 h2 => immC_rel (h x (List.mem_of_getElem? h1)) (hx.2 i x u h1 h2)⟩
theorem immS_rel {O : Nat → Prop} {μ μ' : Nat → Option Nat} {x : SV} {v : Value} (h : immSV x = true) (hx : SRel w O μ x v) : SRel w O μ' x v := by
  cases x with
  | cv c => exact immC_rel (x := c) h hx
  | tup l => obtain ⟨vs, hv, hl⟩ := hx; exact ⟨vs, hv, immT_rel h hl⟩
  | _ => simp [immSV] at h

/-- A named function with a body. -/
def CallOk (P : Program) (f : FuncId) : Prop := (P.funcs[f]?.map fun fn => (fn.name == "runtime.NumGoroutine", fn.body.isSome)) = some (false, true)

theorem run_callFunc {f : FuncId} (h : CallOk P f) (args : Array Value) : (callFunc f args).run P w = .ok (.enter f args) w := by
  unfold CallOk at h
  rw [Option.map_eq_some_iff] at h
  obtain ⟨fn, hf, he⟩ := h
  simp only [Prod.mk.injEq] at he
  obtain ⟨h1, h2⟩ := he
  have n1 : ¬ fn.name = "runtime.NumGoroutine" := by simpa using h1
  have n2 : ¬ fn.body = none := by intro e; rw [e] at h2; cases h2
  simp [callFunc, hf, n1, n2]

def fnList (n : Nat) (g : Nat → AV) : List CV := (List.range n).map fun i => .one (g i)

/-- Which function a call enters, on what: what was bound first, the arguments, what was captured. -/
def callOf (E : Nat → SV) (c : Call) : Option (FuncId × List CV × Prop) :=
  match c.callee with
  | .value x => match rd E x, listCV E c.args.toList with
    | .cv (.one (.fn (.func f) nf first nc caps)), some (cvs, p) => some (f, fnList nf first ++ (cvs ++ fnList nc caps), need E x ∧ p)
    | _, _ => none
  | _ => none

theorem fnList_rel {O : Nat → Prop} {n : Nat} {g : Nat → AV} {fs : List Value} (hl : fs.length = n) (h : ∀ i u, fs[i]? = some u → ARel w O μ (g i) u) : TRel w O μ (fnList n g) fs := by
  refine ⟨by simp [fnList, hl], fun i x u hx hu => ?_⟩
  have hi : i < n := by rw [← hl]; exact (List.getElem?_eq_some_iff.1 hu).1
  simp only [fnList, List.getElem?_map, List.getElem?_range hi, Option.map_some, Option.some.injEq] at hx
  subst hx
  exact h i u hu

theorem TRel.append {O : Nat → Prop} {l k : List CV} {cs ds : List Value} (h : TRel w O μ l cs) (h' : TRel w O μ k ds) : TRel w O μ (l ++ k) (cs ++ ds) := by
  refine ⟨by simp [h.1, h'.1], fun i y v h1 h2 => ?_⟩
  rw [List.getElem?_append] at h1 h2
  rw [h.1] at h2
  split at h1
  · rename_i hlt; rw [if_pos hlt] at h2; exact h.2 i y v h1 h2
  · rename_i hlt; rw [if_neg hlt] at h2; exact h'.2 _ y v h1 h2

theorem callOf_sound {O : Nat → Prop} (hE : ERel w O μ E a) {c : Call} {o : Oper} {f : FuncId} {l : List CV} {p : Prop} (h : callOf E c = some (f, l, p)) (hp : p) (hc : CallOk P f) (ho : o.op = .call c) :
    ∃ vals : List Value, TRel w O μ l vals ∧ (execOp a.eval o).run P w = .ok (.enter f vals.toArray) w := by
  obtain ⟨callee, args, tys⟩ := c
  unfold callOf at h
  split at h
  · rename_i x hcal
    simp only at hcal
    subst hcal
    split at h
    · rename_i f' nf first nc caps cvs q hx hl
      simp only [Option.some.injEq, Prod.mk.injEq] at h
      obtain ⟨rfl, rfl, rfl⟩ := h
      obtain ⟨fs, cs, hv, h1, h2, h3, h4⟩ := rd_one hE hx hp.1
      have hA := listCV_sound hE _ _ _ hl hp.2
      refine ⟨fs ++ (args.toList.map a.eval ++ cs), (fnList_rel h1 h3).append (hA.append (fnList_rel h2 h4)), ?_⟩
      have hr := run_callFunc (w := w) hc (fs.toArray ++ (args.map a.eval ++ cs.toArray))
      have e : (fs ++ (args.toList.map a.eval ++ cs)).toArray = fs.toArray ++ (args.map a.eval ++ cs.toArray) := by apply Array.toList_inj.1; simp
      rw [e]
      simp [execOp, ho, resolve, hv, Deferred.ofValue, invoke, hr]
    · cases h
  · cases h

/-- The world behind such a call, as the caller sees it. -/
theorem pcall_step {C : Ctx K} {w' : World} {r : SV} {v : Value} (hR : Rel C μ S a w) (hext : Ext (Own C.F S.heap μ) w (Own C.F S.heap μ) noneμ w' (Own C.F S.heap μ) noneμ) (hs : SRel w' (Own C.F S.heap μ) noneμ r v) (hr : immSV r = true) :
    Rel C μ S a w' ∧ SRel w' (Own C.F S.heap μ) μ r v := by
  have hall : ∀ b, b < w.heap.size → w'.heap[b]? = w.heap[b]? := fun b hb => by
    by_cases h : Own C.F S.heap μ b
    · exact hext.frn b hb h
    · exact hext.keep b hb h
  have he : Ext C.F w (Own C.F S.heap μ) μ w' (Own C.F S.heap μ) μ :=
    ⟨hext.os, hext.tape, hext.output, hext.size, hext.keep, hext.shape, fun _ _ h => h, fun m hm => .inl hm, fun b hb _ => hall b hb, hext.frz⟩
  refine ⟨⟨hR.defers, hR.size, hR.env.mono he, ⟨fun k B hk => ?_, hR.heap.inj, fun k m hm => ?_, hR.heap.dis, fun m hm => Nat.lt_of_lt_of_le (hR.heap.frn m hm) hext.size⟩, hR.ext.trans he⟩, immS_rel hr hs⟩
  · obtain ⟨h1, h2⟩ := hR.heap.blk k B hk
    exact ⟨h1, h2.mono he rfl fun m hm => hall m (hR.heap.lt k m hm).2⟩
  · have := hR.heap.lt k m hm
    exact ⟨this.1, Nat.lt_of_lt_of_le this.2 hext.size⟩

theorem own_lt {C : Ctx K} (hR : Rel C μ S a w) : ∀ m, Own C.F S.heap μ m → m < w.heap.size := by
  rintro m (h | ⟨k, _, hm⟩)
  · exact hR.heap.frn m h
  · exact (hR.heap.lt k m hm).2

end
end Go.Proofs.Ytndfcbcmeeemfaa.Abs
